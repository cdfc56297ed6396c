import Derived.Test.YtndikkpmlofebaaO1H
namespace Go.Ga
open Go Go.Proofs
set_option linter.unusedSimpArgs false
set_option linter.unusedVariables false

theorem wr_dig : ∀ d, d < 16 → wr (dig d).toNat = d := by decide +kernel
theorem dig_wr : ∀ c : Nat, c < 256 → ¬ wr c = 16 → (dig (wr c)).toNat = c := by decide +kernel
theorem unh_hexL (l : List UInt8) : unh (hexL l) = some l := by
  induction l with
  | nil => rfl
  | cons b l ih =>
    have hb := b.toNat_lt
    have h1 : wr (dig (b.toNat / 16)).toNat = b.toNat / 16 := wr_dig _ (by omega)
    have h2 : wr (dig (b.toNat % 16)).toNat = b.toNat % 16 := wr_dig _ (by omega)
    rw [hexL, unh, h1, h2, if_neg (by omega), ih]
    have : b.toNat / 16 * 16 + b.toNat % 16 = b.toNat := by omega
    rw [this]
    simp
theorem hexL_unh : ∀ (k : Nat) (s d : List UInt8), s.length ≤ k → unh s = some d → hexL d = s := by
  intro k
  induction k with
  | zero =>
    intro s d hs h
    have : s = [] := List.eq_nil_of_length_eq_zero (by omega)
    subst this
    simp only [unh, Option.some.injEq] at h
    subst h; rfl
  | succ k ih =>
    intro s d hs h
    match s, hs, h with
    | [], _, h =>
      simp only [unh, Option.some.injEq] at h
      subst h; rfl
    | [a], _, h => simp [unh] at h
    | a :: b :: l, hs, h =>
      rw [unh] at h
      split at h
      · cases h
      · rename_i hab
        have ha := a.toNat_lt
        have hb := b.toNat_lt
        have wa := wr_le a.toNat
        have wb := wr_le b.toNat
        cases hl : unh l with
        | none => simp [hl] at h
        | some l' =>
          simp only [hl, Option.map_some, Option.some.injEq] at h
          subst h
          have e : (UInt8.ofNat (wr a.toNat * 16 + wr b.toNat)).toNat = wr a.toNat * 16 + wr b.toNat := by
            rw [UInt8.toNat_ofNat']; omega
          rw [hexL, e, ih l l' (by simp at hs; omega) hl]
          have e1 : (wr a.toNat * 16 + wr b.toNat) / 16 = wr a.toNat := by omega
          have e2 : (wr a.toNat * 16 + wr b.toNat) % 16 = wr b.toNat := by omega
          rw [e1, e2]
          have d1 : dig (wr a.toNat) = a := UInt8.toNat_inj.1 (dig_wr _ ha (by omega))
          have d2 : dig (wr b.toNat) = b := UInt8.toNat_inj.1 (dig_wr _ hb (by omega))
          rw [d1, d2]

theorem be_succ (k n : Nat) : be (k + 1) n = UInt8.ofNat (n / 256 ^ k) :: be k n := by
  refine List.ext_getElem (by simp [be]) fun i h1 h2 => ?_
  simp only [be, List.getElem_map, List.getElem_range]
  match i with
  | 0 => simp
  | i + 1 =>
    simp only [List.getElem_cons_succ, List.getElem_map, List.getElem_range]
    congr 3
    omega
theorem valFrom_be (n : Nat) : ∀ k x, valFrom x (be k n) = x * 256 ^ k + n % 256 ^ k := by
  intro k
  induction k with
  | zero => intro x; simp [be, valFrom, Nat.mod_one]
  | succ k ih =>
    intro x
    have e1 : n % 256 ^ (k + 1) = n % 256 ^ k + 256 ^ k * (n / 256 ^ k % 256) := by rw [Nat.pow_succ, Nat.mod_mul]
    have e2 : (UInt8.ofNat (n / 256 ^ k)).toNat = n / 256 ^ k % 256 := by rw [UInt8.toNat_ofNat']
    rw [be_succ, valFrom_cons, ih, e1, e2, Nat.pow_succ]
    generalize n / 256 ^ k % 256 = y
    generalize n % 256 ^ k = w
    generalize 256 ^ k = z
    rw [Nat.add_mul, Nat.mul_assoc x 256 z, Nat.mul_comm 256 z, Nat.mul_comm y z]
    omega
theorem val_be {k n : Nat} (h : n < 256 ^ k) : val (be k n) = n := by
  show valFrom 0 (be k n) = n
  rw [valFrom_be, Nat.mod_eq_of_lt h]; omega

theorem fn_Back {nx : Nat} {gt : Nat → Option Blk} {A : Option Addr} {n c x : Nat} {l : List UInt8} {s : ByteArray} (hr : Row nx gt 1 A n (l.map u8V)) (hc : n ≤ c) (hs : s.size ≤ 140737488351232) (hx : x < 18446744073709551616) :
    Ct Try.prog 5 [.slice A n c, .string s, .int .u64 (x : Nat)] nx gt fun v _ _ => v = .bool true := by
  refine Ct.of hmx r_lanyardlaw01_OctetBack (by simp [c_lanyardlaw01_OctetBack]) fun b hb => ?_
  have rest : ∀ (nx' : Nat) (gt' : Nat → Option Blk) (A1 A2 : Option Addr) (n1 c1 c2 k : Nat), nx ≤ nx' → (∀ i, i < nx → gt' i = gt i) → Row nx' gt' 1 A1 n1 (l.map u8V) → Row nx' gt' 1 A2 k ((be k x).map u8V) → isLeast x k →
      ∀ f : Regs, f 0 = .slice A n c → f 2 = .int .u64 (x : Nat) → f 7 = .bool true → f 8 = .slice A1 n1 c1 → f 9 = .bool true → f 12 = .slice A2 k c2 → f 13 = .int .u64 (x : Nat) → f 14 = .bool true →
      RC.vc Try.prog (match c_lanyardlaw01_OctetBack.code with | .seq _ (.seq _ (.seq _ (.seq _ (.seq _ (.seq _ (.seq _ (.seq _ c))))))) => c | _ => .skip) f ⟨nx', b, gt'⟩ (D Try.prog (.top (endK c_lanyardlaw01_OctetBack.results b nx gt fun v _ _ => v = .bool true))) := by
    intro nx' gt' A1 A2 n1 c1 c2 k hle hk hr1 hr2 hkl f h0 h2 h7 h8 h9 h12 h13 h14
    have hr0 := hr.keep hle hk
    have q0 : ∀ b, rowOf ⟨nx', b, gt'⟩ A n = some _ := fun b => hr0.rowOf
    have q1 : ∀ b, rowOf ⟨nx', b, gt'⟩ A1 n1 = some _ := fun b => hr1.rowOf
    have k1 := hkl.1
    have k8 := hkl.2.1
    have t1 : (1 : Int) ≤ (k : Int) := by omega
    have t2 : (k : Int) ≤ 8 := by omega
    by_cases hk1 : k = 1
    · have t3 : (k : Int) = 1 := by omega
      simp only [c_lanyardlaw01_OctetBack, ↓vc_skip, ↓vc_ops0, ↓vc_opsQ, ↓vc_seq, ↓vc_block, ↓vc_exit, ↓vc_ret, ↓vc_cond, ↓D_top, ↓D_thn_n, ↓D_thn_e, ↓D_thn_r, ↓D_thn_p, ↓D_blk_n, ↓D_blk_e, ↓D_blk_r, ↓D_blk_p, ↓condK_t, ↓condK_f, ↓go_nil, ↓goQ_nil, ↓go_guard, ↓goQ_guard, ↓guardK_t, ↓guardK_f, ↓guardQ_t, ↓guardQ_f, ↓go_call0, ↓goQ_call0, ↓go_callT, ↓put_e, ↓put_n, ↓ev_t, ↓ev_k, ↓go_op, ↓goQ_op, ↓asI_e, ↓asB_e, ↓asP_e, ↓asS_e, ↓asStr_e, ↓asT_e, ↓asA_e, ↓asO_e, ↓asC_e, ↓asG_b, ↓asG_u, ↓asF_e, ↓o_mv, ↓o_pick, ↓o_new, ↓o_box, ↓o_build, ↓o_mkSl, ↓o_load1, ↓o_loadN, ↓o_store, ↓o_bin, ↓o_eqB, ↓o_eqN, ↓o_un, ↓o_toInt, ↓o_s2b, ↓o_b2s, ↓o_s2s, ↓o_iface, ↓o_func, ↓o_make, ↓o_slStr, ↓o_sl, ↓o_slArr, ↓o_fieldAddr, ↓o_field1, ↓o_fieldN, ↓o_ixAddr, ↓o_ixAddrA, ↓o_ixArr, ↓o_ixStr, ↓o_extract, ↓o_lenStr, ↓o_lenSl, ↓o_lenK, ↓o_append, ↓o_appendS, ↓o_mm, ↓mm_nil, ↓mm_k, ↓b_add, ↓b_sub, ↓b_mul, ↓b_quo, ↓b_rem, ↓b_and, ↓b_or, ↓b_xor, ↓b_eql, ↓b_neq, ↓b_lss, ↓b_leq, ↓b_gtr, ↓b_geq, ↓b_shl, ↓b_shr, ↓b_adds, ↓b_eqls, ↓b_neqs, ↓u_not, ↓u_neg, ↓ix_n, ↓ix_k, ↓ix_t, ↓oI_e, ↓add_e, ↓putm_e, ↓kill_e, ↓raise_e, ↓lower_e, ↓get_e, ↓next_e, ↓bar_e, ↓write_e, ↓slK_n, ↓slK_s, ↓loopK_e, ↓loopK_r, ↓loopK_p, cv_int, cv_u8, cv_bool, cv_str, cv_sl, cv_ptr, cv_agg, ↓t2s, ↓t2a, ↓t2b, ↓t3s, ↓t3a, ↓t3b, ↓t3c, List.length_cons, List.length_nil, Nat.reduceEqDiff, Nat.reduceLeDiff, Nat.reduceAdd, Nat.reduceSub, Nat.reduceMul, Int.reduceLT, Int.reduceLE, Int.reduceEq, Int.reduceToNat, Int.reduceAdd, Int.reduceSub, Int.reduceMul, reduceCtorEq, ↓reduceIte, ite_true, ite_false, if_true, if_false, one0, one1, one2, one3, ini0, ini1, ini2, ini3, ini4, ini5, ini6, upd_e, List.map_cons, List.map_nil, Option.map_some, List.append_nil, List.cons_append, List.nil_append, decide_true, decide_false, Bool.not_true, Bool.not_false, Int.toNat_natCast, Nat.mul_one, Nat.zero_add, Nat.add_zero, Int.toNat_zero, Int.toNat_one, Int.cast_ofNat_Int, true_and, and_true, Option.isSome_some, Option.isSome_none, Bool.false_eq_true, beq_self_eq_true, false_implies, true_implies, ne_eq, not_true_eq_false, not_false_eq_true, BEq.rfl, Bool.true_beq, Bool.false_beq, end_n, end_r, res_nil, res_t, h0, h2, h7, h8, h9, h12, h13, h14, q0, q1, bytesOf_map, t1, t2, t3, decide_true]
      exact ⟨by omega, hk⟩
    · have t3 : ¬ (k : Int) = 1 := by omega
      obtain ⟨a, ce, ro, rfl, e2, e3, e4, e5⟩ := hr2.cells (by omega)
      have e5' := e5 0 (by omega)
      rw [getD_u8 (by rw [be_length]; omega), be_getD _ _ _ (by omega)] at e5'
      simp only [Nat.add_zero] at e5'
      have hpos : 0 < 256 ^ (k - 1) := Nat.pow_pos (by decide)
      have hge : 256 ^ (k - 1) ≤ x := by rcases hkl.2.2.2 with h | h; exact absurd h hk1; exact h
      have hlt : x < 256 ^ (k - 1) * 256 := by
        have := hkl.2.2.1
        rwa [show k = k - 1 + 1 by omega, Nat.pow_succ] at this
      have d1 : 1 ≤ x / 256 ^ (k - 1) := (Nat.le_div_iff_mul_le hpos).2 (by omega)
      have d2 : x / 256 ^ (k - 1) < 256 := (Nat.div_lt_iff_lt_mul hpos).2 (by rw [Nat.mul_comm]; exact hlt)
      have t4 : ¬ (((UInt8.ofNat (x / 256 ^ (k - 1 - 0))).toNat : Nat) : Int) = 0 := by
        rw [Nat.sub_zero, UInt8.toNat_ofNat']; omega
      simp only [c_lanyardlaw01_OctetBack, ↓vc_skip, ↓vc_ops0, ↓vc_opsQ, ↓vc_seq, ↓vc_block, ↓vc_exit, ↓vc_ret, ↓vc_cond, ↓D_top, ↓D_thn_n, ↓D_thn_e, ↓D_thn_r, ↓D_thn_p, ↓D_blk_n, ↓D_blk_e, ↓D_blk_r, ↓D_blk_p, ↓condK_t, ↓condK_f, ↓go_nil, ↓goQ_nil, ↓go_guard, ↓goQ_guard, ↓guardK_t, ↓guardK_f, ↓guardQ_t, ↓guardQ_f, ↓go_call0, ↓goQ_call0, ↓go_callT, ↓put_e, ↓put_n, ↓ev_t, ↓ev_k, ↓go_op, ↓goQ_op, ↓asI_e, ↓asB_e, ↓asP_e, ↓asS_e, ↓asStr_e, ↓asT_e, ↓asA_e, ↓asO_e, ↓asC_e, ↓asG_b, ↓asG_u, ↓asF_e, ↓o_mv, ↓o_pick, ↓o_new, ↓o_box, ↓o_build, ↓o_mkSl, ↓o_load1, ↓o_loadN, ↓o_store, ↓o_bin, ↓o_eqB, ↓o_eqN, ↓o_un, ↓o_toInt, ↓o_s2b, ↓o_b2s, ↓o_s2s, ↓o_iface, ↓o_func, ↓o_make, ↓o_slStr, ↓o_sl, ↓o_slArr, ↓o_fieldAddr, ↓o_field1, ↓o_fieldN, ↓o_ixAddr, ↓o_ixAddrA, ↓o_ixArr, ↓o_ixStr, ↓o_extract, ↓o_lenStr, ↓o_lenSl, ↓o_lenK, ↓o_append, ↓o_appendS, ↓o_mm, ↓mm_nil, ↓mm_k, ↓b_add, ↓b_sub, ↓b_mul, ↓b_quo, ↓b_rem, ↓b_and, ↓b_or, ↓b_xor, ↓b_eql, ↓b_neq, ↓b_lss, ↓b_leq, ↓b_gtr, ↓b_geq, ↓b_shl, ↓b_shr, ↓b_adds, ↓b_eqls, ↓b_neqs, ↓u_not, ↓u_neg, ↓ix_n, ↓ix_k, ↓ix_t, ↓oI_e, ↓add_e, ↓putm_e, ↓kill_e, ↓raise_e, ↓lower_e, ↓get_e, ↓next_e, ↓bar_e, ↓write_e, ↓slK_n, ↓slK_s, ↓loopK_e, ↓loopK_r, ↓loopK_p, cv_int, cv_u8, cv_bool, cv_str, cv_sl, cv_ptr, cv_agg, ↓t2s, ↓t2a, ↓t2b, ↓t3s, ↓t3a, ↓t3b, ↓t3c, List.length_cons, List.length_nil, Nat.reduceEqDiff, Nat.reduceLeDiff, Nat.reduceAdd, Nat.reduceSub, Nat.reduceMul, Int.reduceLT, Int.reduceLE, Int.reduceEq, Int.reduceToNat, Int.reduceAdd, Int.reduceSub, Int.reduceMul, reduceCtorEq, ↓reduceIte, ite_true, ite_false, if_true, if_false, one0, one1, one2, one3, ini0, ini1, ini2, ini3, ini4, ini5, ini6, upd_e, List.map_cons, List.map_nil, Option.map_some, List.append_nil, List.cons_append, List.nil_append, decide_true, decide_false, Bool.not_true, Bool.not_false, Int.toNat_natCast, Nat.mul_one, Nat.zero_add, Nat.add_zero, Int.toNat_zero, Int.toNat_one, Int.cast_ofNat_Int, true_and, and_true, Option.isSome_some, Option.isSome_none, Bool.false_eq_true, beq_self_eq_true, false_implies, true_implies, ne_eq, not_true_eq_false, not_false_eq_true, BEq.rfl, Bool.true_beq, Bool.false_beq, end_n, end_r, res_nil, res_t, h0, h2, h7, h8, h9, h12, h13, h14, q0, q1, bytesOf_map, t1, t2, t3, e3, e5', t4, not_false_eq_true, decide_true, decide_false]
      repeat refine And.intro (by omega) ?_
      first | exact hk | exact ⟨by omega, hk⟩
  simp only [c_lanyardlaw01_OctetBack, ↓vc_skip, ↓vc_ops0, ↓vc_opsQ, ↓vc_seq, ↓vc_block, ↓vc_exit, ↓vc_ret, ↓vc_cond, ↓D_top, ↓D_thn_n, ↓D_thn_e, ↓D_thn_r, ↓D_thn_p, ↓D_blk_n, ↓D_blk_e, ↓D_blk_r, ↓D_blk_p, ↓condK_t, ↓condK_f, ↓go_nil, ↓goQ_nil, ↓go_guard, ↓goQ_guard, ↓guardK_t, ↓guardK_f, ↓guardQ_t, ↓guardQ_f, ↓go_call0, ↓goQ_call0, ↓go_callT, ↓put_e, ↓put_n, ↓ev_t, ↓ev_k, ↓go_op, ↓goQ_op, ↓asI_e, ↓asB_e, ↓asP_e, ↓asS_e, ↓asStr_e, ↓asT_e, ↓asA_e, ↓asO_e, ↓asC_e, ↓asG_b, ↓asG_u, ↓asF_e, ↓o_mv, ↓o_pick, ↓o_new, ↓o_box, ↓o_build, ↓o_mkSl, ↓o_load1, ↓o_loadN, ↓o_store, ↓o_bin, ↓o_eqB, ↓o_eqN, ↓o_un, ↓o_toInt, ↓o_s2b, ↓o_b2s, ↓o_s2s, ↓o_iface, ↓o_func, ↓o_make, ↓o_slStr, ↓o_sl, ↓o_slArr, ↓o_fieldAddr, ↓o_field1, ↓o_fieldN, ↓o_ixAddr, ↓o_ixAddrA, ↓o_ixArr, ↓o_ixStr, ↓o_extract, ↓o_lenStr, ↓o_lenSl, ↓o_lenK, ↓o_append, ↓o_appendS, ↓o_mm, ↓mm_nil, ↓mm_k, ↓b_add, ↓b_sub, ↓b_mul, ↓b_quo, ↓b_rem, ↓b_and, ↓b_or, ↓b_xor, ↓b_eql, ↓b_neq, ↓b_lss, ↓b_leq, ↓b_gtr, ↓b_geq, ↓b_shl, ↓b_shr, ↓b_adds, ↓b_eqls, ↓b_neqs, ↓u_not, ↓u_neg, ↓ix_n, ↓ix_k, ↓ix_t, ↓oI_e, ↓add_e, ↓putm_e, ↓kill_e, ↓raise_e, ↓lower_e, ↓get_e, ↓next_e, ↓bar_e, ↓write_e, ↓slK_n, ↓slK_s, ↓loopK_e, ↓loopK_r, ↓loopK_p, cv_int, cv_u8, cv_bool, cv_str, cv_sl, cv_ptr, cv_agg, ↓t2s, ↓t2a, ↓t2b, ↓t3s, ↓t3a, ↓t3b, ↓t3c, List.length_cons, List.length_nil, Nat.reduceEqDiff, Nat.reduceLeDiff, Nat.reduceAdd, Nat.reduceSub, Nat.reduceMul, Int.reduceLT, Int.reduceLE, Int.reduceEq, Int.reduceToNat, Int.reduceAdd, Int.reduceSub, Int.reduceMul, reduceCtorEq, ↓reduceIte, ite_true, ite_false, if_true, if_false, one0, one1, one2, one3, ini0, ini1, ini2, ini3, ini4, ini5, ini6, upd_e, List.map_cons, List.map_nil, Option.map_some, List.append_nil, List.cons_append, List.nil_append, decide_true, decide_false, Bool.not_true, Bool.not_false, Int.toNat_natCast, Nat.mul_one, Nat.zero_add, Nat.add_zero, Int.toNat_zero, Int.toNat_one, Int.cast_ofNat_Int, true_and, and_true, Option.isSome_some, Option.isSome_none, Bool.false_eq_true, beq_self_eq_true, false_implies, true_implies, ne_eq, not_true_eq_false, not_false_eq_true, BEq.rfl, Bool.true_beq, Bool.false_beq]
  refine callK_of ct_awake01 (fun v nx1 gt1 hle1 hk1 hC => ?_) hb
  subst hC
  by_cases h1 : (1000 : Int) < n
  · simp only [↓vc_skip, ↓vc_ops0, ↓vc_opsQ, ↓vc_seq, ↓vc_block, ↓vc_exit, ↓vc_ret, ↓vc_cond, ↓D_top, ↓D_thn_n, ↓D_thn_e, ↓D_thn_r, ↓D_thn_p, ↓D_blk_n, ↓D_blk_e, ↓D_blk_r, ↓D_blk_p, ↓condK_t, ↓condK_f, ↓go_nil, ↓goQ_nil, ↓go_guard, ↓goQ_guard, ↓guardK_t, ↓guardK_f, ↓guardQ_t, ↓guardQ_f, ↓go_call0, ↓goQ_call0, ↓go_callT, ↓put_e, ↓put_n, ↓ev_t, ↓ev_k, ↓go_op, ↓goQ_op, ↓asI_e, ↓asB_e, ↓asP_e, ↓asS_e, ↓asStr_e, ↓asT_e, ↓asA_e, ↓asO_e, ↓asC_e, ↓asG_b, ↓asG_u, ↓asF_e, ↓o_mv, ↓o_pick, ↓o_new, ↓o_box, ↓o_build, ↓o_mkSl, ↓o_load1, ↓o_loadN, ↓o_store, ↓o_bin, ↓o_eqB, ↓o_eqN, ↓o_un, ↓o_toInt, ↓o_s2b, ↓o_b2s, ↓o_s2s, ↓o_iface, ↓o_func, ↓o_make, ↓o_slStr, ↓o_sl, ↓o_slArr, ↓o_fieldAddr, ↓o_field1, ↓o_fieldN, ↓o_ixAddr, ↓o_ixAddrA, ↓o_ixArr, ↓o_ixStr, ↓o_extract, ↓o_lenStr, ↓o_lenSl, ↓o_lenK, ↓o_append, ↓o_appendS, ↓o_mm, ↓mm_nil, ↓mm_k, ↓b_add, ↓b_sub, ↓b_mul, ↓b_quo, ↓b_rem, ↓b_and, ↓b_or, ↓b_xor, ↓b_eql, ↓b_neq, ↓b_lss, ↓b_leq, ↓b_gtr, ↓b_geq, ↓b_shl, ↓b_shr, ↓b_adds, ↓b_eqls, ↓b_neqs, ↓u_not, ↓u_neg, ↓ix_n, ↓ix_k, ↓ix_t, ↓oI_e, ↓add_e, ↓putm_e, ↓kill_e, ↓raise_e, ↓lower_e, ↓get_e, ↓next_e, ↓bar_e, ↓write_e, ↓slK_n, ↓slK_s, ↓loopK_e, ↓loopK_r, ↓loopK_p, cv_int, cv_u8, cv_bool, cv_str, cv_sl, cv_ptr, cv_agg, ↓t2s, ↓t2a, ↓t2b, ↓t3s, ↓t3a, ↓t3b, ↓t3c, List.length_cons, List.length_nil, Nat.reduceEqDiff, Nat.reduceLeDiff, Nat.reduceAdd, Nat.reduceSub, Nat.reduceMul, Int.reduceLT, Int.reduceLE, Int.reduceEq, Int.reduceToNat, Int.reduceAdd, Int.reduceSub, Int.reduceMul, reduceCtorEq, ↓reduceIte, ite_true, ite_false, if_true, if_false, one0, one1, one2, one3, ini0, ini1, ini2, ini3, ini4, ini5, ini6, upd_e, List.map_cons, List.map_nil, Option.map_some, List.append_nil, List.cons_append, List.nil_append, decide_true, decide_false, Bool.not_true, Bool.not_false, Int.toNat_natCast, Nat.mul_one, Nat.zero_add, Nat.add_zero, Int.toNat_zero, Int.toNat_one, Int.cast_ofNat_Int, true_and, and_true, Option.isSome_some, Option.isSome_none, Bool.false_eq_true, beq_self_eq_true, false_implies, true_implies, ne_eq, not_true_eq_false, not_false_eq_true, BEq.rfl, Bool.true_beq, Bool.false_beq, end_n, end_r, res_nil, res_t, h1, decide_true]
    exact ⟨by omega, hk1⟩
  by_cases h2 : (1000 : Int) < s.size
  · simp only [↓vc_skip, ↓vc_ops0, ↓vc_opsQ, ↓vc_seq, ↓vc_block, ↓vc_exit, ↓vc_ret, ↓vc_cond, ↓D_top, ↓D_thn_n, ↓D_thn_e, ↓D_thn_r, ↓D_thn_p, ↓D_blk_n, ↓D_blk_e, ↓D_blk_r, ↓D_blk_p, ↓condK_t, ↓condK_f, ↓go_nil, ↓goQ_nil, ↓go_guard, ↓goQ_guard, ↓guardK_t, ↓guardK_f, ↓guardQ_t, ↓guardQ_f, ↓go_call0, ↓goQ_call0, ↓go_callT, ↓put_e, ↓put_n, ↓ev_t, ↓ev_k, ↓go_op, ↓goQ_op, ↓asI_e, ↓asB_e, ↓asP_e, ↓asS_e, ↓asStr_e, ↓asT_e, ↓asA_e, ↓asO_e, ↓asC_e, ↓asG_b, ↓asG_u, ↓asF_e, ↓o_mv, ↓o_pick, ↓o_new, ↓o_box, ↓o_build, ↓o_mkSl, ↓o_load1, ↓o_loadN, ↓o_store, ↓o_bin, ↓o_eqB, ↓o_eqN, ↓o_un, ↓o_toInt, ↓o_s2b, ↓o_b2s, ↓o_s2s, ↓o_iface, ↓o_func, ↓o_make, ↓o_slStr, ↓o_sl, ↓o_slArr, ↓o_fieldAddr, ↓o_field1, ↓o_fieldN, ↓o_ixAddr, ↓o_ixAddrA, ↓o_ixArr, ↓o_ixStr, ↓o_extract, ↓o_lenStr, ↓o_lenSl, ↓o_lenK, ↓o_append, ↓o_appendS, ↓o_mm, ↓mm_nil, ↓mm_k, ↓b_add, ↓b_sub, ↓b_mul, ↓b_quo, ↓b_rem, ↓b_and, ↓b_or, ↓b_xor, ↓b_eql, ↓b_neq, ↓b_lss, ↓b_leq, ↓b_gtr, ↓b_geq, ↓b_shl, ↓b_shr, ↓b_adds, ↓b_eqls, ↓b_neqs, ↓u_not, ↓u_neg, ↓ix_n, ↓ix_k, ↓ix_t, ↓oI_e, ↓add_e, ↓putm_e, ↓kill_e, ↓raise_e, ↓lower_e, ↓get_e, ↓next_e, ↓bar_e, ↓write_e, ↓slK_n, ↓slK_s, ↓loopK_e, ↓loopK_r, ↓loopK_p, cv_int, cv_u8, cv_bool, cv_str, cv_sl, cv_ptr, cv_agg, ↓t2s, ↓t2a, ↓t2b, ↓t3s, ↓t3a, ↓t3b, ↓t3c, List.length_cons, List.length_nil, Nat.reduceEqDiff, Nat.reduceLeDiff, Nat.reduceAdd, Nat.reduceSub, Nat.reduceMul, Int.reduceLT, Int.reduceLE, Int.reduceEq, Int.reduceToNat, Int.reduceAdd, Int.reduceSub, Int.reduceMul, reduceCtorEq, ↓reduceIte, ite_true, ite_false, if_true, if_false, one0, one1, one2, one3, ini0, ini1, ini2, ini3, ini4, ini5, ini6, upd_e, List.map_cons, List.map_nil, Option.map_some, List.append_nil, List.cons_append, List.nil_append, decide_true, decide_false, Bool.not_true, Bool.not_false, Int.toNat_natCast, Nat.mul_one, Nat.zero_add, Nat.add_zero, Int.toNat_zero, Int.toNat_one, Int.cast_ofNat_Int, true_and, and_true, Option.isSome_some, Option.isSome_none, Bool.false_eq_true, beq_self_eq_true, false_implies, true_implies, ne_eq, not_true_eq_false, not_false_eq_true, BEq.rfl, Bool.true_beq, Bool.false_beq, end_n, end_r, res_nil, res_t, h1, h2, decide_true, decide_false]
    exact ⟨by omega, hk1⟩
  have hlen : l.length = n := by simpa using hr.len
  simp only [↓vc_skip, ↓vc_ops0, ↓vc_opsQ, ↓vc_seq, ↓vc_block, ↓vc_exit, ↓vc_ret, ↓vc_cond, ↓D_top, ↓D_thn_n, ↓D_thn_e, ↓D_thn_r, ↓D_thn_p, ↓D_blk_n, ↓D_blk_e, ↓D_blk_r, ↓D_blk_p, ↓condK_t, ↓condK_f, ↓go_nil, ↓goQ_nil, ↓go_guard, ↓goQ_guard, ↓guardK_t, ↓guardK_f, ↓guardQ_t, ↓guardQ_f, ↓go_call0, ↓goQ_call0, ↓go_callT, ↓put_e, ↓put_n, ↓ev_t, ↓ev_k, ↓go_op, ↓goQ_op, ↓asI_e, ↓asB_e, ↓asP_e, ↓asS_e, ↓asStr_e, ↓asT_e, ↓asA_e, ↓asO_e, ↓asC_e, ↓asG_b, ↓asG_u, ↓asF_e, ↓o_mv, ↓o_pick, ↓o_new, ↓o_box, ↓o_build, ↓o_mkSl, ↓o_load1, ↓o_loadN, ↓o_store, ↓o_bin, ↓o_eqB, ↓o_eqN, ↓o_un, ↓o_toInt, ↓o_s2b, ↓o_b2s, ↓o_s2s, ↓o_iface, ↓o_func, ↓o_make, ↓o_slStr, ↓o_sl, ↓o_slArr, ↓o_fieldAddr, ↓o_field1, ↓o_fieldN, ↓o_ixAddr, ↓o_ixAddrA, ↓o_ixArr, ↓o_ixStr, ↓o_extract, ↓o_lenStr, ↓o_lenSl, ↓o_lenK, ↓o_append, ↓o_appendS, ↓o_mm, ↓mm_nil, ↓mm_k, ↓b_add, ↓b_sub, ↓b_mul, ↓b_quo, ↓b_rem, ↓b_and, ↓b_or, ↓b_xor, ↓b_eql, ↓b_neq, ↓b_lss, ↓b_leq, ↓b_gtr, ↓b_geq, ↓b_shl, ↓b_shr, ↓b_adds, ↓b_eqls, ↓b_neqs, ↓u_not, ↓u_neg, ↓ix_n, ↓ix_k, ↓ix_t, ↓oI_e, ↓add_e, ↓putm_e, ↓kill_e, ↓raise_e, ↓lower_e, ↓get_e, ↓next_e, ↓bar_e, ↓write_e, ↓slK_n, ↓slK_s, ↓loopK_e, ↓loopK_r, ↓loopK_p, cv_int, cv_u8, cv_bool, cv_str, cv_sl, cv_ptr, cv_agg, ↓t2s, ↓t2a, ↓t2b, ↓t3s, ↓t3a, ↓t3b, ↓t3c, List.length_cons, List.length_nil, Nat.reduceEqDiff, Nat.reduceLeDiff, Nat.reduceAdd, Nat.reduceSub, Nat.reduceMul, Int.reduceLT, Int.reduceLE, Int.reduceEq, Int.reduceToNat, Int.reduceAdd, Int.reduceSub, Int.reduceMul, reduceCtorEq, ↓reduceIte, ite_true, ite_false, if_true, if_false, one0, one1, one2, one3, ini0, ini1, ini2, ini3, ini4, ini5, ini6, upd_e, List.map_cons, List.map_nil, Option.map_some, List.append_nil, List.cons_append, List.nil_append, decide_true, decide_false, Bool.not_true, Bool.not_false, Int.toNat_natCast, Nat.mul_one, Nat.zero_add, Nat.add_zero, Int.toNat_zero, Int.toNat_one, Int.cast_ofNat_Int, true_and, and_true, Option.isSome_some, Option.isSome_none, Bool.false_eq_true, beq_self_eq_true, false_implies, true_implies, ne_eq, not_true_eq_false, not_false_eq_true, BEq.rfl, Bool.true_beq, Bool.false_beq, h1, h2, decide_false]
  refine callK_of (ct_Hex (hr.keep hle1 hk1) (by omega)) (fun v nx2 gt2 hle2 hk2 hC => ?_) (by omega)
  subst hC
  simp only [↓vc_skip, ↓vc_ops0, ↓vc_opsQ, ↓vc_seq, ↓vc_block, ↓vc_exit, ↓vc_ret, ↓vc_cond, ↓D_top, ↓D_thn_n, ↓D_thn_e, ↓D_thn_r, ↓D_thn_p, ↓D_blk_n, ↓D_blk_e, ↓D_blk_r, ↓D_blk_p, ↓condK_t, ↓condK_f, ↓go_nil, ↓goQ_nil, ↓go_guard, ↓goQ_guard, ↓guardK_t, ↓guardK_f, ↓guardQ_t, ↓guardQ_f, ↓go_call0, ↓goQ_call0, ↓go_callT, ↓put_e, ↓put_n, ↓ev_t, ↓ev_k, ↓go_op, ↓goQ_op, ↓asI_e, ↓asB_e, ↓asP_e, ↓asS_e, ↓asStr_e, ↓asT_e, ↓asA_e, ↓asO_e, ↓asC_e, ↓asG_b, ↓asG_u, ↓asF_e, ↓o_mv, ↓o_pick, ↓o_new, ↓o_box, ↓o_build, ↓o_mkSl, ↓o_load1, ↓o_loadN, ↓o_store, ↓o_bin, ↓o_eqB, ↓o_eqN, ↓o_un, ↓o_toInt, ↓o_s2b, ↓o_b2s, ↓o_s2s, ↓o_iface, ↓o_func, ↓o_make, ↓o_slStr, ↓o_sl, ↓o_slArr, ↓o_fieldAddr, ↓o_field1, ↓o_fieldN, ↓o_ixAddr, ↓o_ixAddrA, ↓o_ixArr, ↓o_ixStr, ↓o_extract, ↓o_lenStr, ↓o_lenSl, ↓o_lenK, ↓o_append, ↓o_appendS, ↓o_mm, ↓mm_nil, ↓mm_k, ↓b_add, ↓b_sub, ↓b_mul, ↓b_quo, ↓b_rem, ↓b_and, ↓b_or, ↓b_xor, ↓b_eql, ↓b_neq, ↓b_lss, ↓b_leq, ↓b_gtr, ↓b_geq, ↓b_shl, ↓b_shr, ↓b_adds, ↓b_eqls, ↓b_neqs, ↓u_not, ↓u_neg, ↓ix_n, ↓ix_k, ↓ix_t, ↓oI_e, ↓add_e, ↓putm_e, ↓kill_e, ↓raise_e, ↓lower_e, ↓get_e, ↓next_e, ↓bar_e, ↓write_e, ↓slK_n, ↓slK_s, ↓loopK_e, ↓loopK_r, ↓loopK_p, cv_int, cv_u8, cv_bool, cv_str, cv_sl, cv_ptr, cv_agg, ↓t2s, ↓t2a, ↓t2b, ↓t3s, ↓t3a, ↓t3b, ↓t3c, List.length_cons, List.length_nil, Nat.reduceEqDiff, Nat.reduceLeDiff, Nat.reduceAdd, Nat.reduceSub, Nat.reduceMul, Int.reduceLT, Int.reduceLE, Int.reduceEq, Int.reduceToNat, Int.reduceAdd, Int.reduceSub, Int.reduceMul, reduceCtorEq, ↓reduceIte, ite_true, ite_false, if_true, if_false, one0, one1, one2, one3, ini0, ini1, ini2, ini3, ini4, ini5, ini6, upd_e, List.map_cons, List.map_nil, Option.map_some, List.append_nil, List.cons_append, List.nil_append, decide_true, decide_false, Bool.not_true, Bool.not_false, Int.toNat_natCast, Nat.mul_one, Nat.zero_add, Nat.add_zero, Int.toNat_zero, Int.toNat_one, Int.cast_ofNat_Int, true_and, and_true, Option.isSome_some, Option.isSome_none, Bool.false_eq_true, beq_self_eq_true, false_implies, true_implies, ne_eq, not_true_eq_false, not_false_eq_true, BEq.rfl, Bool.true_beq, Bool.false_beq]
  refine callK_of (ct_Unhex (s := ⟨(hexL l).toArray⟩) (by rw [str_size, hexL_length]; omega)) (fun v nx3 gt3 hle3 hk3 hC => ?_) (by omega)
  obtain ⟨sl, rfl, hC⟩ := hC
  simp only [List.toList_toArray, unh_hexL] at hC ⊢
  obtain ⟨A1, n1, c1, rfl, hc1, hn1, hr1⟩ := hC
  simp only [↓vc_skip, ↓vc_ops0, ↓vc_opsQ, ↓vc_seq, ↓vc_block, ↓vc_exit, ↓vc_ret, ↓vc_cond, ↓D_top, ↓D_thn_n, ↓D_thn_e, ↓D_thn_r, ↓D_thn_p, ↓D_blk_n, ↓D_blk_e, ↓D_blk_r, ↓D_blk_p, ↓condK_t, ↓condK_f, ↓go_nil, ↓goQ_nil, ↓go_guard, ↓goQ_guard, ↓guardK_t, ↓guardK_f, ↓guardQ_t, ↓guardQ_f, ↓go_call0, ↓goQ_call0, ↓go_callT, ↓put_e, ↓put_n, ↓ev_t, ↓ev_k, ↓go_op, ↓goQ_op, ↓asI_e, ↓asB_e, ↓asP_e, ↓asS_e, ↓asStr_e, ↓asT_e, ↓asA_e, ↓asO_e, ↓asC_e, ↓asG_b, ↓asG_u, ↓asF_e, ↓o_mv, ↓o_pick, ↓o_new, ↓o_box, ↓o_build, ↓o_mkSl, ↓o_load1, ↓o_loadN, ↓o_store, ↓o_bin, ↓o_eqB, ↓o_eqN, ↓o_un, ↓o_toInt, ↓o_s2b, ↓o_b2s, ↓o_s2s, ↓o_iface, ↓o_func, ↓o_make, ↓o_slStr, ↓o_sl, ↓o_slArr, ↓o_fieldAddr, ↓o_field1, ↓o_fieldN, ↓o_ixAddr, ↓o_ixAddrA, ↓o_ixArr, ↓o_ixStr, ↓o_extract, ↓o_lenStr, ↓o_lenSl, ↓o_lenK, ↓o_append, ↓o_appendS, ↓o_mm, ↓mm_nil, ↓mm_k, ↓b_add, ↓b_sub, ↓b_mul, ↓b_quo, ↓b_rem, ↓b_and, ↓b_or, ↓b_xor, ↓b_eql, ↓b_neq, ↓b_lss, ↓b_leq, ↓b_gtr, ↓b_geq, ↓b_shl, ↓b_shr, ↓b_adds, ↓b_eqls, ↓b_neqs, ↓u_not, ↓u_neg, ↓ix_n, ↓ix_k, ↓ix_t, ↓oI_e, ↓add_e, ↓putm_e, ↓kill_e, ↓raise_e, ↓lower_e, ↓get_e, ↓next_e, ↓bar_e, ↓write_e, ↓slK_n, ↓slK_s, ↓loopK_e, ↓loopK_r, ↓loopK_p, cv_int, cv_u8, cv_bool, cv_str, cv_sl, cv_ptr, cv_agg, ↓t2s, ↓t2a, ↓t2b, ↓t3s, ↓t3a, ↓t3b, ↓t3c, List.length_cons, List.length_nil, Nat.reduceEqDiff, Nat.reduceLeDiff, Nat.reduceAdd, Nat.reduceSub, Nat.reduceMul, Int.reduceLT, Int.reduceLE, Int.reduceEq, Int.reduceToNat, Int.reduceAdd, Int.reduceSub, Int.reduceMul, reduceCtorEq, ↓reduceIte, ite_true, ite_false, if_true, if_false, one0, one1, one2, one3, ini0, ini1, ini2, ini3, ini4, ini5, ini6, upd_e, List.map_cons, List.map_nil, Option.map_some, List.append_nil, List.cons_append, List.nil_append, decide_true, decide_false, Bool.not_true, Bool.not_false, Int.toNat_natCast, Nat.mul_one, Nat.zero_add, Nat.add_zero, Int.toNat_zero, Int.toNat_one, Int.cast_ofNat_Int, true_and, and_true, Option.isSome_some, Option.isSome_none, Bool.false_eq_true, beq_self_eq_true, false_implies, true_implies, ne_eq, not_true_eq_false, not_false_eq_true, BEq.rfl, Bool.true_beq, Bool.false_beq, Option.getD_some, Option.isSome_some]
  repeat refine And.intro (by omega) ?_
  refine callK_of (ct_Unhex (s := s) (by omega)) (fun v nx4 gt4 hle4 hk4 hC => ?_) (by omega)
  obtain ⟨sl, rfl, A2, n2, c2, rfl, hc2, hn2, hr2⟩ := hC
  simp only [↓vc_skip, ↓vc_ops0, ↓vc_opsQ, ↓vc_seq, ↓vc_block, ↓vc_exit, ↓vc_ret, ↓vc_cond, ↓D_top, ↓D_thn_n, ↓D_thn_e, ↓D_thn_r, ↓D_thn_p, ↓D_blk_n, ↓D_blk_e, ↓D_blk_r, ↓D_blk_p, ↓condK_t, ↓condK_f, ↓go_nil, ↓goQ_nil, ↓go_guard, ↓goQ_guard, ↓guardK_t, ↓guardK_f, ↓guardQ_t, ↓guardQ_f, ↓go_call0, ↓goQ_call0, ↓go_callT, ↓put_e, ↓put_n, ↓ev_t, ↓ev_k, ↓go_op, ↓goQ_op, ↓asI_e, ↓asB_e, ↓asP_e, ↓asS_e, ↓asStr_e, ↓asT_e, ↓asA_e, ↓asO_e, ↓asC_e, ↓asG_b, ↓asG_u, ↓asF_e, ↓o_mv, ↓o_pick, ↓o_new, ↓o_box, ↓o_build, ↓o_mkSl, ↓o_load1, ↓o_loadN, ↓o_store, ↓o_bin, ↓o_eqB, ↓o_eqN, ↓o_un, ↓o_toInt, ↓o_s2b, ↓o_b2s, ↓o_s2s, ↓o_iface, ↓o_func, ↓o_make, ↓o_slStr, ↓o_sl, ↓o_slArr, ↓o_fieldAddr, ↓o_field1, ↓o_fieldN, ↓o_ixAddr, ↓o_ixAddrA, ↓o_ixArr, ↓o_ixStr, ↓o_extract, ↓o_lenStr, ↓o_lenSl, ↓o_lenK, ↓o_append, ↓o_appendS, ↓o_mm, ↓mm_nil, ↓mm_k, ↓b_add, ↓b_sub, ↓b_mul, ↓b_quo, ↓b_rem, ↓b_and, ↓b_or, ↓b_xor, ↓b_eql, ↓b_neq, ↓b_lss, ↓b_leq, ↓b_gtr, ↓b_geq, ↓b_shl, ↓b_shr, ↓b_adds, ↓b_eqls, ↓b_neqs, ↓u_not, ↓u_neg, ↓ix_n, ↓ix_k, ↓ix_t, ↓oI_e, ↓add_e, ↓putm_e, ↓kill_e, ↓raise_e, ↓lower_e, ↓get_e, ↓next_e, ↓bar_e, ↓write_e, ↓slK_n, ↓slK_s, ↓loopK_e, ↓loopK_r, ↓loopK_p, cv_int, cv_u8, cv_bool, cv_str, cv_sl, cv_ptr, cv_agg, ↓t2s, ↓t2a, ↓t2b, ↓t3s, ↓t3a, ↓t3b, ↓t3c, List.length_cons, List.length_nil, Nat.reduceEqDiff, Nat.reduceLeDiff, Nat.reduceAdd, Nat.reduceSub, Nat.reduceMul, Int.reduceLT, Int.reduceLE, Int.reduceEq, Int.reduceToNat, Int.reduceAdd, Int.reduceSub, Int.reduceMul, reduceCtorEq, ↓reduceIte, ite_true, ite_false, if_true, if_false, one0, one1, one2, one3, ini0, ini1, ini2, ini3, ini4, ini5, ini6, upd_e, List.map_cons, List.map_nil, Option.map_some, List.append_nil, List.cons_append, List.nil_append, decide_true, decide_false, Bool.not_true, Bool.not_false, Int.toNat_natCast, Nat.mul_one, Nat.zero_add, Nat.add_zero, Int.toNat_zero, Int.toNat_one, Int.cast_ofNat_Int, true_and, and_true, Option.isSome_some, Option.isSome_none, Bool.false_eq_true, beq_self_eq_true, false_implies, true_implies, ne_eq, not_true_eq_false, not_false_eq_true, BEq.rfl, Bool.true_beq, Bool.false_beq]
  repeat refine And.intro (by omega) ?_
  refine callK_of (ct_Least hx) (fun v nx5 gt5 hle5 hk5 hC => ?_) (by omega)
  obtain ⟨k, hkl, A3, n3, c3, rfl, hc3, hn3, hr3⟩ := hC
  rw [be_length] at hn3
  subst hn3
  simp only [↓vc_skip, ↓vc_ops0, ↓vc_opsQ, ↓vc_seq, ↓vc_block, ↓vc_exit, ↓vc_ret, ↓vc_cond, ↓D_top, ↓D_thn_n, ↓D_thn_e, ↓D_thn_r, ↓D_thn_p, ↓D_blk_n, ↓D_blk_e, ↓D_blk_r, ↓D_blk_p, ↓condK_t, ↓condK_f, ↓go_nil, ↓goQ_nil, ↓go_guard, ↓goQ_guard, ↓guardK_t, ↓guardK_f, ↓guardQ_t, ↓guardQ_f, ↓go_call0, ↓goQ_call0, ↓go_callT, ↓put_e, ↓put_n, ↓ev_t, ↓ev_k, ↓go_op, ↓goQ_op, ↓asI_e, ↓asB_e, ↓asP_e, ↓asS_e, ↓asStr_e, ↓asT_e, ↓asA_e, ↓asO_e, ↓asC_e, ↓asG_b, ↓asG_u, ↓asF_e, ↓o_mv, ↓o_pick, ↓o_new, ↓o_box, ↓o_build, ↓o_mkSl, ↓o_load1, ↓o_loadN, ↓o_store, ↓o_bin, ↓o_eqB, ↓o_eqN, ↓o_un, ↓o_toInt, ↓o_s2b, ↓o_b2s, ↓o_s2s, ↓o_iface, ↓o_func, ↓o_make, ↓o_slStr, ↓o_sl, ↓o_slArr, ↓o_fieldAddr, ↓o_field1, ↓o_fieldN, ↓o_ixAddr, ↓o_ixAddrA, ↓o_ixArr, ↓o_ixStr, ↓o_extract, ↓o_lenStr, ↓o_lenSl, ↓o_lenK, ↓o_append, ↓o_appendS, ↓o_mm, ↓mm_nil, ↓mm_k, ↓b_add, ↓b_sub, ↓b_mul, ↓b_quo, ↓b_rem, ↓b_and, ↓b_or, ↓b_xor, ↓b_eql, ↓b_neq, ↓b_lss, ↓b_leq, ↓b_gtr, ↓b_geq, ↓b_shl, ↓b_shr, ↓b_adds, ↓b_eqls, ↓b_neqs, ↓u_not, ↓u_neg, ↓ix_n, ↓ix_k, ↓ix_t, ↓oI_e, ↓add_e, ↓putm_e, ↓kill_e, ↓raise_e, ↓lower_e, ↓get_e, ↓next_e, ↓bar_e, ↓write_e, ↓slK_n, ↓slK_s, ↓loopK_e, ↓loopK_r, ↓loopK_p, cv_int, cv_u8, cv_bool, cv_str, cv_sl, cv_ptr, cv_agg, ↓t2s, ↓t2a, ↓t2b, ↓t3s, ↓t3a, ↓t3b, ↓t3c, List.length_cons, List.length_nil, Nat.reduceEqDiff, Nat.reduceLeDiff, Nat.reduceAdd, Nat.reduceSub, Nat.reduceMul, Int.reduceLT, Int.reduceLE, Int.reduceEq, Int.reduceToNat, Int.reduceAdd, Int.reduceSub, Int.reduceMul, reduceCtorEq, ↓reduceIte, ite_true, ite_false, if_true, if_false, one0, one1, one2, one3, ini0, ini1, ini2, ini3, ini4, ini5, ini6, upd_e, List.map_cons, List.map_nil, Option.map_some, List.append_nil, List.cons_append, List.nil_append, decide_true, decide_false, Bool.not_true, Bool.not_false, Int.toNat_natCast, Nat.mul_one, Nat.zero_add, Nat.add_zero, Int.toNat_zero, Int.toNat_one, Int.cast_ofNat_Int, true_and, and_true, Option.isSome_some, Option.isSome_none, Bool.false_eq_true, beq_self_eq_true, false_implies, true_implies, ne_eq, not_true_eq_false, not_false_eq_true, BEq.rfl, Bool.true_beq, Bool.false_beq]
  refine callK_of (ct_Num hr3 hc3 (by have := hkl.2.1; omega)) (fun v nx6 gt6 hle6 hk6 hC => ?_) (by omega)
  have hnv : numV (be k x) = .tuple #[.int .u64 (x : Nat), .bool true] := by rw [numV, val_be hkl.2.2.1, if_pos hx]
  rw [hnv] at hC
  subst hC
  have hk6' : ∀ i, i < nx → gt6 i = gt i := fun i hi => by rw [hk6 i (by omega), hk5 i (by omega), hk4 i (by omega), hk3 i (by omega), hk2 i (by omega), hk1 i hi]
  have hr1' := hr1.keep (show nx3 ≤ nx6 by omega) (gt' := gt6) (fun i hi => by rw [hk6 i (by omega), hk5 i (by omega), hk4 i hi])
  have hr2' := hr2.keep (show nx4 ≤ nx6 by omega) (gt' := gt6) (fun i hi => by rw [hk6 i (by omega), hk5 i hi])
  have hr3' := hr3.keep (show nx5 ≤ nx6 by omega) (gt' := gt6) hk6
  cases hu : unh s.data.toList with
  | none =>
    simp only [↓vc_skip, ↓vc_ops0, ↓vc_opsQ, ↓vc_seq, ↓vc_block, ↓vc_exit, ↓vc_ret, ↓vc_cond, ↓D_top, ↓D_thn_n, ↓D_thn_e, ↓D_thn_r, ↓D_thn_p, ↓D_blk_n, ↓D_blk_e, ↓D_blk_r, ↓D_blk_p, ↓go_nil, ↓goQ_nil, ↓go_guard, ↓goQ_guard, ↓guardK_t, ↓guardK_f, ↓guardQ_t, ↓guardQ_f, ↓go_call0, ↓goQ_call0, ↓go_callT, ↓put_e, ↓put_n, ↓ev_t, ↓ev_k, ↓go_op, ↓goQ_op, ↓asI_e, ↓asB_e, ↓asP_e, ↓asS_e, ↓asStr_e, ↓asT_e, ↓asA_e, ↓asO_e, ↓asC_e, ↓asG_b, ↓asG_u, ↓asF_e, ↓o_mv, ↓o_pick, ↓o_new, ↓o_box, ↓o_build, ↓o_mkSl, ↓o_load1, ↓o_loadN, ↓o_store, ↓o_bin, ↓o_eqB, ↓o_eqN, ↓o_un, ↓o_toInt, ↓o_s2b, ↓o_b2s, ↓o_s2s, ↓o_iface, ↓o_func, ↓o_make, ↓o_slStr, ↓o_sl, ↓o_slArr, ↓o_fieldAddr, ↓o_field1, ↓o_fieldN, ↓o_ixAddr, ↓o_ixAddrA, ↓o_ixArr, ↓o_ixStr, ↓o_extract, ↓o_lenStr, ↓o_lenSl, ↓o_lenK, ↓o_append, ↓o_appendS, ↓o_mm, ↓mm_nil, ↓mm_k, ↓b_add, ↓b_sub, ↓b_mul, ↓b_quo, ↓b_rem, ↓b_and, ↓b_or, ↓b_xor, ↓b_eql, ↓b_neq, ↓b_lss, ↓b_leq, ↓b_gtr, ↓b_geq, ↓b_shl, ↓b_shr, ↓b_adds, ↓b_eqls, ↓b_neqs, ↓u_not, ↓u_neg, ↓ix_n, ↓ix_k, ↓ix_t, ↓oI_e, ↓add_e, ↓putm_e, ↓kill_e, ↓raise_e, ↓lower_e, ↓get_e, ↓next_e, ↓bar_e, ↓write_e, ↓slK_n, ↓slK_s, ↓loopK_e, ↓loopK_r, ↓loopK_p, cv_int, cv_u8, cv_bool, cv_str, cv_sl, cv_ptr, cv_agg, ↓t2s, ↓t2a, ↓t2b, ↓t3s, ↓t3a, ↓t3b, ↓t3c, List.length_cons, List.length_nil, Nat.reduceEqDiff, Nat.reduceLeDiff, Nat.reduceAdd, Nat.reduceSub, Nat.reduceMul, Int.reduceLT, Int.reduceLE, Int.reduceEq, Int.reduceToNat, Int.reduceAdd, Int.reduceSub, Int.reduceMul, reduceCtorEq, ↓reduceIte, ite_true, ite_false, if_true, if_false, one0, one1, one2, one3, ini0, ini1, ini2, ini3, ini4, ini5, ini6, upd_e, List.map_cons, List.map_nil, Option.map_some, List.append_nil, List.cons_append, List.nil_append, decide_true, decide_false, Bool.not_true, Bool.not_false, Int.toNat_natCast, Nat.mul_one, Nat.zero_add, Nat.add_zero, Int.toNat_zero, Int.toNat_one, Int.cast_ofNat_Int, true_and, and_true, Option.isSome_some, Option.isSome_none, Bool.false_eq_true, beq_self_eq_true, false_implies, true_implies, ne_eq, not_true_eq_false, not_false_eq_true, BEq.rfl, Bool.true_beq, Bool.false_beq, hu, Option.isSome_none]
    repeat refine And.intro (by omega) ?_
    refine condK_of (fun h => by simp at h) fun _ => ?_
    rw [vc_skip, D_thn_n]
    refine rest nx6 gt6 A1 A3 n1 c1 c3 k (by omega) hk6' hr1' hr3' hkl _ ?_ ?_ ?_ ?_ ?_ ?_ ?_ ?_ <;> rfl
  | some d =>
    rw [hu] at hr2' hn2
    simp only [Option.getD_some] at hr2' hn2
    have hhd := hexL_unh _ _ _ (Nat.le_refl _) hu
    have hsz : s.data.toList.length = s.size := by simp
    have hd2 : n2 < 1000000 := by
      have := congrArg List.length hhd
      rw [hexL_length] at this
      omega
    simp only [↓vc_skip, ↓vc_ops0, ↓vc_opsQ, ↓vc_seq, ↓vc_block, ↓vc_exit, ↓vc_ret, ↓vc_cond, ↓D_top, ↓D_thn_n, ↓D_thn_e, ↓D_thn_r, ↓D_thn_p, ↓D_blk_n, ↓D_blk_e, ↓D_blk_r, ↓D_blk_p, ↓go_nil, ↓goQ_nil, ↓go_guard, ↓goQ_guard, ↓guardK_t, ↓guardK_f, ↓guardQ_t, ↓guardQ_f, ↓go_call0, ↓goQ_call0, ↓go_callT, ↓put_e, ↓put_n, ↓ev_t, ↓ev_k, ↓go_op, ↓goQ_op, ↓asI_e, ↓asB_e, ↓asP_e, ↓asS_e, ↓asStr_e, ↓asT_e, ↓asA_e, ↓asO_e, ↓asC_e, ↓asG_b, ↓asG_u, ↓asF_e, ↓o_mv, ↓o_pick, ↓o_new, ↓o_box, ↓o_build, ↓o_mkSl, ↓o_load1, ↓o_loadN, ↓o_store, ↓o_bin, ↓o_eqB, ↓o_eqN, ↓o_un, ↓o_toInt, ↓o_s2b, ↓o_b2s, ↓o_s2s, ↓o_iface, ↓o_func, ↓o_make, ↓o_slStr, ↓o_sl, ↓o_slArr, ↓o_fieldAddr, ↓o_field1, ↓o_fieldN, ↓o_ixAddr, ↓o_ixAddrA, ↓o_ixArr, ↓o_ixStr, ↓o_extract, ↓o_lenStr, ↓o_lenSl, ↓o_lenK, ↓o_append, ↓o_appendS, ↓o_mm, ↓mm_nil, ↓mm_k, ↓b_add, ↓b_sub, ↓b_mul, ↓b_quo, ↓b_rem, ↓b_and, ↓b_or, ↓b_xor, ↓b_eql, ↓b_neq, ↓b_lss, ↓b_leq, ↓b_gtr, ↓b_geq, ↓b_shl, ↓b_shr, ↓b_adds, ↓b_eqls, ↓b_neqs, ↓u_not, ↓u_neg, ↓ix_n, ↓ix_k, ↓ix_t, ↓oI_e, ↓add_e, ↓putm_e, ↓kill_e, ↓raise_e, ↓lower_e, ↓get_e, ↓next_e, ↓bar_e, ↓write_e, ↓slK_n, ↓slK_s, ↓loopK_e, ↓loopK_r, ↓loopK_p, cv_int, cv_u8, cv_bool, cv_str, cv_sl, cv_ptr, cv_agg, ↓t2s, ↓t2a, ↓t2b, ↓t3s, ↓t3a, ↓t3b, ↓t3c, List.length_cons, List.length_nil, Nat.reduceEqDiff, Nat.reduceLeDiff, Nat.reduceAdd, Nat.reduceSub, Nat.reduceMul, Int.reduceLT, Int.reduceLE, Int.reduceEq, Int.reduceToNat, Int.reduceAdd, Int.reduceSub, Int.reduceMul, reduceCtorEq, ↓reduceIte, ite_true, ite_false, if_true, if_false, one0, one1, one2, one3, ini0, ini1, ini2, ini3, ini4, ini5, ini6, upd_e, List.map_cons, List.map_nil, Option.map_some, List.append_nil, List.cons_append, List.nil_append, decide_true, decide_false, Bool.not_true, Bool.not_false, Int.toNat_natCast, Nat.mul_one, Nat.zero_add, Nat.add_zero, Int.toNat_zero, Int.toNat_one, Int.cast_ofNat_Int, true_and, and_true, Option.isSome_some, Option.isSome_none, Bool.false_eq_true, beq_self_eq_true, false_implies, true_implies, ne_eq, not_true_eq_false, not_false_eq_true, BEq.rfl, Bool.true_beq, Bool.false_beq, hu, Option.isSome_some]
    repeat refine And.intro (by omega) ?_
    refine callK_of (ct_Hex hr2' hd2) (fun v nx7 gt7 hle7 hk7 hC => ?_) (by omega)
    subst hC
    have hss : ((⟨(hexL d).toArray⟩ : ByteArray).toList == s.toList) = true := by
      rw [ByteArray.toList_eq, ByteArray.toList_eq, hhd]; simp
    simp only [↓vc_skip, ↓vc_ops0, ↓vc_opsQ, ↓vc_seq, ↓vc_block, ↓vc_exit, ↓vc_ret, ↓vc_cond, ↓D_top, ↓D_thn_n, ↓D_thn_e, ↓D_thn_r, ↓D_thn_p, ↓D_blk_n, ↓D_blk_e, ↓D_blk_r, ↓D_blk_p, ↓go_nil, ↓goQ_nil, ↓go_guard, ↓goQ_guard, ↓guardK_t, ↓guardK_f, ↓guardQ_t, ↓guardQ_f, ↓go_call0, ↓goQ_call0, ↓go_callT, ↓put_e, ↓put_n, ↓ev_t, ↓ev_k, ↓go_op, ↓goQ_op, ↓asI_e, ↓asB_e, ↓asP_e, ↓asS_e, ↓asStr_e, ↓asT_e, ↓asA_e, ↓asO_e, ↓asC_e, ↓asG_b, ↓asG_u, ↓asF_e, ↓o_mv, ↓o_pick, ↓o_new, ↓o_box, ↓o_build, ↓o_mkSl, ↓o_load1, ↓o_loadN, ↓o_store, ↓o_bin, ↓o_eqB, ↓o_eqN, ↓o_un, ↓o_toInt, ↓o_s2b, ↓o_b2s, ↓o_s2s, ↓o_iface, ↓o_func, ↓o_make, ↓o_slStr, ↓o_sl, ↓o_slArr, ↓o_fieldAddr, ↓o_field1, ↓o_fieldN, ↓o_ixAddr, ↓o_ixAddrA, ↓o_ixArr, ↓o_ixStr, ↓o_extract, ↓o_lenStr, ↓o_lenSl, ↓o_lenK, ↓o_append, ↓o_appendS, ↓o_mm, ↓mm_nil, ↓mm_k, ↓b_add, ↓b_sub, ↓b_mul, ↓b_quo, ↓b_rem, ↓b_and, ↓b_or, ↓b_xor, ↓b_eql, ↓b_neq, ↓b_lss, ↓b_leq, ↓b_gtr, ↓b_geq, ↓b_shl, ↓b_shr, ↓b_adds, ↓b_eqls, ↓b_neqs, ↓u_not, ↓u_neg, ↓ix_n, ↓ix_k, ↓ix_t, ↓oI_e, ↓add_e, ↓putm_e, ↓kill_e, ↓raise_e, ↓lower_e, ↓get_e, ↓next_e, ↓bar_e, ↓write_e, ↓slK_n, ↓slK_s, ↓loopK_e, ↓loopK_r, ↓loopK_p, cv_int, cv_u8, cv_bool, cv_str, cv_sl, cv_ptr, cv_agg, ↓t2s, ↓t2a, ↓t2b, ↓t3s, ↓t3a, ↓t3b, ↓t3c, List.length_cons, List.length_nil, Nat.reduceEqDiff, Nat.reduceLeDiff, Nat.reduceAdd, Nat.reduceSub, Nat.reduceMul, Int.reduceLT, Int.reduceLE, Int.reduceEq, Int.reduceToNat, Int.reduceAdd, Int.reduceSub, Int.reduceMul, reduceCtorEq, ↓reduceIte, ite_true, ite_false, if_true, if_false, one0, one1, one2, one3, ini0, ini1, ini2, ini3, ini4, ini5, ini6, upd_e, List.map_cons, List.map_nil, Option.map_some, List.append_nil, List.cons_append, List.nil_append, decide_true, decide_false, Bool.not_true, Bool.not_false, Int.toNat_natCast, Nat.mul_one, Nat.zero_add, Nat.add_zero, Int.toNat_zero, Int.toNat_one, Int.cast_ofNat_Int, true_and, and_true, Option.isSome_some, Option.isSome_none, Bool.false_eq_true, beq_self_eq_true, false_implies, true_implies, ne_eq, not_true_eq_false, not_false_eq_true, BEq.rfl, Bool.true_beq, Bool.false_beq, hss]
    refine condK_of (fun h => by simp at h) fun _ => ?_
    rw [vc_skip, D_thn_n]
    refine rest nx7 gt7 A1 A3 n1 c1 c3 k (by omega) (fun i hi => by rw [hk7 i (by omega), hk6' i hi]) (hr1'.keep hle7 hk7) (hr3'.keep hle7 hk7) hkl _ ?_ ?_ ?_ ?_ ?_ ?_ ?_ ?_ <;> rfl
end Go.Ga
