/- The resolved form of an operation is sound: conversions, slices, parts, builtins; all. -/
import Derived.Test.YtndikkpmlofebaaGaOps8
namespace Go.Ga
open Go

section
variable {P : Program} {f : Regs} {m : Mem} {K : Value → Mem → Prop}
variable {d : Option Tmp} {ty : TypeId} {pos : String} {af : Array Edge} {gd : Option (Nat × Bool)} {rop : ROp}

theorem sound_un {op : UnOp} {t : TypeId} {x : Operand} (h : resolveOp P (.unOp op t x) = some rop) (hv : rop.vc P f m K) : Sound P ⟨d, .unOp op t x, ty, pos, af, gd⟩ f m K := by
  simp only [resolveOp, Option.bind_eq_bind, Option.bind_eq_some_iff, Option.some.injEq] at h
  obtain ⟨rx, hx, rfl⟩ := h
  have hv : unK op (rx.ev f) fun v => K v m := hv
  obtain ⟨p1, v, hK, hp, hrun⟩ := unK_ok (P := P) hv
  refine .plain hK fun r w a hm ht => ⟨v, ?_, VR.of_plain hp⟩
  have e1 := (rvR hx (by simp [Op.operands]) ht).eq_of_plain p1
  simp only [execOp, e1, Sem.run_bind, hrun, Result.andThen_ok, Sem.run_pure]

theorem isU8_spec {o : Option TypeDesc} (h : isU8 o = true) : o = some (.int .u8) := by
  unfold isU8 at h
  split at h
  · rfl
  · cases h

theorem sound_conv {s t : TypeId} {x : Operand} (h : resolveOp P (.convert s t x) = some rop) (hv : rop.vc P f m K) (hwf : m.bar ≤ m.next) : Sound P ⟨d, .convert s t x, ty, pos, af, gd⟩ f m K := by
  replace h : resolveConv P s t x = some rop := h
  have mx : x ∈ (Op.convert s t x).operands := by simp [Op.operands]
  unfold resolveConv at h
  split at h
  · rename_i k1 k hs hd
    simp only [Option.bind_eq_bind, Option.bind_eq_some_iff, Option.some.injEq] at h
    obtain ⟨rx, hx, rfl⟩ := h
    simp only [ROp.vc] at hv
    split at hv
    · rename_i k2 n he
      refine .plain hv fun r w a hm ht => ⟨_, ?_, .int _ _⟩
      have e1 := rvR hx mx ht
      rw [he] at e1
      have e1 := e1.int_inv
      simp [execOp, e1, convert, run_underlying hs, run_underlying hd, Conv.intToInt]
    · cases hv
  · rename_i hs hd
    simp only [Option.bind_eq_bind, Option.bind_eq_some_iff, Option.some.injEq] at h
    obtain ⟨rx, hx, rfl⟩ := h
    simp only [ROp.vc] at hv
    split at hv
    · rename_i n he
      refine .plain hv fun r w a hm ht => ⟨_, ?_, .string _⟩
      have e1 := (rvR hx mx ht).eq_of_plain (by rw [he]; rfl)
      rw [he] at e1
      simp [execOp, e1, convert, run_underlying hs, run_underlying hd]
    · cases hv
  · rename_i e hs hd
    split at h
    · rename_i hu
      have hu := isU8_spec hu
      simp only [Option.bind_eq_bind, Option.bind_eq_some_iff, Option.some.injEq] at h
      obtain ⟨rx, hx, rfl⟩ := h
      simp only [ROp.vc] at hv
      split at hv
      · rename_i n he
        refine .step hv (MExt.add hwf _) (fun a => convert s t (a.eval x)) (fun _ => rfl) fun r w a hm ht => ?_
        have e1 := (rvR hx mx ht).eq_of_plain (by rw [he]; rfl)
        rw [he] at e1
        obtain ⟨r', v', w', h1, h2⟩ := s2b_ok (P := P) hm e n
        refine ⟨r', v', w', ?_, h2⟩
        simp [e1, convert, run_underlying hs, run_underlying hd, run_underlying hu, h1]
      · cases hv
    · cases h
  · rename_i e0 e hs hd
    split at h
    · rename_i hu
      simp only [Bool.and_eq_true, beq_iff_eq] at hu
      obtain ⟨rfl, hu⟩ := hu
      have hu := isU8_spec hu
      rw [hs] at hd
      injection hd with hd
      injection hd with hd
      subst hd
      simp only [Option.bind_eq_bind, Option.bind_eq_some_iff, Option.some.injEq] at h
      obtain ⟨rx, hx, rfl⟩ := h
      simp only [ROp.vc] at hv
      split at hv
      · rename_i a0 n c he
        split at hv
        · rename_i l hg
          obtain ⟨hbar, hc, hv⟩ := hv
          refine .step hv (MExt.refl m) (fun a => convert s s (a.eval x)) (fun _ => rfl) fun r w a hm ht => ?_
          have e1 := rvR hx mx ht
          rw [he] at e1
          obtain ⟨w', a', c', e2, hrun, h1, h2⟩ := cvB_ok (P := P) hm e1 hg hbar hc
          refine ⟨r, .slice (some a') n c', w', ?_, by rw [← e2]; exact e1, h1, h2⟩
          simp [e2, convert, run_underlying hs, run_underlying hu, hrun]
        · cases hv
      · cases hv
    · cases h
  · rename_i e hs hd
    split at h
    · rename_i hu
      have hu := isU8_spec hu
      simp only [Option.bind_eq_bind, Option.bind_eq_some_iff, Option.some.injEq] at h
      obtain ⟨rx, hx, rfl⟩ := h
      simp only [ROp.vc] at hv
      split at hv
      · rename_i A n c he
        split at hv
        · rename_i l hl
          split at hv
          · rename_i bs hb
            refine .plain hv fun r w a hm ht => ⟨_, ?_, .string _⟩
            have e1 := rvR hx mx ht
            rw [he] at e1
            have hrun := b2s_ok (P := P) hm e1 hl hb
            have he2 : (convert s t (a.eval x)).run P w = (Conv.bytesToString (a.eval x)).run P w := by
              generalize a.eval x = v' at e1
              cases e1 <;> exact run_convert_bytes_string w s t e _ _ _ hs hu hd
            simp only [execOp, Sem.run_bind, he2, hrun, Result.andThen_ok, Sem.run_pure]
          · cases hv
        · cases hv
      · cases hv
    · cases h
  · cases h

theorem sound_iface {t : TypeId} {x : Operand} (h : resolveOp P (.makeInterface t x) = some rop) (hv : rop.vc P f m K) : Sound P ⟨d, .makeInterface t x, ty, pos, af, gd⟩ f m K := by
  simp only [resolveOp] at h
  split at h
  · cases h
  · rename_i dd hni hd
    simp only [Option.bind_eq_bind, Option.bind_eq_some_iff, Option.some.injEq] at h
    obtain ⟨rx, hx, rfl⟩ := h
    refine .plain hv fun r w a hm ht => ⟨_, ?_, .iface _ (rvR hx (by simp [Op.operands]) ht)⟩
    cases dd <;> first
      | exact (hni _ rfl).elim
      | simp [execOp, Instr.makeInterface, run_underlying hd]
  · cases h

theorem resolveRvs_spec {a : Act} {r : Ren} : ∀ {xs : List Operand} {rs : List Rv}, resolveRvs xs = some rs → (∀ t, Operand.tmp t ∈ xs → VR r (f t) (a.eval (.tmp t))) →
    rs.length = xs.length ∧ ∀ i, VR r ((rs.map fun x => x.ev f).getD i undef) ((xs.map a.eval).getD i undef)
  | [], rs, h, _ => by
    simp only [resolveRvs, Option.some.injEq] at h
    subst h
    exact ⟨rfl, fun i => by simpa using VR.und⟩
  | x :: xs, rs, h, ht => by
    simp only [resolveRvs] at h
    split at h
    · rename_i r1 rs1 h1 h2
      simp only [Option.some.injEq] at h
      subst h
      obtain ⟨g1, g2⟩ := resolveRvs_spec h2 (fun t hm => ht t (by simp [hm]))
      refine ⟨by simp [g1], fun i => ?_⟩
      cases i with
      | zero => simpa using resolveRv_rel (f := f) (r := r) (a := a) h1 (fun t e => ht t (by simp [e]))
      | succ i => simpa using g2 i
    · cases h

theorem sound_func {fn : Fn} {first caps : Array Operand} (h : resolveOp P (.makeFunc fn first caps) = some rop) (hv : rop.vc P f m K) : Sound P ⟨d, .makeFunc fn first caps, ty, pos, af, gd⟩ f m K := by
  cases fn with
  | func g =>
    simp only [resolveOp] at h
    split at h
    · rename_i hf
      simp only [Option.bind_eq_bind, Option.bind_eq_some_iff, Option.some.injEq] at h
      obtain ⟨rs, hrs, rfl⟩ := h
      have hf : first = #[] := by simpa using hf
      subst hf
      refine .plain hv fun r w a hm ht => ⟨.func (.func g) #[] (caps.map a.eval), by simp [execOp, Instr.makeFunc], ?_⟩
      obtain ⟨g1, g2⟩ := resolveRvs_spec (f := f) (r := r) (a := a) hrs (fun t hm => ht t (by simpa [Op.operands] using hm))
      have hsz : ((rs.map fun x => x.ev f).toArray).size = (caps.map a.eval).size := by simp [g1]
      refine .func _ hsz fun i => ?_
      have := g2 i
      rw [← toList_getD, ← toList_getD]
      have e : (caps.map a.eval).toList = caps.toList.map a.eval := by simp
      rw [e]
      exact this
    · cases h
  | _ => simp [resolveOp] at h

theorem sound_make {t : TypeId} {l c : Operand} (h : resolveOp P (.makeSlice t l c) = some rop) (hv : rop.vc P f m K) (hwf : m.bar ≤ m.next) : Sound P ⟨d, .makeSlice t l c, ty, pos, af, gd⟩ f m K := by
  simp only [resolveOp] at h
  split at h
  · rename_i e he
    simp only [Option.bind_eq_bind, Option.bind_eq_some_iff, Option.some.injEq] at h
    obtain ⟨⟨i, z⟩, hz, rl, hl, rc, hc, rfl⟩ := h
    obtain ⟨h1, h2, h3⟩ := zeroOf_spec hz
    simp only [ROp.vc] at hv
    split at hv
    · rename_i k1 l' k2 c' e1 e2
      obtain ⟨b1, b2, b3, b4, b5, hv⟩ := hv
      refine .step hv (MExt.add hwf _) (fun a => Instr.makeSlice t (a.eval l) (a.eval c)) (fun _ => rfl) fun r w a hm ht => ?_
      have q1 := rvR hl (by simp [Op.operands]) ht
      have q2 := rvR hc (by simp [Op.operands]) ht
      rw [e1] at q1
      rw [e2] at q2
      rw [q1.int_inv, q2.int_inv]
      exact make_ok hm he h1 h2 h3 b1 b2 b3 b4 b5
    · cases hv
  · cases h

theorem resolveO_mapM {o : Option Operand} {ro : Option Rv} (h : resolveO o = some ro) : o.mapM resolveRv = some ro := by
  cases o with
  | none => exact h
  | some x => exact h

theorem sound_slice {t : TypeId} {x : Operand} {lo hi mx : Option Operand} (h : resolveOp P (.slice t x lo hi mx) = some rop) (hv : rop.vc P f m K) : Sound P ⟨d, .slice t x lo hi mx, ty, pos, af, gd⟩ f m K := by
  have ht1 : ∀ {a : Act} {r : Ren}, (∀ t', Operand.tmp t' ∈ (Op.slice t x lo hi mx).operands → VR r (f t') (a.eval (.tmp t'))) → ∀ y t', lo = some y → y = .tmp t' → VR r (f t') (a.eval (.tmp t')) :=
    fun ht y t' e1 e2 => ht t' (by subst e2; simp [Op.operands, e1])
  have ht2 : ∀ {a : Act} {r : Ren}, (∀ t', Operand.tmp t' ∈ (Op.slice t x lo hi mx).operands → VR r (f t') (a.eval (.tmp t'))) → ∀ y t', hi = some y → y = .tmp t' → VR r (f t') (a.eval (.tmp t')) :=
    fun ht y t' e1 e2 => ht t' (by subst e2; simp [Op.operands, e1])
  have ht3 : ∀ {a : Act} {r : Ren}, (∀ t', Operand.tmp t' ∈ (Op.slice t x lo hi mx).operands → VR r (f t') (a.eval (.tmp t'))) → ∀ y t', mx = some y → y = .tmp t' → VR r (f t') (a.eval (.tmp t')) :=
    fun ht y t' e1 e2 => ht t' (by subst e2; simp [Op.operands, e1])
  have hmx : x ∈ (Op.slice t x lo hi mx).operands := by simp [Op.operands]
  simp only [resolveOp] at h
  split at h
  · rename_i hs
    split at h
    · rename_i hmn
      simp only [Option.bind_eq_bind, Option.bind_eq_some_iff, Option.some.injEq] at h
      obtain ⟨rx, hx, rlo, hlo, rhi, hhi, rfl⟩ := h
      have hmn : mx = none := by simpa using hmn
      subst hmn
      simp only [ROp.vc] at hv
      split at hv
      · rename_i s he
        split at hv
        · rename_i H hH
          split at hv
          · rename_i L hL
            obtain ⟨b1, b2, b3, hv⟩ := hv
            refine .plain hv fun r w a hm ht => ⟨_, ?_, .string _⟩
            have e1 := (rvR hx hmx ht).eq_of_plain (by rw [he]; rfl)
            rw [he] at e1
            have hb := bounds_ok (r := r) (f := f) (a := a) (P := P) (isSlice := false) (mx := none) (rmx := none) (n := s.size) (c := s.size) (c' := s.size) (M := s.size) (resolveO_mapM hlo) (resolveO_mapM hhi) rfl (ht1 ht) (ht2 ht) (fun _ _ e => by cases e) (Nat.le_refl _) rfl hH hL b1 b2 b3 (by omega) (by simp) w
            simp only [Option.map_none] at hb
            simp [execOp, e1, Instr.sliceAt, Instr.slice, run_underlying hs, hb]
          · cases hv
        · cases hv
      · cases hv
    · cases h
  · rename_i e hs
    simp only [Option.bind_eq_bind, Option.bind_eq_some_iff, Option.some.injEq] at h
    obtain ⟨i, hi', rx, hx, rlo, hlo, rhi, hhi, rmx, hmx', rfl⟩ := h
    simp only [ROp.vc] at hv
    split at hv
    · rename_i A n c he
      split at hv
      · rename_i M hM
        split at hv
        · rename_i H hH
          split at hv
          · rename_i L hL
            obtain ⟨b1, b2, b3, b4, b5, hv⟩ := hv
            cases A with
            | none =>
              refine .plain hv fun r w a hm ht => ⟨_, ?_, .snil⟩
              have q1 := rvR hx hmx ht
              rw [he] at q1
              obtain ⟨h1, h2, e1⟩ := q1.slice_nil
              subst h1 h2
              have hb := bounds_ok (r := r) (f := f) (a := a) (P := P) (isSlice := true) (n := 0) (c := 0) (c' := 0) (resolveO_mapM hlo) (resolveO_mapM hhi) (resolveO_mapM hmx') (ht1 ht) (ht2 ht) (ht3 ht) (Nat.le_refl _) hM hH hL b1 b2 b3 b4 b5 w
              have z1 : L.toNat = 0 := by omega
              have z2 : H.toNat = 0 := by omega
              have z3 : M.toNat = 0 := by omega
              simp only [z1, z2, z3, ite_self] at hb
              simp only [execOp, e1, Instr.sliceAt, Instr.slice, run_underlying hs, hb, sizeOf, typeInfo, hi', Sem.run_bind, Result.andThen_ok, run_program, Sem.run_pure, Option.map_none, ite_self, Nat.sub_self]
            | some a0 =>
              obtain ⟨hspot, hv⟩ := hv
              refine .step hv (MExt.refl m) (fun a => Instr.sliceAt t (a.eval x) (lo.map a.eval) (hi.map a.eval) (mx.map a.eval)) (fun _ => rfl) fun r w a hm ht => ?_
              have e1 := rvR hx hmx ht
              rw [he] at e1
              obtain ⟨a', c', e1, hnc, hsr⟩ := e1.slice_inv
              have hle := hsr.le
              have hb := bounds_ok (r := r) (f := f) (a := a) (P := P) (isSlice := true) (n := n) (c := c) (c' := c') (resolveO_mapM hlo) (resolveO_mapM hhi) (resolveO_mapM hmx') (ht1 ht) (ht2 ht) (ht3 ht) hle hM hH hL b1 b2 b3 b4 b5 w
              have hM' : rmx = none → M = c := fun h => by subst h; simpa [optIx] using hM.symm
              let m' := if rmx.isSome then M.toNat else c'
              refine .pure hm (v' := .slice (if m' = L.toNat then some a' else some (a'.add (L.toNat * i.size))) (H.toNat - L.toNat) (m' - L.toNat)) ?_ ?_
              · simp only [e1, Instr.sliceAt, Instr.slice, run_underlying hs, hb, sizeOf, typeInfo, hi', Sem.run_bind, Result.andThen_ok, run_program, Sem.run_pure, m', Option.map_some]
              · have hmL : L.toNat ≤ m' := by
                  simp only [m']
                  split
                  · omega
                  · omega
                have hlen : (H - L).toNat = H.toNat - L.toNat := by omega
                have hcap : (M - L).toNat ≤ m' - L.toNat := by
                  simp only [m']
                  split
                  · omega
                  · rename_i hn
                    have := hM' (by simpa using hn)
                    omega
                rw [hlen]
                have key : ∀ b', (m' ≠ L.toNat → b' = a'.add (L.toNat * i.size)) → SR r ⟨a0.block, a0.off + L.toNat * i.size, if rmx.isSome then none else a0.spot⟩ (M - L).toNat b' (m' - L.toNat) := by
                  intro b' hb'
                  refine ⟨hcap, ?_, fun e' he' => ?_, fun hn => ?_⟩
                  · by_cases h0 : m' = L.toNat
                    · left; omega
                    · right
                      rw [hb' h0]
                      have : c' ≠ 0 := by
                        simp only [m'] at h0
                        split at h0 <;> omega
                      exact (hsr.loc.resolve_left this).add _
                  · by_cases hsome : rmx.isSome = true
                    · simp [hsome] at he'
                    · simp only [hsome] at he'
                      have he' : a0.spot = some e' := by simpa using he'
                      have hee : e' = i.size := by
                        rcases hspot with h1 | h1 | h1
                        · exact absurd h1 hsome
                        · rw [he'] at h1; cases h1
                        · rw [he'] at h1; injection h1
                      subst hee
                      have hm' : m' = c' := by simp [m', hsome]
                      rcases hsr.room _ he' with h1 | h1
                      · left; omega
                      · right
                        intro cb base csz hat
                        have := h1 cb base csz hat
                        simp only
                        have h2 : L.toNat * i.size + (m' - L.toNat) * i.size = c' * i.size := by
                          rw [← Nat.add_mul]
                          congr 1
                          omega
                        omega
                  · by_cases hsome : rmx.isSome = true
                    · simp only [m', hsome, if_true]; omega
                    · have := hsr.exact (by simpa [hsome] using hn)
                      have h2 := hM' (by simpa using hsome)
                      simp only [m', hsome]
                      simp only [Bool.false_eq_true, if_false]
                      omega
                have hHm : H.toNat - L.toNat ≤ (M - L).toNat := by omega
                by_cases h0 : m' = L.toNat
                · rw [if_pos h0]
                  exact .slice hHm (key a' (fun h => absurd h0 h))
                · rw [if_neg h0]
                  exact .slice hHm (key _ (fun _ => rfl))
          · cases hv
        · cases hv
      · cases hv
    · cases hv
  · rename_i nn e hs
    simp only [Option.bind_eq_bind, Option.bind_eq_some_iff, Option.some.injEq] at h
    obtain ⟨i, hi', rx, hx, rlo, hlo, rhi, hhi, rmx, hmx', rfl⟩ := h
    simp only [ROp.vc] at hv
    split at hv
    · rename_i a0 he
      split at hv
      · rename_i M hM
        split at hv
        · rename_i H hH
          split at hv
          · rename_i L hL
            obtain ⟨b1, b2, b3, b4, b5, hv⟩ := hv
            refine .step hv (MExt.refl m) (fun a => Instr.sliceAt t (a.eval x) (lo.map a.eval) (hi.map a.eval) (mx.map a.eval)) (fun _ => rfl) fun r w a hm ht => ?_
            have e1 := rvR hx hmx ht
            rw [he] at e1
            obtain ⟨a', e1, ha, hsp⟩ := e1.addr
            have hb := bounds_ok (r := r) (f := f) (a := a) (P := P) (isSlice := false) (n := nn) (c := nn) (c' := nn) (resolveO_mapM hlo) (resolveO_mapM hhi) (resolveO_mapM hmx') (ht1 ht) (ht2 ht) (ht3 ht) (Nat.le_refl _) hM hH hL b1 b2 b3 b4 b5 w
            have hMm : (if rmx.isSome then M.toNat else nn) = M.toNat := by
              split
              · rfl
              · rename_i hn
                have : rmx = none := by simpa using hn
                subst this
                have : M = nn := by simpa [optIx] using hM.symm
                omega
            rw [hMm] at hb
            refine .pure hm (v' := .slice (some (if M.toNat = L.toNat then a' else a'.add (L.toNat * i.size))) (H.toNat - L.toNat) (M.toNat - L.toNat)) ?_ ?_
            · simp only [e1, Instr.sliceAt, Instr.sureAddr, run_underlying hs, hb, sizeOf, typeInfo, hi', Sem.run_bind, Result.andThen_ok, run_program, Sem.run_pure]
            · have hlen : (H - L).toNat = H.toNat - L.toNat := by omega
              have hcap : (M - L).toNat = M.toNat - L.toNat := by omega
              rw [hlen, hcap]
              refine .slice (by omega) ⟨Nat.le_refl _, ?_, fun e' he' => by simp at he', fun _ => rfl⟩
              by_cases h0 : M.toNat = L.toNat
              · left; omega
              · right; rw [if_neg h0]; exact ha.add _
          · cases hv
        · cases hv
      · cases hv
    · cases hv
  · cases h

theorem sound_fieldAddr {s : TypeId} {x : Operand} {k : Nat} (h : resolveOp P (.fieldAddr s x k) = some rop) (hv : rop.vc P f m K) : Sound P ⟨d, .fieldAddr s x k, ty, pos, af, gd⟩ f m K := by
  simp only [resolveOp] at h
  split at h
  · rename_i fields hs
    split at h
    · rename_i fl hfl
      simp only [Option.bind_eq_bind, Option.bind_eq_some_iff] at h
      obtain ⟨i, hi, h⟩ := h
      split at h
      · rename_i hpos
        simp only [Option.bind_eq_some_iff, Option.some.injEq] at h
        obtain ⟨rx, hx, rfl⟩ := h
        simp only [ROp.vc] at hv
        split at hv
        · rename_i a0 he
          refine .plain hv fun r w a hm ht => ?_
          have e1 := rvR hx (by simp [Op.operands]) ht
          rw [he] at e1
          obtain ⟨a', e1, ha, hsp⟩ := e1.addr
          refine ⟨.pointer (some (a'.add fl.offset)), ?_, .ptr rfl (ha.add _)⟩
          have hne : ¬ (i.size = 0) := by omega
          simp [execOp, e1, Instr.fieldAt, run_underlying hs, hfl, Instr.sureAddr, fieldPlace, sizeOf, typeInfo, hi, hne]
        · cases hv
      · cases h
    · cases h
  · cases h

theorem extract_rel {r : Ren} {cs cs' : Array Value} (hs : cs.size = cs'.size) (h : ∀ i, VR r (cs.getD i undef) (cs'.getD i undef)) (o n : Nat) : VR r (.agg (cs.extract o n)) (.agg (cs'.extract o n)) := by
  refine .agg (by simp [hs]) fun i => ?_
  by_cases hi : o + i < n ∧ o + i < cs.size
  · have e1 : (cs.extract o n).getD i undef = cs.getD (o + i) undef := by
      simp only [Array.getD, Array.size_extract]
      rw [dif_pos (by omega), dif_pos hi.2]
      simp
    have e2 : (cs'.extract o n).getD i undef = cs'.getD (o + i) undef := by
      simp only [Array.getD, Array.size_extract]
      rw [dif_pos (by omega), dif_pos (by omega)]
      simp
    rw [e1, e2]
    exact h _
  · have e1 : (cs.extract o n).getD i undef = undef := by
      simp only [Array.getD, Array.size_extract]
      rw [dif_neg (by omega)]
    have e2 : (cs'.extract o n).getD i undef = undef := by
      simp only [Array.getD, Array.size_extract]
      rw [dif_neg (by omega)]
    rw [e1, e2]
    exact .und

theorem VR.agg_inv {r : Ren} {cs : Array Value} {v' : Value} (h : VR r (.agg cs) v') : ∃ cs', v' = .agg cs' ∧ cs.size = cs'.size ∧ ∀ i, VR r (cs.getD i undef) (cs'.getD i undef) := by
  cases h with
  | agg hs h => exact ⟨_, rfl, hs, h⟩

theorem isAgg_run {t : TypeId} {dd : TypeDesc} (h : P.underlying t = some dd) (w : World) : (isAgg t).run P w = .ok (aggD dd) w := by
  cases dd <;> simp [isAgg, run_underlying h, aggD]

theorem sound_field {s : TypeId} {x : Operand} {k : Nat} (h : resolveOp P (.field s x k) = some rop) (hv : rop.vc P f m K) : Sound P ⟨d, .field s x k, ty, pos, af, gd⟩ f m K := by
  simp only [resolveOp] at h
  split at h
  · rename_i fields hs
    split at h
    · rename_i fl hfl
      split at h
      · rename_i dd hd
        split at h
        · rename_i hagg
          simp only [Option.bind_eq_bind, Option.bind_eq_some_iff, Option.some.injEq] at h
          obtain ⟨i, hi, rx, hx, rfl⟩ := h
          simp only [ROp.vc] at hv
          split at hv
          · rename_i cs he
            refine .plain hv fun r w a hm ht => ?_
            have e1 := rvR hx (by simp [Op.operands]) ht
            rw [he] at e1
            obtain ⟨cs', e1, hsz, hvr⟩ := e1.agg_inv
            refine ⟨_, ?_, extract_rel hsz hvr _ _⟩
            simp [execOp, e1, Instr.field, run_underlying hs, hfl, asAgg, part, isAgg_run hd, hagg, sizeOf, typeInfo, hi]
          · cases hv
        · rename_i hagg
          simp only [Option.bind_eq_bind, Option.bind_eq_some_iff, Option.some.injEq] at h
          obtain ⟨rx, hx, rfl⟩ := h
          simp only [ROp.vc] at hv
          split at hv
          · rename_i cs he
            refine .plain hv.2 fun r w a hm ht => ?_
            have e1 := rvR hx (by simp [Op.operands]) ht
            rw [he] at e1
            obtain ⟨cs', e1, hsz, hvr⟩ := e1.agg_inv
            have hlt : fl.offset < cs'.size := by have := hv.1; omega
            obtain ⟨u, hu, hur⟩ : ∃ u, cs'[fl.offset]? = some u ∧ VR r (cs.getD fl.offset undef) u := ⟨_, getD_eq_some hlt, hvr _⟩
            refine ⟨u, ?_, hur⟩
            simp [execOp, e1, Instr.field, run_underlying hs, hfl, asAgg, part, isAgg_run hd, hagg, hu]
          · cases hv
      · cases h
    · cases h
  · cases h

theorem sound_indexAddr {t : TypeId} {x ix : Operand} (h : resolveOp P (.indexAddr t x ix) = some rop) (hv : rop.vc P f m K) : Sound P ⟨d, .indexAddr t x ix, ty, pos, af, gd⟩ f m K := by
  simp only [resolveOp] at h
  split at h
  · rename_i e hs
    simp only [Option.bind_eq_bind, Option.bind_eq_some_iff, Option.some.injEq] at h
    obtain ⟨i, hi, rx, hx, ri, hri, rfl⟩ := h
    simp only [ROp.vc] at hv
    split at hv
    · rename_i a0 n c k j he hie
      obtain ⟨b1, b2, hv⟩ := hv
      refine .plain hv fun r w a hm ht => ?_
      have e1 := rvR hx (by simp [Op.operands]) ht
      have e2 := rvR hri (by simp [Op.operands]) ht
      rw [he] at e1
      rw [hie] at e2
      have e2 := e2.int_inv
      obtain ⟨a', c', e1, hnc, hsr⟩ := e1.slice_inv
      have ha : AR r a0.block a0.off a' := hsr.loc.resolve_left (by have := hsr.le; omega)
      refine ⟨.pointer (some (a'.add (j.toNat * i.size))), ?_, .ptr rfl (ha.add _)⟩
      simp [execOp, e1, e2, Instr.indexAt, asIntOf, run_underlying hs, sizeOf, typeInfo, hi, b1, b2]
    · cases hv
  · rename_i nn e hs
    simp only [Option.bind_eq_bind, Option.bind_eq_some_iff, Option.some.injEq] at h
    obtain ⟨i, hi, rx, hx, ri, hri, rfl⟩ := h
    simp only [ROp.vc] at hv
    split at hv
    · rename_i a0 k j he hie
      obtain ⟨b1, b2, hv⟩ := hv
      refine .plain hv fun r w a hm ht => ?_
      have e1 := rvR hx (by simp [Op.operands]) ht
      have e2 := rvR hri (by simp [Op.operands]) ht
      rw [he] at e1
      rw [hie] at e2
      have e2 := e2.int_inv
      obtain ⟨a', e1, ha, hsp⟩ := e1.addr
      refine ⟨.pointer (some (a'.add (j.toNat * i.size))), ?_, .ptr rfl (ha.add _)⟩
      simp [execOp, e1, e2, Instr.indexAt, Instr.sureAddr, asIntOf, run_underlying hs, sizeOf, typeInfo, hi, b1, b2]
    · cases hv
  · cases h

theorem sound_index {t : TypeId} {x ix : Operand} (h : resolveOp P (.index t x ix) = some rop) (hv : rop.vc P f m K) : Sound P ⟨d, .index t x ix, ty, pos, af, gd⟩ f m K := by
  simp only [resolveOp] at h
  split at h
  · rename_i hs
    simp only [Option.bind_eq_bind, Option.bind_eq_some_iff, Option.some.injEq] at h
    obtain ⟨rx, hx, ri, hri, rfl⟩ := h
    simp only [ROp.vc] at hv
    split at hv
    · rename_i s k j he hie
      obtain ⟨b1, b2, hv⟩ := hv
      refine .plain hv fun r w a hm ht => ⟨_, ?_, .int _ _⟩
      have e1 := (rvR hx (by simp [Op.operands]) ht).eq_of_plain (by rw [he]; rfl)
      have e2 := rvR hri (by simp [Op.operands]) ht
      rw [he] at e1
      rw [hie] at e2
      have e2 := e2.int_inv
      have hlt : j.toNat < s.size := by omega
      have hget : s[j.toNat]? = some (s.data.toList.getD j.toNat 0) := by
        have hlt' : j.toNat < s.data.toList.length := by simpa using hlt
        simp only [List.getD_eq_getElem?_getD, List.getElem?_eq_getElem hlt', Option.getD_some]
        simp [hlt]
        rfl
      simp [execOp, e1, e2, Instr.index, asIntOf, run_underlying hs, b1, hget]
    · cases hv
  · rename_i nn e hs
    split at h
    · rename_i dd hd
      simp only [Option.bind_eq_bind, Option.bind_eq_some_iff] at h
      obtain ⟨i, hi, h⟩ := h
      split at h
      · rename_i hagg
        simp only [Option.bind_eq_some_iff, Option.some.injEq] at h
        obtain ⟨rx, hx, ri, hri, rfl⟩ := h
        simp only [ROp.vc] at hv
        split at hv
        · rename_i cs k j he hie
          obtain ⟨b1, b2, hv⟩ := hv
          refine .plain hv fun r w a hm ht => ?_
          have e1 := rvR hx (by simp [Op.operands]) ht
          have e2 := rvR hri (by simp [Op.operands]) ht
          rw [he] at e1
          rw [hie] at e2
          have e2 := e2.int_inv
          obtain ⟨cs', e1, hsz, hvr⟩ := e1.agg_inv
          refine ⟨_, ?_, extract_rel hsz hvr _ _⟩
          simp [execOp, e1, e2, Instr.index, asIntOf, run_underlying hs, b1, b2, sizeOf, typeInfo, hi, part, isAgg_run hd, hagg]
        · cases hv
      · rename_i hagg
        split at h
        · rename_i h1
          simp only [Option.bind_eq_some_iff, Option.some.injEq] at h
          obtain ⟨rx, hx, ri, hri, rfl⟩ := h
          simp only [ROp.vc] at hv
          split at hv
          · rename_i cs k j he hie
            obtain ⟨b1, b2, b3, hv⟩ := hv
            refine .plain hv fun r w a hm ht => ?_
            have e1 := rvR hx (by simp [Op.operands]) ht
            have e2 := rvR hri (by simp [Op.operands]) ht
            rw [he] at e1
            rw [hie] at e2
            have e2 := e2.int_inv
            obtain ⟨cs', e1, hsz, hvr⟩ := e1.agg_inv
            have hlt : j.toNat < cs'.size := by omega
            have h1' : i.size = 1 := h1
            obtain ⟨u, hu, hur⟩ : ∃ u, cs'[j.toNat]? = some u ∧ VR r (cs.getD j.toNat undef) u := ⟨_, getD_eq_some hlt, hvr _⟩
            refine ⟨u, ?_, hur⟩
            simp [execOp, e1, e2, Instr.index, asIntOf, run_underlying hs, b1, b2, sizeOf, typeInfo, hi, part, isAgg_run hd, hagg, h1', hu]
          · cases hv
        · cases h
    · cases h
  · cases h

theorem VR.tuple_inv {r : Ren} {cs : Array Value} {v' : Value} (h : VR r (.tuple cs) v') (hpos : 0 < cs.size) : ∃ cs', v' = .tuple cs' ∧ cs.size = cs'.size ∧ ∀ i, VR r (cs.getD i undef) (cs'.getD i undef) := by
  generalize hu : Value.tuple cs = u at h
  cases h with
  | tuple hs h => injection hu with hu; subst hu; exact ⟨_, rfl, hs, h⟩
  | und => unfold undef at hu; injection hu with hu; subst hu; simp at hpos
  | _ => cases hu

theorem sound_extract {x : Operand} {k : Nat} (h : resolveOp P (.extract x k) = some rop) (hv : rop.vc P f m K) : Sound P ⟨d, .extract x k, ty, pos, af, gd⟩ f m K := by
  simp only [resolveOp, Option.bind_eq_bind, Option.bind_eq_some_iff, Option.some.injEq] at h
  obtain ⟨rx, hx, rfl⟩ := h
  simp only [ROp.vc] at hv
  split at hv
  · rename_i vs he
    refine .plain hv.2 fun r w a hm ht => ?_
    have e1 := rvR hx (by simp [Op.operands]) ht
    rw [he] at e1
    have hlt := hv.1
    obtain ⟨vs', e1, hsz, hvr⟩ := e1.tuple_inv (by omega)
    have hlt' : k < vs'.size := by omega
    obtain ⟨u, hu, hur⟩ : ∃ u, vs'[k]? = some u ∧ VR r (vs.getD k undef) u := ⟨_, getD_eq_some hlt', hvr _⟩
    refine ⟨u, ?_, hur⟩
    simp [execOp, e1, Instr.extract, hu]
  · cases hv

end
end Go.Ga
