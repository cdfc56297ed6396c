/- The resolved form of an operation is sound: the builtins; every operation. -/
import Derived.Test.YtndikkpmlofebaaGaOps9
namespace Go.Ga
open Go

section
variable {P : Program} {f : Regs} {m : Mem} {K : Value → Mem → Prop}
variable {d : Option Tmp} {ty : TypeId} {pos : String} {af : Array Edge} {gd : Option (Nat × Bool)} {rop : ROp}

theorem builtin_run {b : Builtin} {args : Array Operand} {ts : Array TypeId} {a : Act} {s : Sem Value} (hb : ∀ cs, builtin b ts ty cs (args.map a.eval) = (do pure (.value (← s)))) :
    execOp a.eval ⟨d, .call ⟨.builtin b, args, ts⟩, ty, pos, af, gd⟩ = (do pure (.value (← s))) := by
  show (do let d ← resolve a.eval ⟨.builtin b, args, ts⟩ ty; invoke d.target d.args) = _
  have : (resolve a.eval ⟨.builtin b, args, ts⟩ ty) = pure { target := .builtin b ts ty (args.map fun | .const _ => true | _ => false), args := args.map a.eval } := rfl
  rw [this]
  exact hb _

theorem mm_rel {mx : Bool} {k : IntKind} {a : Act} {r : Ren} : ∀ {ys : List Operand} {rs : List Rv} {x b : Int}, resolveRvs ys = some rs → (∀ t, Operand.tmp t ∈ ys → VR r (f t) (a.eval (.tmp t))) → mmV mx k x f rs = some b → ∀ w,
    ((ys.map a.eval).foldlM (if mx then Builtin.max2 else Builtin.min2) (.int k x)).run P w = .ok (.int k b) w
  | [], rs, x, b, h, _, hb, w => by
    simp only [resolveRvs, Option.some.injEq] at h
    subst h
    simp only [mmV, Option.some.injEq] at hb
    subst hb
    rfl
  | y :: ys, rs, x, b, h, ht, hb, w => by
    simp only [resolveRvs] at h
    split at h
    · rename_i r1 rs1 h1 h2
      simp only [Option.some.injEq] at h
      subst h
      simp only [mmV] at hb
      split at hb
      · rename_i k2 c he
        have e1 := resolveRv_rel (f := f) (r := r) (a := a) h1 (fun t e => ht t (by simp [e]))
        rw [he] at e1
        have e1 := e1.int_inv
        have ih := mm_rel (mx := mx) h2 (fun t hm => ht t (by simp [hm])) hb w
        simp only [List.map_cons, List.foldlM_cons, Sem.run_bind, e1]
        cases mx
        · simp only [Bool.false_eq_true, if_false] at ih ⊢
          have : (Builtin.min2 (.int k x) (.int k2 c)).run P w = .ok (.int k (if c < x then c else x)) w := rfl
          rw [this, Result.andThen_ok]
          exact ih
        · simp only [if_true] at ih ⊢
          have : (Builtin.max2 (.int k x) (.int k2 c)).run P w = .ok (.int k (if c > x then c else x)) w := rfl
          rw [this, Result.andThen_ok]
          exact ih
      · cases hb
    · cases h

theorem firstStr_ok (s : ByteArray) (n : Nat) (w : World) {r : Ren} : ∃ news' : Array Value, (Builtin.firstCells 1 n (.string s)).run P w = .ok news' w ∧ news'.size = ((s.data.toList.take n).map u8V).length ∧
    ∀ j, VR r (((s.data.toList.take n).map u8V).getD j undef) (news'.getD j undef) := by
  refine ⟨_, rfl, ?_, fun j => ?_⟩
  · simp
  · rw [← toList_getD]
    have : ((s.extract 0 n).data.map fun b => Value.int .u8 (b.toNat : Int)).toList = (s.data.toList.take n).map u8V := by
      simp [ByteArray.data_extract]
      rfl
    rw [this]
    by_cases hj : j < ((s.data.toList.take n).map u8V).length
    · have hm : ((s.data.toList.take n).map u8V).getD j undef ∈ (s.data.toList.take n).map u8V := by
        simp only [List.getD_eq_getElem?_getD, List.getElem?_eq_getElem hj, Option.getD_some]
        exact List.getElem_mem _
      rw [List.mem_map] at hm
      obtain ⟨b, _, hb⟩ := hm
      rw [← hb]
      exact .int _ _
    · have : ((s.data.toList.take n).map u8V).getD j undef = undef := by
        simp only [List.getD_eq_getElem?_getD]
        rw [List.getElem?_eq_none (by omega)]
        rfl
      have e2 : ((s.data.toList.take n).map u8V).getD j undef = undef := this
      rw [e2]
      exact .und

theorem sound_builtin {b : Builtin} {args : Array Operand} {ts : Array TypeId} (h : resolveOp P (.call ⟨.builtin b, args, ts⟩) = some rop) (hv : rop.vc P f m K) (hwf : m.bar ≤ m.next) : Sound P ⟨d, .call ⟨.builtin b, args, ts⟩, ty, pos, af, gd⟩ f m K := by
  obtain ⟨args⟩ := args
  obtain ⟨ts⟩ := ts
  replace h : resolveBuiltin P b args ts = some rop := h
  have mem : ∀ {x}, x ∈ args → x ∈ (Op.call ⟨.builtin b, ⟨args⟩, ⟨ts⟩⟩).operands := fun hx => by simp [Op.operands, Call.operands, hx]
  unfold resolveBuiltin at h
  split at h
  · -- len
    rename_i x t
    split at h
    · rename_i ht
      simp only [Option.bind_eq_bind, Option.bind_eq_some_iff, Option.some.injEq] at h
      obtain ⟨rx, hx, rfl⟩ := h
      simp only [ROp.vc] at hv
      split at hv
      · rename_i s he
        refine .step hv (MExt.refl m) (fun a => Builtin.len_ #[t] ty #[a.eval x]) (fun a => builtin_run fun _ => by rw [List.map_toArray]; rfl) fun r w a hm hto => ?_
        have e1 := (rvR hx (mem (by simp)) hto).eq_of_plain (by rw [he]; rfl)
        rw [he] at e1
        exact .pure hm (v' := .int .i64 s.size) (by simp [Builtin.len_, run_underlying ht, e1, goInt]) (.int _ _)
      · cases hv
    · rename_i e ht
      simp only [Option.bind_eq_bind, Option.bind_eq_some_iff, Option.some.injEq] at h
      obtain ⟨rx, hx, rfl⟩ := h
      simp only [ROp.vc] at hv
      split at hv
      · rename_i A n c he
        refine .step hv (MExt.refl m) (fun a => Builtin.len_ #[t] ty #[a.eval x]) (fun a => builtin_run fun _ => by rw [List.map_toArray]; rfl) fun r w a hm hto => ?_
        have e1 := rvR hx (mem (by simp)) hto
        rw [he] at e1
        refine .pure hm (v' := .int .i64 n) ?_ (.int _ _)
        generalize a.eval x = v' at e1
        cases e1 <;> simp [Builtin.len_, run_underlying ht, goInt]
      · cases hv
    · rename_i n e ht
      simp only [Option.some.injEq] at h
      subst h
      refine .step hv (MExt.refl m) (fun a => Builtin.len_ #[t] ty #[a.eval x]) (fun a => builtin_run fun _ => by rw [List.map_toArray]; rfl) fun r w a hm hto => ?_
      exact .pure hm (v' := .int .i64 n) (by simp [Builtin.len_, run_underlying ht, goInt]) (.int _ _)
    · rename_i p ht
      split at h
      · rename_i n e hp
        simp only [Option.some.injEq] at h
        subst h
        refine .step hv (MExt.refl m) (fun a => Builtin.len_ #[t] ty #[a.eval x]) (fun a => builtin_run fun _ => by rw [List.map_toArray]; rfl) fun r w a hm hto => ?_
        exact .pure hm (v' := .int .i64 n) (by simp [Builtin.len_, run_underlying ht, run_underlying hp, goInt]) (.int _ _)
      · cases h
    · cases h
  · -- append
    rename_i x y t u
    split at h
    · rename_i e e2 ht hu
      simp only [Option.bind_eq_bind, Option.bind_eq_some_iff] at h
      obtain ⟨⟨i, z⟩, hz, h⟩ := h
      obtain ⟨z1, z2, z3⟩ := zeroOf_spec hz
      split at h
      · rename_i hzs
        simp only [Option.bind_eq_some_iff, Option.some.injEq] at h
        obtain ⟨rx, hx, ry, hy, rfl⟩ := h
        simp only [ROp.vc] at hv
        split at hv
        · rename_i A n c B k c2 he1 he2
          split at hv
          · rename_i news hnews
            obtain ⟨v, m', hK, hx', hstep⟩ := appendK_ok (P := P) ht hu (.inl ⟨_, rfl⟩) z1 z2 hzs ty hv hwf
            refine .step hK hx' (fun a => Builtin.append_ #[t, u] ty #[a.eval x, a.eval y]) (fun a => builtin_run fun _ => by rw [List.map_toArray]; rfl) fun r w a hm hto => ?_
            have e1 := rvR hx (mem (by simp)) hto
            have e2 := rvR hy (mem (by simp)) hto
            rw [he1] at e1
            rw [he2] at e2
            refine hstep r w _ _ hm e1 (lenOf_ok e2 w) fun dr => ?_
            obtain ⟨cs, g1, g2, _, g4⟩ := firstCells_ok (P := P) hm e2 (Nat.le_refl k) hnews dr
            exact ⟨cs, g1, g2, g4⟩
          · cases hv
        · cases hv
      · cases h
    · rename_i e ht hu
      simp only [Option.bind_eq_bind, Option.bind_eq_some_iff] at h
      obtain ⟨⟨i, z⟩, hz, h⟩ := h
      obtain ⟨z1, z2, z3⟩ := zeroOf_spec hz
      split at h
      · rename_i hzs
        have hzs : z.cells.size = i.size ∧ i.size = 1 ∧ i.bytes = 1 := hzs
        simp only [Option.bind_eq_some_iff, Option.some.injEq] at h
        obtain ⟨rx, hx, ry, hy, rfl⟩ := h
        simp only [ROp.vc] at hv
        split at hv
        · rename_i A n c s he1 he2
          obtain ⟨q1, q2, q3⟩ := hzs
          rw [show (1 : Nat) = i.size from q2.symm] at hv
          have hv : appendK i.size i.bytes m A n c s.size (s.data.toList.map u8V) K := by rw [q3, q2]; rw [q2] at hv; exact hv
          obtain ⟨v, m', hK, hx', hstep⟩ := appendK_ok (P := P) ht hu (.inr rfl) z1 z2 q1 ty hv hwf
          refine .step hK hx' (fun a => Builtin.append_ #[t, u] ty #[a.eval x, a.eval y]) (fun a => builtin_run fun _ => by rw [List.map_toArray]; rfl) fun r w a hm hto => ?_
          have e1 := rvR hx (mem (by simp)) hto
          have e2 := (rvR hy (mem (by simp)) hto).eq_of_plain (by rw [he2]; rfl)
          rw [he1] at e1
          rw [he2] at e2
          rw [e2]
          refine hstep r w _ _ hm e1 rfl fun dr => ?_
          rw [q2]
          have := firstStr_ok (P := P) s s.size { w with drawn := dr } (r := r)
          have ht : s.data.toList.take s.size = s.data.toList := List.take_of_length_le (by show s.data.toList.length ≤ s.data.size; simp)
          rw [ht] at this
          exact this
        · cases hv
      · cases h
    · cases h
  · -- copy
    rename_i x y t u
    split at h
    · rename_i e e2 ht hu
      simp only [Option.bind_eq_bind, Option.bind_eq_some_iff, Option.some.injEq] at h
      obtain ⟨i, hi, rx, hx, ry, hy, rfl⟩ := h
      simp only [ROp.vc] at hv
      split at hv
      · rename_i A n c B k c2 he1 he2
        split at hv
        · rename_i news hnews
          have first : ∀ {r : Ren} {w : World} {a : Act}, MemRel r m w → VR r (.slice B k c2) (a.eval y) → ∃ news' : Array Value, (Builtin.firstCells i.size (Nat.min k n) (a.eval y)).run P w = .ok news' w ∧ news'.size = news.length ∧ news.length = Nat.min k n * i.size ∧ ∀ j, VR r (news.getD j undef) (news'.getD j undef) := by
            intro r w a hm e2
            obtain ⟨cs, g1, g2, g3, g4⟩ := firstCells_ok (P := P) hm e2 (Nat.min_le_left k n) hnews w.drawn
            exact ⟨cs, g1, g2, g3, g4⟩
          cases A with
          | none =>
            refine .step hv (MExt.refl m) (fun a => Builtin.copy_ #[t, u] ty #[a.eval x, a.eval y]) (fun a => builtin_run fun _ => by rw [List.map_toArray]; rfl) fun r w a hm hto => ?_
            have e1 := rvR hx (mem (by simp)) hto
            have e2 := rvR hy (mem (by simp)) hto
            rw [he1] at e1
            rw [he2] at e2
            obtain ⟨cs, g1, g2, g3, g4⟩ := first hm e2
            exact copy_none ht hi ty (.inl rfl) hm e1 (lenOf_ok e2 w) ⟨cs, g1, by omega⟩
          | some a0 =>
            simp only at hv
            split at hv
            · rename_i h0
              refine .step hv (MExt.refl m) (fun a => Builtin.copy_ #[t, u] ty #[a.eval x, a.eval y]) (fun a => builtin_run fun _ => by rw [List.map_toArray]; rfl) fun r w a hm hto => ?_
              have e1 := rvR hx (mem (by simp)) hto
              have e2 := rvR hy (mem (by simp)) hto
              rw [he1] at e1
              rw [he2] at e2
              obtain ⟨cs, g1, g2, g3, g4⟩ := first hm e2
              exact copy_none ht hi ty (.inr h0) hm e1 (lenOf_ok e2 w) ⟨cs, g1, by omega⟩
            · rename_i h0
              obtain ⟨l, hg, hbar, hlen, h1, hv⟩ := writeK_elim hv
              refine .step hv (MExt.put hbar _) (fun a => Builtin.copy_ #[t, u] ty #[a.eval x, a.eval y]) (fun a => builtin_run fun _ => by rw [List.map_toArray]; rfl) fun r w a hm hto => ?_
              have e1 := rvR hx (mem (by simp)) hto
              have e2 := rvR hy (mem (by simp)) hto
              rw [he1] at e1
              rw [he2] at e2
              obtain ⟨cs, g1, g2, g3, g4⟩ := first hm e2
              exact copy_ok ht hi ty rfl hg hbar hlen h1 h0 hm e1 (lenOf_ok e2 w) ⟨cs, g1, g2, g4⟩
        · cases hv
      · cases hv
    · rename_i e ht hu
      simp only [Option.bind_eq_bind, Option.bind_eq_some_iff] at h
      obtain ⟨i, hi, h⟩ := h
      split at h
      · rename_i hsz
        have hsz : i.size = 1 := hsz
        simp only [Option.bind_eq_some_iff, Option.some.injEq] at h
        obtain ⟨rx, hx, ry, hy, rfl⟩ := h
        simp only [ROp.vc] at hv
        split at hv
        · rename_i A n c s he1 he2
          have first : ∀ {r : Ren} {w : World}, ∃ news' : Array Value, (Builtin.firstCells i.size (Nat.min s.size n) (.string s)).run P w = .ok news' w ∧ news'.size = ((s.data.toList.take (Nat.min s.size n)).map u8V).length ∧ ((s.data.toList.take (Nat.min s.size n)).map u8V).length = Nat.min s.size n * i.size ∧
              ∀ j, VR r (((s.data.toList.take (Nat.min s.size n)).map u8V).getD j undef) (news'.getD j undef) := by
            intro r w
            rw [hsz]
            obtain ⟨cs, g1, g2, g3⟩ := firstStr_ok (P := P) s (Nat.min s.size n) w (r := r)
            refine ⟨cs, g1, g2, ?_, g3⟩
            have : s.data.size = s.size := rfl
            have : Nat.min s.size n ≤ s.size := Nat.min_le_left s.size n
            simp only [List.length_map, List.length_take, Array.length_toList]
            omega
          have hl : ∀ w, (Builtin.lenOf (.string s)).run P w = .ok s.size w := fun _ => rfl
          cases A with
          | none =>
            refine .step hv (MExt.refl m) (fun a => Builtin.copy_ #[t, u] ty #[a.eval x, a.eval y]) (fun a => builtin_run fun _ => by rw [List.map_toArray]; rfl) fun r w a hm hto => ?_
            have e1 := rvR hx (mem (by simp)) hto
            have e2 := (rvR hy (mem (by simp)) hto).eq_of_plain (by rw [he2]; rfl)
            rw [he1] at e1
            rw [he2] at e2
            rw [e2]
            obtain ⟨cs, g1, g2, g3, g4⟩ := first (r := r) (w := w)
            exact copy_none ht hi ty (.inl rfl) hm e1 (hl w) ⟨cs, g1, by omega⟩
          | some a0 =>
            simp only at hv
            split at hv
            · rename_i h0
              refine .step hv (MExt.refl m) (fun a => Builtin.copy_ #[t, u] ty #[a.eval x, a.eval y]) (fun a => builtin_run fun _ => by rw [List.map_toArray]; rfl) fun r w a hm hto => ?_
              have e1 := rvR hx (mem (by simp)) hto
              have e2 := (rvR hy (mem (by simp)) hto).eq_of_plain (by rw [he2]; rfl)
              rw [he1] at e1
              rw [he2] at e2
              rw [e2]
              obtain ⟨cs, g1, g2, g3, g4⟩ := first (r := r) (w := w)
              exact copy_none ht hi ty (.inr (by rw [h0]; simp)) hm e1 (hl w) ⟨cs, g1, by omega⟩
            · rename_i h0
              obtain ⟨l, hg, hbar, hlen, h1, hv⟩ := writeK_elim hv
              refine .step hv (MExt.put hbar _) (fun a => Builtin.copy_ #[t, u] ty #[a.eval x, a.eval y]) (fun a => builtin_run fun _ => by rw [List.map_toArray]; rfl) fun r w a hm hto => ?_
              have e1 := rvR hx (mem (by simp)) hto
              have e2 := (rvR hy (mem (by simp)) hto).eq_of_plain (by rw [he2]; rfl)
              rw [he1] at e1
              rw [he2] at e2
              rw [e2]
              obtain ⟨cs, g1, g2, g3, g4⟩ := first (r := r) (w := w)
              exact copy_ok ht hi ty rfl hg hbar hlen h1 (by rw [hsz]; omega) hm e1 (hl w) ⟨cs, g1, g2, g4⟩
        · cases hv
      · cases h
    · cases h
  · -- min
    rename_i x ys
    simp only [Option.bind_eq_bind, Option.bind_eq_some_iff, Option.some.injEq] at h
    obtain ⟨rx, hx, ry, hy, rfl⟩ := h
    simp only [ROp.vc] at hv
    split at hv
    · rename_i k a0 he
      split at hv
      · rename_i b0 hb
        refine .step hv (MExt.refl m) (fun a => Builtin.min_ ⟨ts⟩ ty ((⟨x :: ys⟩ : Array Operand).map a.eval)) (fun a => builtin_run fun _ => rfl) fun r w a hm hto => ?_
        have e1 := rvR hx (mem (by simp)) hto
        rw [he] at e1
        have e1 := e1.int_inv
        have hrun := mm_rel (P := P) (mx := false) hy (fun t ht => hto t (mem (by simp [ht]))) hb w
        refine .pure hm (v' := .int k b0) ?_ (.int _ _)
        simp only [Builtin.min_, List.map_toArray, List.map_cons, e1]
        exact hrun
      · cases hv
    · cases hv
  · -- max
    rename_i x ys
    simp only [Option.bind_eq_bind, Option.bind_eq_some_iff, Option.some.injEq] at h
    obtain ⟨rx, hx, ry, hy, rfl⟩ := h
    simp only [ROp.vc] at hv
    split at hv
    · rename_i k a0 he
      split at hv
      · rename_i b0 hb
        refine .step hv (MExt.refl m) (fun a => Builtin.max_ ⟨ts⟩ ty ((⟨x :: ys⟩ : Array Operand).map a.eval)) (fun a => builtin_run fun _ => rfl) fun r w a hm hto => ?_
        have e1 := rvR hx (mem (by simp)) hto
        rw [he] at e1
        have e1 := e1.int_inv
        have hrun := mm_rel (P := P) (mx := true) hy (fun t ht => hto t (mem (by simp [ht]))) hb w
        refine .pure hm (v' := .int k b0) ?_ (.int _ _)
        simp only [Builtin.max_, List.map_toArray, List.map_cons, e1]
        exact hrun
      · cases hv
    · cases hv
  · cases h

/-- **Every operation that has a resolved form does what that form says.** -/
theorem sound {o : Oper} (h : resolveOp P o.op = some rop) (hv : rop.vc P f m K) (hwf : m.bar ≤ m.next) : Sound P o f m K := by
  obtain ⟨dst, op, type, pos, after, guard⟩ := o
  simp only at h
  cases op with
  | move x => exact sound_move h hv
  | assign x => exact sound_assign h hv
  | pick c a b => exact sound_pick h hv
  | alloc t => exact sound_alloc h hv hwf
  | box t x => exact sound_box h hv hwf
  | build t ps => exact sound_build h hv
  | buildSlice t n ps => exact sound_buildSlice h hv hwf
  | load t x => exact sound_load h hv
  | store t x y => exact sound_store h hv
  | nilCheck x => exact sound_chk h hv
  | binOp o t x y u => exact sound_bin h hv
  | unOp o t x => exact sound_un h hv
  | convert s t x => exact sound_conv h hv hwf
  | makeInterface t x => exact sound_iface h hv
  | makeFunc fn a b => exact sound_func h hv
  | makeSlice t l c => exact sound_make h hv hwf
  | slice t x l h' mx => exact sound_slice h hv
  | fieldAddr s x k => exact sound_fieldAddr h hv
  | field s x k => exact sound_field h hv
  | indexAddr t x i => exact sound_indexAddr h hv
  | index t x i => exact sound_index h hv
  | extract x i => exact sound_extract h hv
  | call c =>
    obtain ⟨callee, args, ts⟩ := c
    cases callee with
    | builtin b => exact sound_builtin h hv hwf
    | value x => exact absurd h (by simp [resolveOp])
    | invoke r n => exact absurd h (by simp [resolveOp])
  | _ => exact absurd h (by simp [resolveOp])

end
end Go.Ga
