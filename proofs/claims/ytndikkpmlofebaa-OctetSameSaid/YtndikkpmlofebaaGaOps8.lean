/- The resolved form of an operation is sound: the rest. -/
import Derived.Test.YtndikkpmlofebaaGaOps7
namespace Go.Ga
open Go

section
variable {P : Program} {f : Regs} {m : Mem} {K : Value → Mem → Prop}
variable {d : Option Tmp} {ty : TypeId} {pos : String} {af : Array Edge} {gd : Option (Nat × Bool)} {rop : ROp}

theorem sound_load {t : TypeId} {x : Operand} (h : resolveOp P (.load t x) = some rop) (hv : rop.vc P f m K) : Sound P ⟨d, .load t x, ty, pos, af, gd⟩ f m K := by
  simp only [resolveOp] at h
  split at h
  · rename_i dd hd
    split at h
    · rename_i hagg
      simp only [Option.bind_eq_bind, Option.bind_eq_some_iff, Option.some.injEq] at h
      obtain ⟨i, hi, rv, hr, rfl⟩ := h
      simp only [ROp.vc] at hv
      split at hv
      · rename_i a0 ha0
        split at hv
        · rename_i l ro hg
          refine .step hv.2 (MExt.refl m) (fun a => Instr.loadAt t (a.eval x)) (fun _ => rfl) fun r w a hm ht => ?_
          have hx := rvR hr (by simp [Op.operands]) ht
          rw [ha0] at hx
          exact loadN_ok hm hd (by cases dd <;> simp_all [aggD]) hi hx hg hv.1
        · cases hv
      · cases hv
    · rename_i hagg
      simp only [Option.bind_eq_bind, Option.bind_eq_some_iff, Option.some.injEq] at h
      obtain ⟨rv, hr, rfl⟩ := h
      simp only [ROp.vc] at hv
      split at hv
      · rename_i a0 ha0
        split at hv
        · rename_i l ro hg
          refine .step hv.2 (MExt.refl m) (fun a => Instr.loadAt t (a.eval x)) (fun _ => rfl) fun r w a hm ht => ?_
          have hx := rvR hr (by simp [Op.operands]) ht
          rw [ha0] at hx
          exact load1_ok hm hd (by cases dd <;> simp_all [aggD]) hx hg hv.1
        · cases hv
      · cases hv
  · cases h

theorem sound_store {t : TypeId} {x y : Operand} (h : resolveOp P (.store t x y) = some rop) (hv : rop.vc P f m K) : Sound P ⟨d, .store t x y, ty, pos, af, gd⟩ f m K := by
  simp only [resolveOp, Option.bind_eq_bind, Option.bind_eq_some_iff, Option.some.injEq] at h
  obtain ⟨i, hi, rx, hx, ry, hy, rfl⟩ := h
  simp only [ROp.vc] at hv
  split at hv
  · rename_i a0 ha0
    split at hv
    · rename_i l hl
      obtain ⟨hlen, hv⟩ := hv
      obtain ⟨l0, hg, hbar, hk, h1, hK⟩ := writeK_elim hv
      refine ⟨undef, _, OpEv.of_unit (MExt.put hbar _) (s := fun a => Instr.storeAt t (a.eval x) (a.eval y)) (fun _ => rfl) fun r w a hm ht => ?_, hK⟩
      have h2 := rvR hx (by simp [Op.operands]) ht
      have h3 := rvR hy (by simp [Op.operands]) ht
      rw [ha0] at h2
      exact store_ok hm hi h2 h3 hl hlen hg hbar hk h1
    · cases hv
  · cases hv

theorem sound_chk {x : Operand} (h : resolveOp P (.nilCheck x) = some rop) (hv : rop.vc P f m K) : Sound P ⟨d, .nilCheck x, ty, pos, af, gd⟩ f m K := by
  simp only [resolveOp, Option.bind_eq_bind, Option.bind_eq_some_iff, Option.some.injEq] at h
  obtain ⟨rv, hr, rfl⟩ := h
  simp only [ROp.vc] at hv
  split at hv
  · rename_i a0 ha0
    refine .plain hv fun r w a hm ht => ?_
    have hx := rvR hr (by simp [Op.operands]) ht
    rw [ha0] at hx
    obtain ⟨a', he, _⟩ := hx.addr
    rw [he] at hx
    exact ⟨_, by simp [execOp, he], hx⟩
  · rename_i g fs cs ha0
    refine .plain hv fun r w a hm ht => ?_
    have hx := rvR hr (by simp [Op.operands]) ht
    rw [ha0] at hx
    cases he : a.eval x <;> rw [he] at hx <;> cases hx
    rename_i cs' hs hv'
    exact ⟨_, by simp [execOp, he], .func _ hs hv'⟩
  · cases hv

def guardFree : Value → Bool
  | .nilIface | .agg _ => false
  | _ => true

theorem eqGuard_free {op : BinOp} {t : TypeId} {x y : Operand} {a b : Value} (h : guardFree a = true) (w : World) : (eqGuard op t x y a b).run P w = .ok () w := by
  cases op <;> first
    | rfl
    | (cases a <;> first
        | rfl
        | simp [guardFree] at h)

theorem binK_free {op : BinOp} {x y : Value} {K : Value → Prop} (h : binK op x y K) : guardFree x = true := by
  unfold binK at h
  split at h
  · rfl
  · rfl
  · cases h

theorem equal_bool {t : TypeId} (ht : P.underlying t = some .bool) (a b : Bool) (w : World) : (Op.equal t (.bool a) (.bool b)).run P w = .ok (a == b) w := by
  have h : ∀ dp, (Op.equalIn (dp + 1) t (.bool a) (.bool b)).run P w = .ok (a == b) w := fun dp => by simp [Op.equalIn, run_underlying ht]
  exact h 9999

def nilV : NilK → Value
  | .ptr => .pointer none
  | .sl => .slice none 0 0
  | .mp => .map none
  | .fn => .nilFunc
  | .ifc => .nilIface

theorem equal_nil {t : TypeId} {dd : TypeDesc} {nk : NilK} (ht : P.underlying t = some dd) (hk : nilKind dd = some nk) {v : Value} {b : Bool} (hb : isNilV nk v = some b) (w : World) :
    (Op.equal t v (nilV nk)).run P w = .ok b w ∧ (Op.equal t (nilV nk) v).run P w = .ok b w := by
  have h : ∀ dp, (Op.equalIn (dp + 1) t v (nilV nk)).run P w = .ok b w ∧ (Op.equalIn (dp + 1) t (nilV nk) v).run P w = .ok b w := by
    intro dp
    cases nk <;> cases dd <;> simp only [nilKind, Option.some.injEq, reduceCtorEq] at hk
    · cases v <;> simp only [isNilV, Option.some.injEq, reduceCtorEq] at hb
      rename_i a0
      subst hb
      cases a0 <;> simp [Op.equalIn, run_underlying ht, nilV]
    · cases v <;> simp only [isNilV, Option.some.injEq, reduceCtorEq] at hb
      rename_i a0 _ _
      subst hb
      cases a0 <;> simp [Op.equalIn, run_underlying ht, nilV]
    · cases v <;> simp only [isNilV, Option.some.injEq, reduceCtorEq] at hb
      rename_i a0
      subst hb
      cases a0 <;> simp [Op.equalIn, run_underlying ht, nilV]
    · cases v <;> simp only [isNilV, Option.some.injEq, reduceCtorEq] at hb <;> subst hb <;> simp [Op.equalIn, run_underlying ht, nilV]
    · cases v <;> simp only [isNilV, Option.some.injEq, reduceCtorEq] at hb <;> subst hb <;> simp [Op.equalIn, run_underlying ht, nilV]
  exact h 9999

theorem binOp_eq_nil {t : TypeId} {nk : NilK} {v : Value} {b : Bool} (hb : isNilV nk v = some b) {u u' : Value} (hu : (u = v ∧ u' = nilV nk) ∨ (u = nilV nk ∧ u' = v)) {w : World} (he : (Op.equal t u u').run P w = .ok b w) (neg : Bool) :
    (binOp (if neg then .neq else .eql) t u u').run P w = .ok (.bool (if neg then !b else b)) w := by
  rcases hu with ⟨h1, h2⟩ | ⟨h1, h2⟩ <;> rw [h1, h2] at he ⊢ <;> clear h1 h2 <;> cases nk <;> cases v <;> simp only [isNilV, Option.some.injEq, reduceCtorEq] at hb <;> cases neg <;> simp only [nilV] at he ⊢ <;> simp [binOp, he]

theorem eqGuard_nil {op : BinOp} {t : TypeId} {nk : NilK} {v : Value} {b : Bool} (hb : isNilV nk v = some b) {x y : Operand} {u u' : Value} (hu : (u = v ∧ u' = nilV nk ∧ y = .const (nilV nk)) ∨ (u = nilV nk ∧ u' = v ∧ x = .const (nilV nk))) (w : World) :
    (eqGuard op t x y u u').run P w = .ok () w := by
  rcases hu with ⟨h1, h2, h3⟩ | ⟨h1, h2, h3⟩ <;> rw [h1, h2, h3] <;> clear h1 h2 h3 <;> cases nk <;> cases v <;> simp only [isNilV, Option.some.injEq, reduceCtorEq] at hb <;> first
    | exact eqGuard_free rfl w
    | (cases op <;> first | rfl | simp [eqGuard, nilV])

theorem isNilC_spec {nk : NilK} {c : Operand} (h : isNilC nk c = true) : c = .const (nilV nk) := by
  unfold isNilC at h
  split at h <;> first | rfl | cases h

theorem sound_bin {op : BinOp} {t yt : TypeId} {x y : Operand} (h : resolveOp P (.binOp op t x y yt) = some rop) (hv : rop.vc P f m K) : Sound P ⟨d, .binOp op t x y yt, ty, pos, af, gd⟩ f m K := by
  have nbin : ∀ {op t x y yt}, (resolveOp P (.binOp op t x y yt) = some rop) → resolveBin P op t x y = some rop := fun h => h
  have h := nbin h
  have mx : x ∈ (Op.binOp op t x y yt).operands := by simp [Op.operands]
  have my : y ∈ (Op.binOp op t x y yt).operands := by simp [Op.operands]
  -- numbers, strings
  have plainBin : ∀ rx ry, resolveRv x = some rx → resolveRv y = some ry → (ROp.bin op rx ry).vc P f m K → Sound P ⟨d, .binOp op t x y yt, ty, pos, af, gd⟩ f m K := by
    intro rx ry hx hy hv
    have hv : binK op (rx.ev f) (ry.ev f) fun v => K v m := hv
    obtain ⟨p1, p2, v, hK, hp, hrun⟩ := binK_ok (P := P) hv t
    refine .plain hK fun r w a hm ht => ⟨v, ?_, VR.of_plain hp⟩
    have e1 := (rvR hx mx ht).eq_of_plain p1
    have e2 := (rvR hy my ht).eq_of_plain p2
    have hg : (eqGuard op t x y (rx.ev f) (ry.ev f)).run P w = .ok () w := eqGuard_free (binK_free hv) w
    simp only [execOp, e1, e2, Sem.run_bind, hg, Result.andThen_ok, hrun, Sem.run_pure]
  have eqb : ∀ neg rx ry, op = (if neg then .neq else .eql) → P.underlying t = some .bool → resolveRv x = some rx → resolveRv y = some ry → (ROp.eqB neg rx ry).vc P f m K → Sound P ⟨d, .binOp op t x y yt, ty, pos, af, gd⟩ f m K := by
    intro neg rx ry hop ht0 hx hy hv
    simp only [ROp.vc] at hv
    split at hv
    · rename_i b1 b2 h1 h2
      refine .plain hv fun r w a hm ht => ⟨_, ?_, .bool _⟩
      have e1 := (rvR hx mx ht).eq_of_plain (by rw [h1]; rfl)
      have e2 := (rvR hy my ht).eq_of_plain (by rw [h2]; rfl)
      rw [h1] at e1
      rw [h2] at e2
      have hg : (eqGuard op t x y (.bool b1) (.bool b2)).run P w = .ok () w := eqGuard_free rfl w
      have heq := equal_bool (P := P) ht0 b1 b2 w
      cases neg <;> subst hop <;> simp only [Bool.false_eq_true, if_false, if_true] at hg ⊢ <;> simp [execOp, e1, e2, hg, binOp, heq]
    · cases hv
  have eqa : ∀ rx ry, resolveRv x = some rx → resolveRv y = some ry → (ROp.eqA op t rx ry).vc P f m K → Sound P ⟨d, .binOp op t x y yt, ty, pos, af, gd⟩ f m K := by
    intro rx ry hx hy hv
    simp only [ROp.vc] at hv
    split at hv
    · rename_i xs ys h1 h2
      obtain ⟨p1, p2, hv⟩ := hv
      split at hv
      · rename_i b hb
        refine .plain hv fun r w a hm ht => ⟨_, ?_, .bool _⟩
        have e1 := rvR hx mx ht
        have e2 := rvR hy my ht
        rw [h1] at e1
        rw [h2] at e2
        have e1 := e1.eq_of_plains p1
        have e2 := e2.eq_of_plains p2
        have := pureRun_ok hb w
        simp only [execOp, e1, e2]
        have he : ∀ (x y : Operand), eqGuard op t x y (.agg xs) (.agg ys) = eqGuard op t (.tmp 0) (.tmp 0) (.agg xs) (.agg ys) := fun _ _ => rfl
        rw [he x y]
        simp only [Sem.run_bind] at this ⊢
        rw [this]
        rfl
      · cases hv
    · cases hv
  have eqn : ∀ nk neg rx (u c : Operand) (dd : TypeDesc), op = (if neg then .neq else .eql) → P.underlying t = some dd → nilKind dd = some nk → resolveRv u = some rx → isNilC nk c = true →
      ((x = u ∧ y = c) ∨ (x = c ∧ y = u)) → (ROp.eqN nk neg rx).vc P f m K → Sound P ⟨d, .binOp op t x y yt, ty, pos, af, gd⟩ f m K := by
    intro nk neg rx u c dd hop hdd hnk hu hc hxy hv
    simp only [ROp.vc] at hv
    split at hv
    · rename_i b hb
      refine .plain hv fun r w a hm ht => ⟨_, ?_, .bool _⟩
      have hrel : VR r (rx.ev f) (a.eval u) := by
        rcases hxy with ⟨rfl, _⟩ | ⟨_, rfl⟩
        · exact rvR hu mx ht
        · exact rvR hu my ht
      have hb' := isNil_rel hrel hb
      clear hrel hb hv
      have hc := isNilC_spec hc
      obtain ⟨q1, q2⟩ := equal_nil (P := P) hdd hnk hb' w
      subst hop
      rcases hxy with ⟨rfl, rfl⟩ | ⟨rfl, rfl⟩
      · have hcv : a.eval y = nilV nk := by rw [hc]; rfl
        have g1 : (eqGuard (if neg then .neq else .eql) t x y (a.eval x) (a.eval y)).run P w = .ok () w := eqGuard_nil hb' (.inl ⟨rfl, hcv, hc⟩) w
        have g2 := binOp_eq_nil (P := P) (t := t) (w := w) hb' (u := a.eval x) (u' := a.eval y) (.inl ⟨rfl, hcv⟩) (by rw [hcv]; exact q1) neg
        simp only [execOp, Sem.run_bind, g1, g2, Result.andThen_ok, Sem.run_pure]
      · have hcv : a.eval x = nilV nk := by rw [hc]; rfl
        have g1 : (eqGuard (if neg then .neq else .eql) t x y (a.eval x) (a.eval y)).run P w = .ok () w := eqGuard_nil hb' (.inr ⟨hcv, rfl, hc⟩) w
        have g2 := binOp_eq_nil (P := P) (t := t) (w := w) hb' (u := a.eval x) (u' := a.eval y) (.inr ⟨hcv, rfl⟩) (by rw [hcv]; exact q2) neg
        simp only [execOp, Sem.run_bind, g1, g2, Result.andThen_ok, Sem.run_pure]
    · cases hv
  clear nbin
  unfold resolveBin at h
  split at h
  · simp only [Option.bind_eq_bind, Option.bind_eq_some_iff, Option.some.injEq] at h
    obtain ⟨rx, hx, ry, hy, rfl⟩ := h
    exact eqb false rx ry rfl (by assumption) hx hy hv
  · simp only [Option.bind_eq_bind, Option.bind_eq_some_iff, Option.some.injEq] at h
    obtain ⟨rx, hx, ry, hy, rfl⟩ := h
    exact eqb true rx ry rfl (by assumption) hx hy hv
  iterate 4
    · simp only [Option.bind_eq_bind, Option.bind_eq_some_iff, Option.some.injEq] at h
      obtain ⟨rx, hx, ry, hy, rfl⟩ := h
      exact eqa rx ry hx hy hv
  · split at h
    · rename_i nk hnk
      split at h
      · rename_i hc
        simp only [Option.bind_eq_bind, Option.bind_eq_some_iff, Option.some.injEq] at h
        obtain ⟨rx, hx, rfl⟩ := h
        exact eqn nk false rx x y _ rfl (by assumption) hnk hx hc (.inl ⟨rfl, rfl⟩) hv
      · split at h
        · rename_i hc
          simp only [Option.bind_eq_bind, Option.bind_eq_some_iff, Option.some.injEq] at h
          obtain ⟨rx, hx, rfl⟩ := h
          exact eqn nk false rx y x _ rfl (by assumption) hnk hx hc (.inr ⟨rfl, rfl⟩) hv
        · cases h
    · simp only [Option.bind_eq_bind, Option.bind_eq_some_iff, Option.some.injEq] at h
      obtain ⟨rx, hx, ry, hy, rfl⟩ := h
      exact plainBin rx ry hx hy hv
  · split at h
    · rename_i nk hnk
      split at h
      · rename_i hc
        simp only [Option.bind_eq_bind, Option.bind_eq_some_iff, Option.some.injEq] at h
        obtain ⟨rx, hx, rfl⟩ := h
        exact eqn nk true rx x y _ rfl (by assumption) hnk hx hc (.inl ⟨rfl, rfl⟩) hv
      · split at h
        · rename_i hc
          simp only [Option.bind_eq_bind, Option.bind_eq_some_iff, Option.some.injEq] at h
          obtain ⟨rx, hx, rfl⟩ := h
          exact eqn nk true rx y x _ rfl (by assumption) hnk hx hc (.inr ⟨rfl, rfl⟩) hv
        · cases h
    · simp only [Option.bind_eq_bind, Option.bind_eq_some_iff, Option.some.injEq] at h
      obtain ⟨rx, hx, ry, hy, rfl⟩ := h
      exact plainBin rx ry hx hy hv
  · simp only [Option.bind_eq_bind, Option.bind_eq_some_iff, Option.some.injEq] at h
    obtain ⟨rx, hx, ry, hy, rfl⟩ := h
    exact plainBin rx ry hx hy hv
  · cases h

end
end Go.Ga
