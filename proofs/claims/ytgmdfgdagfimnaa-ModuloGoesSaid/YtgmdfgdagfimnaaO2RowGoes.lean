/- The statement of this folder holds of the given program, for every input. No condition. -/
import Derived.Test.YtgmdfgdagfimnaaA5
import Derived.Test.YtgmdfgdagfimnaaRows
import Derived.WalkKit
import Derived.ProofKit
import Derived.OpenShut
import Derived.ShutString
import Derived.ChangeOld
import Derived.Below
import Derived.SizedLaws
import Derived.ChangeSlices
namespace Go.Proofs.Ytgmdfgdagfimnaa.moduloGoes
open Go.ChangeShapes Go.WideShapes Go.ChangeAt Go.RowKit Go.Ga
open Go.ChangeMaps (open_string shut_string)
set_option linter.unusedVariables false
theorem own : ownKnob Try.prog.godebug = none := by kernel_rfl
theorem laidOut : laidOutB Try.prog = true := by kernel_rfl
set_option maxRecDepth 100000 in
theorem lifted (os : Os) (started : os.Started) (H : Type) (enc : TypeId × Value → H) :
    ReturnsInHanded {} Try.checked os 12 .any (Rows.moduloGoesSpec.pre6 enc Try.prog Try.f12 Rows.moduloGoesRow.domain false) (Rows.moduloGoesSpec.post enc Try.prog Try.f12 false true false false) := by
  refine returnsInHanded_of_change_sized (C := Try.checked) own started (by kernel_rfl) Try.func12
    (ChangeSpec.witness6 (enc := enc) (C := Try.checked) false ⟨#[], #[.agg #[.slice none 0 0, .slice none 0 0], .slice none 0 0, .agg #[.int .u32 0, .int .u32 0]], []⟩ 8 (by kernel_rfl) (by kernel_rfl) (by kernel_rfl) (by kernel_rfl)) ?_
  intro W base args ds gs before hval0 hW hcnd hsz0 _
  have hsz : (DataW.weightsEach Try.prog (Try.f12.params.toList ++ Rows.moduloGoesSpec.plain.varTypes Try.prog) (ds ++ gs)).all (· ≤ reachBytes) = true := hsz0
  have hval : ∀ (j : Nat) t v, Try.f12.params[j]? = some t → args[j]? = some v → Value.okWide Try.prog W .any base t v := hval0
  have hW' := hW
  obtain ⟨p, q, hA0, hV, rfl, hfz, hnd⟩ := hW
  have hA : DataW.TrodAll enc Try.prog W 0 (fun _ => true) true Try.f12.params.toList args.toList ds p := hA0
  rw [Try.params12] at hA hval hsz
  obtain ⟨v0, vs0, d0, ds0, p0, q0, hargs, rfl, rfl, h0, r0⟩ := trodAll_cons hA
  obtain ⟨v1, vs1, d1, ds1, p1, q1, rfl, rfl, rfl, h1, r1⟩ := trodAll_cons r0
  obtain ⟨v2, vs2, d2, ds2, p2, q2, rfl, rfl, rfl, h2, r2⟩ := trodAll_cons r1
  obtain ⟨rfl, rfl, rfl⟩ := trodAll_nil r2
  obtain rfl : args = #[v0, v1, v2] := by cases args; simp_all
  obtain ⟨rfl, rfl⟩ := trodVars_none hV
  have k0 := h0
  have lt0 : ∀ x ∈ p0, x.block < W.heap.size := by obtain ⟨m, hm⟩ := k0; exact DataW.trod_lt m _ _ _ hm
  obtain ⟨x0_A, x0_n, x0_c, x0_l, x0_B, x0_m, x0_d, x0_k, x0_e, x0_r, x0_c1, x0_s, x0_d1⟩ := open_words2 Try.underlying39 Try.underlying22 Try.underlying40 (by kernel_rfl) (by kernel_rfl) (by kernel_rfl) (hval 0 39 v0 rfl rfl) h0
  obtain ⟨a1, len1, cap1, rfl⟩ := okWide_slice Try.underlying22 (hval 1 22 v1 rfl rfl)
  have k1 := h1
  have lt1 : ∀ x ∈ p1, x.block < W.heap.size := by obtain ⟨m, hm⟩ := k1; exact DataW.trod_lt m _ _ _ hm
  obtain ⟨z1, w1⟩ : ∃ zs, IsRow .u32 W a1 len1 cap1 zs := by
    obtain ⟨fuel, hf⟩ := h1
    rcases open_ints Try.underlying22 Try.underlying40 (by kernel_rfl) hf with ⟨hcs, _⟩ | ⟨x, l, c, zs, hcs, _, hl, hm, hz, _, hcell, hwz⟩
    · simp [Value.cells] at hcs
      obtain ⟨rfl, rfl, rfl⟩ := hcs
      exact ⟨[], .inl ⟨rfl, rfl, rfl, rfl⟩⟩
    · simp [Value.cells] at hcs
      obtain ⟨rfl, rfl, rfl⟩ := hcs
      exact ⟨zs, .inr ⟨_, rfl, hl, hm, by simpa using hz, hcell, hwz⟩⟩
  obtain ⟨z2, rfl, y2, w2, rfl, rfl⟩ := open_arrI (k := .u32) Try.underlying41 Try.underlying40 (by kernel_rfl) (by kernel_rfl) (hval 2 41 v2 rfl rfl) h2
  clear hA0 hval0 hsz0 hsz
  obtain ⟨A1, e1, hc1, l1, hr1⟩ := absV_words w1
  obtain ⟨x2_0, x2_1, rfl⟩ := list2 y2
  obtain ⟨z2_0, rfl, hz2_0⟩ := wf_u32N (w2 x2_0 (by simp))
  obtain ⟨z2_1, rfl, hz2_1⟩ := wf_u32N (w2 x2_1 (by simp))
  refine (Ct.law (args := #[v0, .slice a1 len1 cap1, .agg (List.map (Value.int .u32) [((z2_0 : Nat) : Int), ((z2_1 : Nat) : Int)]).toArray]) ?_).mono fun e W' ⟨he, bel⟩ => ?_
  · show Ct _ _ [absV W (v0), absV W (.slice a1 len1 cap1), absV W (.agg (List.map (Value.int .u32) [((z2_0 : Nat) : Int), ((z2_1 : Nat) : Int)]).toArray)] _ _ _
    simp only [x0_e, e1, absV_arr]
    exact fn_Goes x0_r x0_c1 x0_s x0_d1 hr1 hc1 hz2_0 hz2_1
  subst he
  exact ⟨_, rfl, _, _, _, [], _, [], hW', trodAll_mk1 (shut_bool Try.underlying4 _), (trodAll_cons_mk (Below.trod laidOut (by kernel_rfl) (of_decide_eq_true (by kernel_rfl)) k0 bel lt0) (trodAll_cons_mk (Below.trod laidOut (by kernel_rfl) (of_decide_eq_true (by kernel_rfl)) k1 bel lt1) (trodAll_cons_mk (shut_arrI Try.underlying41 Try.underlying40 (by kernel_rfl) (by kernel_rfl) y2 w2) trodAll_mk0))), rfl, bel.frame _, fun h => by cases h⟩
theorem over : Rows.moduloGoesRow.holds Try.pinned (OpenSpec.ofChange Rows.moduloGoesSpec) :=
  OpenClaim.holds_of_wide 12 Try.f12 rfl rfl rfl rfl rfl rfl rfl ⟨rfl, rfl, rfl, rfl, rfl⟩ rfl rfl rfl rfl rfl (by kernel_rfl) Try.func12 (by kernel_rfl)
    (of_decide_eq_true (by kernel_rfl)) (by unfold Func.isWrapper; first | (rw [if_pos (by decide +kernel)]; kernel_rfl) | (rw [if_neg (by decide +kernel)]; exact ⟨rfl, rfl⟩))
    (fun os started H enc _ => lifted os started H enc)
theorem proved : Rows.ModuloGoesSaid := over
#print axioms proved
end Go.Proofs.Ytgmdfgdagfimnaa.moduloGoes
namespace Go.Proofs.Ytgmdfgdagfimnaa
theorem moduloGoes_holds : Rows.ModuloGoesSaid := moduloGoes.proved
end Go.Proofs.Ytgmdfgdagfimnaa
