/- The statement of this folder holds of the given program, for every input. No condition. -/
import Derived.Test.YtndikkpmlofebaaA4
import Derived.Test.YtndikkpmlofebaaRows
import Derived.WalkKit
import Derived.ProofKit
import Derived.OpenShut
import Derived.ShutString
import Derived.ChangeOld
import Derived.Below
import Derived.SizedLaws
import Derived.ChangeSlices
namespace Go.Proofs.Ytndikkpmlofebaa.clockOrder
open Go.ChangeShapes Go.WideShapes Go.ChangeAt Go.RowKit Go.Ga
open Go.ChangeMaps (open_string shut_string)
set_option linter.unusedVariables false
theorem own : ownKnob Try.prog.godebug = none := by kernel_rfl
theorem laidOut : laidOutB Try.prog = true := by kernel_rfl
set_option maxRecDepth 100000 in
theorem lifted (os : Os) (started : os.Started) (H : Type) (enc : TypeId × Value → H) :
    ReturnsInHanded {} Try.checked os 9 .any (Rows.clockOrderSpec.pre6 enc Try.prog Try.f9 Rows.clockOrderRow.domain false) (Rows.clockOrderSpec.post enc Try.prog Try.f9 false true false false) := by
  refine returnsInHanded_of_change_sized (C := Try.checked) own started (by kernel_rfl) Try.func9
    (ChangeSpec.witness6 (enc := enc) (C := Try.checked) false ⟨#[], #[.agg #[.int .i64 0, .int .i64 0, .int .i64 0, .int .i64 0, .int .i64 0, .int .i64 0], .agg #[.int .i64 0, .int .i64 0, .int .i64 0, .int .i64 0, .int .i64 0, .int .i64 0]], []⟩ 8 (by kernel_rfl) (by kernel_rfl) (by kernel_rfl) (by kernel_rfl)) ?_
  intro W base args ds gs before hval0 hW hcnd hsz0 _
  have hsz : (DataW.weightsEach Try.prog (Try.f9.params.toList ++ Rows.clockOrderSpec.plain.varTypes Try.prog) (ds ++ gs)).all (· ≤ reachBytes) = true := hsz0
  have hval : ∀ (j : Nat) t v, Try.f9.params[j]? = some t → args[j]? = some v → Value.okWide Try.prog W .any base t v := hval0
  have hW' := hW
  obtain ⟨p, q, hA0, hV, rfl, hfz, hnd⟩ := hW
  have hA : DataW.TrodAll enc Try.prog W 0 (fun _ => true) true Try.f9.params.toList args.toList ds p := hA0
  rw [Try.params9] at hA hval hsz
  obtain ⟨v0, vs0, d0, ds0, p0, q0, hargs, rfl, rfl, h0, r0⟩ := trodAll_cons hA
  obtain ⟨v1, vs1, d1, ds1, p1, q1, rfl, rfl, rfl, h1, r1⟩ := trodAll_cons r0
  obtain ⟨rfl, rfl, rfl⟩ := trodAll_nil r1
  obtain rfl : args = #[v0, v1] := by cases args; simp_all
  obtain ⟨rfl, rfl⟩ := trodVars_none hV
  obtain ⟨z0, rfl, y0, w0, rfl, rfl⟩ := open_arrI (k := .i64) Try.underlying38 Try.underlying3 (by kernel_rfl) (by kernel_rfl) (hval 0 38 v0 rfl rfl) h0
  obtain ⟨z1, rfl, y1, w1, rfl, rfl⟩ := open_arrI (k := .i64) Try.underlying38 Try.underlying3 (by kernel_rfl) (by kernel_rfl) (hval 1 38 v1 rfl rfl) h1
  clear hA0 hval0 hsz0 hsz
  obtain ⟨x0_0, x0_1, x0_2, x0_3, x0_4, x0_5, rfl⟩ := list6 y0
  obtain ⟨x1_0, x1_1, x1_2, x1_3, x1_4, x1_5, rfl⟩ := list6 y1
  refine (Ct.law (args := #[.agg (List.map (Value.int .i64) [x0_0, x0_1, x0_2, x0_3, x0_4, x0_5]).toArray, .agg (List.map (Value.int .i64) [x1_0, x1_1, x1_2, x1_3, x1_4, x1_5]).toArray]) ?_).mono fun e W' ⟨he, bel⟩ => ?_
  · show Ct _ _ [absV W (.agg (List.map (Value.int .i64) [x0_0, x0_1, x0_2, x0_3, x0_4, x0_5]).toArray), absV W (.agg (List.map (Value.int .i64) [x1_0, x1_1, x1_2, x1_3, x1_4, x1_5]).toArray)] _ _ _
    simp only [absV_arr]
    exact fn_Order 
  subst he
  exact ⟨_, rfl, _, _, _, [], _, [], hW', trodAll_mk1 (shut_bool Try.underlying4 _), (trodAll_cons_mk (shut_arrI Try.underlying38 Try.underlying3 (by kernel_rfl) (by kernel_rfl) y0 w0) (trodAll_cons_mk (shut_arrI Try.underlying38 Try.underlying3 (by kernel_rfl) (by kernel_rfl) y1 w1) trodAll_mk0)), rfl, bel.frame _, fun h => by cases h⟩
theorem over : Rows.clockOrderRow.holds Try.pinned (OpenSpec.ofChange Rows.clockOrderSpec) :=
  OpenClaim.holds_of_wide 9 Try.f9 rfl rfl rfl rfl rfl rfl rfl ⟨rfl, rfl, rfl, rfl, rfl⟩ rfl rfl rfl rfl rfl (by kernel_rfl) Try.func9 (by kernel_rfl)
    (of_decide_eq_true (by kernel_rfl)) (by unfold Func.isWrapper; first | (rw [if_pos (by decide +kernel)]; kernel_rfl) | (rw [if_neg (by decide +kernel)]; exact ⟨rfl, rfl⟩))
    (fun os started H enc _ => lifted os started H enc)
theorem proved : Rows.ClockOrderSaid := over
#print axioms proved
end Go.Proofs.Ytndikkpmlofebaa.clockOrder
namespace Go.Proofs.Ytndikkpmlofebaa
theorem clockOrder_holds : Rows.ClockOrderSaid := clockOrder.proved
end Go.Proofs.Ytndikkpmlofebaa
