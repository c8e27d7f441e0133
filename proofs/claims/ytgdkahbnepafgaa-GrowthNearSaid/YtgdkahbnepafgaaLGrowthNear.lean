/- Of every matrix of numbers the law GrowthNear answers true, and what came in reads as it did: the growth is as near as one rounding. No condition. -/
import Derived.Test.YtgdkahbnepafgaaWk0
import Derived.Test.YtgdkahbnepafgaaK1
import Derived.Test.YtgdkahbnepafgaaRows
import Derived.SizedLaws
set_option linter.unusedVariables false

/-! ### ALGrowthNear -/
set_option maxRecDepth 100000
set_option linter.unusedVariables false
namespace Go.Proofs.Ytgdkahbnepafgaa
open Go Go.Wk Go.ChangeShapes Go.WideShapes Go.RowKit

theorem ownT : ownKnob Try.prog.godebug = none := by kernel_rfl
theorem laidOutT : laidOutB Try.prog = true := by kernel_rfl

theorem growthNear_lifted (os : Os) (started : os.Started) (H : Type) (enc : TypeId × Value → H) :
    ReturnsInHanded {} Try.checked os 4 .any (Rows.growthNearSpec.pre6 enc Try.prog Try.f4 [] false) (Rows.growthNearSpec.post enc Try.prog Try.f4 false true false false) := by
  refine returnsInHanded_of_change_sized (C := Try.checked) ownT started (by kernel_rfl) Try.func4
    (ChangeSpec.witness6 (enc := enc) (C := Try.checked) false ⟨#[], #[.agg #[.slice none 0 0, .int .i64 0, .int .i64 0, .int .i64 0, .int .i64 0]], []⟩ 8 (by kernel_rfl) (by kernel_rfl) (by kernel_rfl) (by kernel_rfl)) ?_
  intro W base args ds gs before hval0 hW _ hsz0 _
  have hsz : (DataW.weightsEach Try.prog (Try.f4.params.toList ++ Rows.growthNearSpec.plain.varTypes Try.prog) (ds ++ gs)).all (· ≤ reachBytes) = true := hsz0
  have hval : ∀ (j : Nat) t v, Try.f4.params[j]? = some t → args[j]? = some v → Value.okWide Try.prog W .any base t v := hval0
  have hW' := hW
  obtain ⟨p, q, hA0, hV, rfl, hfz, hnd⟩ := hW
  have hA : DataW.TrodAll enc Try.prog W 0 (fun _ => true) true Try.f4.params.toList args.toList ds p := hA0
  rw [Try.params4] at hA hval hsz
  obtain ⟨v0, d0, rfl, rfl, h0⟩ := trodAll_one hA
  obtain ⟨rfl, rfl⟩ := trodVars_none hV
  have hw : (d0.weights Try.prog 24).all (· ≤ reachBytes) = true := by
    simp only [List.cons_append, List.nil_append, DataW.weightsEach, List.all_append, Bool.and_eq_true] at hsz
    exact hsz.1
  obtain ⟨a, cap, off, rows, cols, ld, xs, rfl, hfl, hlen, i1, i2, i3, i4⟩ := open_mat Try.underlying24 rfl (by kernel_rfl) (by kernel_rfl) Try.underlying22 Try.underlying38 Try.underlying3 (by kernel_rfl) (by kernel_rfl) (hval 0 24 v0 rfl rfl) h0 hw
  have run : CallF Try.prog 4 [matV a xs.length cap off rows cols ld] W fun v w' => v = .bool true ∧ Ext W w' :=
    straightedgelaw19_GrowthNear.ct hfl (by omega) i1 i2 i3 i4 fun w' he => ⟨rfl, he⟩
  refine (calls_of_callF (by kernel_rfl) run).mono fun e W' he => ?_
  obtain ⟨v, rfl, rfl, hext⟩ := he
  exact ⟨_, rfl, law_post laidOutT rfl (by kernel_rfl) hW' hext rfl Try.underlying4 rfl⟩

theorem growthNear_holds : Rows.GrowthNearSaid :=
  OpenClaim.holds_of_wide 4 Try.f4 rfl rfl rfl rfl rfl rfl rfl ⟨rfl, rfl, rfl, rfl, rfl⟩ rfl rfl rfl rfl rfl (by kernel_rfl) Try.func4 (by kernel_rfl)
    (of_decide_eq_true (by kernel_rfl)) (by unfold Func.isWrapper; rw [if_neg (of_decide_eq_false (by kernel_rfl))]; exact ⟨rfl, rfl⟩)
    (fun os started H enc _ => growthNear_lifted os started H enc)
#print axioms growthNear_holds
end Go.Proofs.Ytgdkahbnepafgaa
