/- What is scaled up without going beyond the greatest is what it was when it is scaled down again, and scaling down keeps the order: the statement Rows.NumBackCardSaid, tied to the tables of math/bits and strconv. Conditions: those of the card alone. -/
import Derived.Test.YtgdkahbnepafgaaDoorKdoor
import Derived.Test.YtgdkahbnepafgaaDoorKback
set_option maxRecDepth 100000
namespace Go.Proofs.YtgdkahbnepafgaaDoor
open Go Go.Wk Go.ChangeShapes Go.WideShapes Go.RowKit

theorem numBack_lifted (os : Os) (started : os.Started) (H : Type) (enc : TypeId × Value → H) :
    ReturnsInHanded {} Tryd.checked os 5 .any (fun w args => (Rows.numBackSpec.pre enc Tryd.prog Tryd.f5 [] false w args ∧ laidMetH Tryd.prog laid3 w) ∧ sizedMet enc Tryd.prog Tryd.f5 (OpenSpec.ofChange Rows.numBackSpec) false w args)
      (Rows.numBackSpec.post enc Tryd.prog Tryd.f5 false true false false) := by
  refine returnsInHanded_of_change_and (C := Tryd.checked) (X := fun w _ => laidMetH Tryd.prog laid3 w) (fun _ _ _ hh h => h.of_heap hh) ownD started (by kernel_rfl) Tryd.func5
    (ChangeSpec.witness_shaped (enc := enc) (C := Tryd.checked) (os := os) (X := fun w _ => laidMetH Tryd.prog laid3 w) false (World.doorLaid Tryd.prog 24 os) #[.float .f64 0, .float .f64 0, .int .u8 0] 8 rfl (World.shaped_of_RefB (by kernel_rfl) (by kernel_rfl)) (by kernel_rfl) (by kernel_rfl) (by kernel_rfl) (door3_met os _)) ?_
  intro W base args ds gs before hval0 hW _ _ hL _
  have hval : ∀ (j : Nat) t v, Tryd.f5.params[j]? = some t → args[j]? = some v → Value.okWide Tryd.prog W .any base t v := hval0
  have hW' := hW
  obtain ⟨p, q, hA0, hV, rfl, hfz, hnd⟩ := hW
  have hA : DataW.TrodAll enc Tryd.prog W 0 (fun _ => true) true Tryd.f5.params.toList args.toList ds p := hA0
  rw [Tryd.params5] at hA hval
  obtain ⟨v0, v1, v2, d0, d1, d2, p0, p1, p2, rfl, rfl, rfl, h0, h1, h2⟩ := trodAll_three hA
  obtain ⟨rfl, rfl⟩ := trodVars_none hV
  obtain ⟨x0, rfl, rfl, rfl, w0⟩ := open_float Tryd.underlying25 (hval 0 25 v0 rfl rfl) h0
  obtain ⟨x1, rfl, rfl, rfl, w1⟩ := open_float Tryd.underlying25 (hval 1 25 v1 rfl rfl) h1
  obtain ⟨x2, rfl, rfl, rfl, w2⟩ := open_int Tryd.underlying5 (hval 2 5 v2 rfl rfl) h2
  have hT := T4_of_laid3 hL
  have b0 : x0 < 18446744073709551616 := by simpa [Lit.wf] using w0
  have b1 : x1 < 18446744073709551616 := by simpa [Lit.wf] using w1
  have b2 : 0 ≤ x2 ∧ x2 ≤ 255 := by simpa [Lit.wf, IntKind.min, IntKind.max, IntKind.bits, IntKind.signed] using w2
  have run : CallF Tryd.prog 5 [.float .f64 x0, .float .f64 x1, .int .u8 x2] W fun v w' => v = .bool true ∧ Ext W w' :=
    straightedgelaw01_NumBack.ct b0 b1 b2 hT fun w' he => ⟨rfl, he⟩
  refine (calls_of_callF (by kernel_rfl) run).mono fun e W' he => ?_
  obtain ⟨v, rfl, rfl, hext⟩ := he
  exact ⟨_, rfl, law_post laidOutD rfl (by kernel_rfl) hW' hext rfl Tryd.underlying4 rfl⟩

theorem numBack_holds : Rows.NumBackSaid :=
  OpenClaim.holds_of_wide 5 Tryd.f5 rfl rfl rfl rfl rfl rfl rfl ⟨rfl, rfl, rfl, rfl, rfl⟩ rfl rfl rfl rfl rfl (by kernel_rfl) Tryd.func5 (by kernel_rfl)
    (of_decide_eq_true (by kernel_rfl)) (by unfold Func.isWrapper; rw [if_neg (of_decide_eq_false (by kernel_rfl))]; exact ⟨rfl, rfl⟩)
    (fun os started H enc _ => numBack_lifted os started H enc)

theorem numBack_card : Rows.NumBackCardSaid :=
  Claim7.holds_tied_plain_at .later [] _ true (true, "cbbf11a7c464fe3f879f9b414d4b17e5d7ed4a9d1aebcc563ae303bf33da4689") false
    numBack_holds (fun _ h => by cases h) (by kernel_rfl) (fun _ h => by cases h) numBack_row_tie rfl ⟨rfl, rfl⟩ (by kernel_rfl) rfl
    (fun f fn hf hfn => by
      obtain rfl : f = 5 := Option.some.inj ((show Tryd.prog.funcNamed "straightedge/straightedgelaw01.NumBack" = some 5 by kernel_rfl).symm.trans hf) |>.symm
      obtain rfl : fn = Tryd.f5 := (Option.some.inj (Tryd.func5.symm.trans hfn)).symm
      exact ⟨by kernel_rfl, fun j t ht => by
        rw [Tryd.params5] at ht
        have hm : t ∈ [25, 25, 5] := by simpa using Array.mem_of_getElem? ht
        have hall : ([25, 25, 5].all fun u => !Tryd.prog.wantsStandIn u) = true := by kernel_rfl
        exact (show Tryd.prog.wantsStandIn t = false by simpa using List.all_eq_true.1 hall t hm)⟩)
    (by kernel_rfl)
#print axioms numBack_card
end Go.Proofs.YtgdkahbnepafgaaDoor

