import Derived.Test.YtgdkahbnepafgaaDoorKhex
set_option maxRecDepth 100000
set_option linter.unusedVariables false
namespace Go.Proofs.YtgdkahbnepafgaaDoor
open Go Go.Wk Ieee
attribute [local irreducible] br

/-- What the table of math/bits holds where it is read. -/
def T4 (w : World) : Prop := w.cell? ((⟨4, 0, none⟩ : Addr).add 15) = some (.int .u8 4)
theorem T4.ext {w w' : World} (h : T4 w) (e : Ext w w') : T4 w' := e.cell_of h

theorem bits_TrailingZeros.c16 {w : World} {K : Value → World → Prop} (hT : T4 w) (h : K (.int .i64 4) w) : bits_TrailingZeros.call [.int .u64 16] w K := by
  refine bits_TrailingZeros.ok ?_
  unfold bits_TrailingZeros.x
  refine bits_TrailingZeros64.ok ?_
  unfold bits_TrailingZeros64.x
  refine br_false rfl ?_
  have e : Int.fdiv (IntKind.u64.wrap ((bits .and .u64 16 (IntKind.u64.wrap (0 - 16))) * 285870213051353865)) (2 ^ (shiftN .u64 58)) = 15 := by kernel_rfl
  rw [e]
  exact ⟨by decide, by decide, 4, hT, 4, rfl, h⟩

theorem num_Hex.c1 {w : World} {K : Value → World → Prop} (hT : T4 w)
    (h : ∀ w', Ext w w' → K (.string ⟨#[51, 102, 102, 48, 48, 48, 48, 48, 48, 48, 48, 48, 48, 48, 48, 48]⟩) w') : num_Hex.call [.float .f64 4607182418800017408] w K := by
  refine num_Hex.ok ?_
  unfold num_Hex.x
  refine math_Float64bits.ct ⟨_, rfl, ?_⟩
  refine strconv_FormatUint.ok ?_
  unfold strconv_FormatUint.x
  refine internal_strconv_FormatUint.ok ?_
  unfold internal_strconv_FormatUint.x
  refine br_false rfl ?_
  refine strconv_formatBits.ok 20 ?_
  unfold strconv_formatBits.x
  refine br_false rfl (br_false rfl (br_false rfl ?_))
  refine newB_intro fun q w2 hqb _ hext hrow _ _ => ?_
  refine br_false rfl ?_
  refine strconv_isPowerOfTwo.ok ?_
  unfold strconv_isPowerOfTwo.x
  refine ⟨_, rfl, br_true (by kernel_rfl) ?_⟩
  refine bits_TrailingZeros.c16 (hT.ext hext) ⟨_, rfl, ?_⟩
  refine fmt _ q w (by omega) 15 20 4607182418800017408 [] _ w2 0 0 (by decide) (by decide) (by decide) (by decide) hrow rfl hext (fun j v hj => by simp at hj) fun w' he => ?_
  refine ⟨_, _, _, _, rfl, _, rfl, _, rfl, ?_⟩
  have e : strOf (hexD (15 + 1) 4607182418800017408 []) = ⟨#[51, 102, 102, 48, 48, 48, 48, 48, 48, 48, 48, 48, 48, 48, 48, 48]⟩ := by kernel_rfl
  rw [e]
  refine strings_Repeat.ok 0 ?_
  unfold strings_Repeat.x
  refine br_true rfl ⟨_, rfl, by decide, ?_⟩
  exact h w' he

theorem straightedgelaw01_awake.ct {w : World} {K : Value → World → Prop} (hT : T4 w) (h : ∀ w', Ext w w' → K (.bool true) w') : straightedgelaw01_awake.call [] w K := by
  refine straightedgelaw01_awake.ok ?_
  unfold straightedgelaw01_awake.x
  refine num_Exp.ct (by decide) fun w2 e2 => ⟨_, rfl, br_true (by kernel_rfl) ?_⟩
  refine num_Hex.c1 (hT.ext e2) fun w3 e3 => ⟨_, rfl, br_true (by kernel_rfl) ?_⟩
  refine num_Scale.ct (by decide) ⟨_, rfl, num_Scale.ct (by decide) ⟨_, rfl, num_Same.ct ⟨_, rfl, ?_⟩⟩⟩
  have e : sameB (scB 4613937818241073152 (-1075)) (scB 4607182418800017408 (-1073)) = true := by kernel_rfl
  rw [e]
  exact h w3 (e2.trans e3)

theorem straightedgelaw01_NumTells.ct {x y : Nat} (hx : x < 18446744073709551616) (hy : y < 18446744073709551616) {w : World} {K : Value → World → Prop} (hT : T4 w)
    (h : ∀ w', Ext w w' → K (.bool true) w') : straightedgelaw01_NumTells.call [.float .f64 x, .float .f64 y] w K := by
  refine straightedgelaw01_NumTells.ok ?_
  unfold straightedgelaw01_NumTells.x
  refine straightedgelaw01_awake.ct hT fun w2 e2 => ⟨_, rfl, br_false rfl ?_⟩
  refine num_Same.ct ⟨_, rfl, straightedgeref01_Same.ct hx hy ⟨_, rfl, br_true (by simp) ?_⟩⟩
  have hb : ∀ z ∈ [x, y], z < 18446744073709551616 := by simp [hx, hy]
  refine newB_intro fun q w3 _ _ e3 hrow _ _ => ?_
  refine num_Finite.ct (Fls.of_row (xs := [x, y]) hrow) hb (by decide) ⟨_, rfl, ?_⟩
  refine newB_intro fun q' w4 _ _ e4 hrow' _ _ => ?_
  refine straightedgeref01_Finite.ct (Fls.of_row (xs := [x, y]) hrow') hb (by decide) ⟨_, rfl, br_true (by simp) ?_⟩
  refine num_Exp.ct hx fun w5 e5 => ⟨_, rfl, straightedgeref01_Exp.ct hx ⟨_, rfl, br_true (by simp) ?_⟩⟩
  refine num_Finite.ct (Fls.nil (p := none)) (by simp) (by decide) ⟨_, rfl, br_true rfl ?_⟩
  have ee := ((e2.trans e3).trans e4).trans e5
  exact straightedgelaw01_awake.ct (hT.ext ee) fun w6 e6 => ⟨_, rfl, h w6 (ee.trans e6)⟩

theorem straightedgelaw01_NumScales.ct {x : Nat} {k : Int} (hx : x < 18446744073709551616) {w : World} {K : Value → World → Prop} (hT : T4 w)
    (h : ∀ w', Ext w w' → K (.bool true) w') : straightedgelaw01_NumScales.call [.float .f64 x, .int .i64 k] w K := by
  refine straightedgelaw01_NumScales.ok ?_
  unfold straightedgelaw01_NumScales.x
  refine straightedgelaw01_awake.ct hT fun w2 e2 => ⟨_, rfl, br_false rfl ?_⟩
  have h1 : (4607182418800017408 : Nat) < 18446744073709551616 := by decide
  refine num_Scale.ct hx ⟨_, rfl, straightedgeref01_Scale.ct hx ⟨_, rfl, straightedgeref01_Same.ct (ldB_lt hx _) (ldB_lt hx _) ⟨_, rfl, br_true (sameB_refl _) ?_⟩⟩⟩
  refine num_Two.ct ⟨_, rfl, straightedgeref01_Scale.ct h1 ⟨_, rfl, straightedgeref01_Same.ct (ldB_lt h1 _) (ldB_lt h1 _) ⟨_, rfl, br_true (sameB_refl _) ?_⟩⟩⟩
  exact straightedgelaw01_awake.ct (hT.ext e2) fun w6 e6 => ⟨_, rfl, h w6 (e2.trans e6)⟩
end Go.Proofs.YtgdkahbnepafgaaDoor
