/- The explicit forms of the functions of one package, and that the calls do what they say. Written by wip/tools/wk.py. -/
import Derived.Test.YtgdkahbnepafgaaDoorG0
set_option maxRecDepth 100000
set_option linter.unusedVariables false
namespace Go.Proofs.YtgdkahbnepafgaaDoor
open Go Go.Wk

/-! ### strconv.FormatUint: function 88 -/
def strconv_FormatUint.x (A0 : Int) (A1 : Int) (w : World) (K : Value → World → Prop) : Prop := internal_strconv_FormatUint.call [(.int .u64 A0), (.int .i64 A1)] w fun v1 w2 => ∃ s3 : ByteArray, v1 = (.string s3) ∧ K (.string s3) w2
theorem strconv_FormatUint.ok {A0 : Int} {A1 : Int} {w : World} {K : Value → World → Prop} (h : strconv_FormatUint.x A0 A1 w K) : strconv_FormatUint.call [(.int .u64 A0), (.int .i64 A1)] w K :=
  callF_of_ex0 (f := Tryd.f88) Tryd.func88 rfl mixed (by kernel_rfl) (Eq.mp (by kernel_rfl) h)

end Go.Proofs.YtgdkahbnepafgaaDoor
