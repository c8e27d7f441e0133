/-
  NARROWER THAN 'FOR EVERY INPUT', by the rows' own cells (each row's printed sentence says how): SureBackward: laid · NumTells: laid · NumBack: laid · NumScales: laid · SureResults: laid · NumNext: laid · SureFactors: laid · DyadInts: laid.
  DERIVED. THE GIVEN ROWS OF THIS SEAT. 8 by the template 'for every input the law returns true; each argument reads behind the call as it read before'; 0 by the template 'total and deterministic' (their statements: YtgdkahbnepafgaaDoorTotals.lean).
  GIVEN WITH THE SEED: the statements are not yours to turn. If you find one false, say at which input.
  Laid BY PROGRAM, IN A SANDBOX (cutbox-rows.mjs): the forced cells as the released guide's own fill.sh prints them over the translation d890084c5c21b769… (all of the seat's roots in one cut). By AI agents, Wed Nov 11 2026. No macro, syntax, notation, axiom, sorry.
-/
import Derived.Test.YtgdkahbnepafgaaDoorChecked
import GoSem.Claim
import GoSem.ClaimJoined
import GoSem.ClaimMapViews
import Derived.JoinedTies
import Derived.KernelRfl
namespace Go.Proofs.YtgdkahbnepafgaaDoor
/- THE CELL 'sum', in the pinned program and in every row, IS THE sha256 OF THE DUMP (.gsa) THAT YtgdkahbnepafgaaDoorProg.lean LOADS. Nothing in Lean hashes anything: it is a label: what it is worth is what the hold of that sum in a sandbox is worth. -/
noncomputable def Tryd.pinned : Pinned := { name := "ytgdkahbnepafgaadoor", sum := "d890084c5c21b76961ecfff57b1e6dccf6968598a07518624c3514dfcef102f5", checked := Tryd.checked }
namespace Rows
def none {H : Type} : Left H := { results := [], args := [] }

/- WHAT THE LISTED PACKAGE-LEVEL VARIABLES READ AS WHEN THE CALL BEGINS. Each datum BY PROGRAM (the guide's laid-datum.mjs) off the statement by which the dump's own 'gosem.cut.vars' lays the variable. In a bare row this is a premise. The card (YtgdkahbnepafgaaDoorCards.lean) ties it to the program's text. -/
def laid_math_bits_deBruijn32tab {H : Type} : DataW H := .agg [.lit (.int .u8 0), .lit (.int .u8 1), .lit (.int .u8 28), .lit (.int .u8 2), .lit (.int .u8 29), .lit (.int .u8 14), .lit (.int .u8 24), .lit (.int .u8 3), .lit (.int .u8 30), .lit (.int .u8 22), .lit (.int .u8 20), .lit (.int .u8 15), .lit (.int .u8 25), .lit (.int .u8 17), .lit (.int .u8 4), .lit (.int .u8 8), .lit (.int .u8 31), .lit (.int .u8 27), .lit (.int .u8 13), .lit (.int .u8 23), .lit (.int .u8 21), .lit (.int .u8 19), .lit (.int .u8 16), .lit (.int .u8 7), .lit (.int .u8 26), .lit (.int .u8 12), .lit (.int .u8 18), .lit (.int .u8 6), .lit (.int .u8 11), .lit (.int .u8 5), .lit (.int .u8 10), .lit (.int .u8 9)]
def laid_math_bits_deBruijn64tab {H : Type} : DataW H := .agg [.lit (.int .u8 0), .lit (.int .u8 1), .lit (.int .u8 56), .lit (.int .u8 2), .lit (.int .u8 57), .lit (.int .u8 49), .lit (.int .u8 28), .lit (.int .u8 3), .lit (.int .u8 61), .lit (.int .u8 58), .lit (.int .u8 42), .lit (.int .u8 50), .lit (.int .u8 38), .lit (.int .u8 29), .lit (.int .u8 17), .lit (.int .u8 4), .lit (.int .u8 62), .lit (.int .u8 47), .lit (.int .u8 59), .lit (.int .u8 36), .lit (.int .u8 45), .lit (.int .u8 43), .lit (.int .u8 51), .lit (.int .u8 22), .lit (.int .u8 53), .lit (.int .u8 39), .lit (.int .u8 33), .lit (.int .u8 30), .lit (.int .u8 24), .lit (.int .u8 18), .lit (.int .u8 12), .lit (.int .u8 5), .lit (.int .u8 63), .lit (.int .u8 55), .lit (.int .u8 48), .lit (.int .u8 27), .lit (.int .u8 60), .lit (.int .u8 41), .lit (.int .u8 37), .lit (.int .u8 16), .lit (.int .u8 46), .lit (.int .u8 35), .lit (.int .u8 44), .lit (.int .u8 21), .lit (.int .u8 52), .lit (.int .u8 32), .lit (.int .u8 23), .lit (.int .u8 11), .lit (.int .u8 54), .lit (.int .u8 26), .lit (.int .u8 40), .lit (.int .u8 15), .lit (.int .u8 34), .lit (.int .u8 20), .lit (.int .u8 31), .lit (.int .u8 10), .lit (.int .u8 25), .lit (.int .u8 14), .lit (.int .u8 19), .lit (.int .u8 9), .lit (.int .u8 13), .lit (.int .u8 8), .lit (.int .u8 7), .lit (.int .u8 6)]
def laid_internal_strconv_uint64pow10 {H : Type} : DataW H := .agg [.lit (.int .u64 1), .lit (.int .u64 10), .lit (.int .u64 100), .lit (.int .u64 1000), .lit (.int .u64 10000), .lit (.int .u64 100000), .lit (.int .u64 1000000), .lit (.int .u64 10000000), .lit (.int .u64 100000000), .lit (.int .u64 1000000000), .lit (.int .u64 10000000000), .lit (.int .u64 100000000000), .lit (.int .u64 1000000000000), .lit (.int .u64 10000000000000), .lit (.int .u64 100000000000000), .lit (.int .u64 1000000000000000), .lit (.int .u64 10000000000000000), .lit (.int .u64 100000000000000000), .lit (.int .u64 1000000000000000000), .lit (.int .u64 10000000000000000000)]

/-- 'straightedgelaw27.SureBackward': WHATEVER THE INPUT: true; the input reads as it did. -/
def sureBackwardSpec : ChangeSpec := { name := "sureBackward", fn := fun _ => fun
  | [d1, d2, d3, d4] => { results := [.lit (.bool true)], args := [d1, d2, d3, d4] }
  | _ => none }
def sureBackwardRow : OpenClaim := { program := "ytgdkahbnepafgaadoor", sum := "d890084c5c21b76961ecfff57b1e6dccf6968598a07518624c3514dfcef102f5", func := "straightedge/straightedgelaw27.SureBackward", spec := "sureBackward", inPlace := ["math.Float64bits", "math.Float64frombits"], unfollowed := true, recurses := true, named := ["math/bits.deBruijn32tab"], apart := false, laid := [("math/bits.deBruijn32tab", laid_math_bits_deBruijn32tab)] }
def SureBackwardSaid : Prop := sureBackwardRow.holds Tryd.pinned (OpenSpec.ofChange sureBackwardSpec)

/-- ITS FALSE NEIGHBOUR: 'it returns false'. Refute it at one input. -/
def sureBackwardWrong : ChangeSpec := { name := "sureBackward", fn := fun _ => fun
  | [d1, d2, d3, d4] => { results := [.lit (.bool false)], args := [d1, d2, d3, d4] }
  | _ => none }
def SureBackwardWrongFalsely : Prop := sureBackwardRow.holds Tryd.pinned (OpenSpec.ofChange sureBackwardWrong)

/-- 'straightedgelaw01.NumTells': WHATEVER THE INPUT: true; the input reads as it did. -/
def numTellsSpec : ChangeSpec := { name := "numTells", fn := fun _ => fun
  | [d1, d2] => { results := [.lit (.bool true)], args := [d1, d2] }
  | _ => none }
def numTellsRow : OpenClaim := { program := "ytgdkahbnepafgaadoor", sum := "d890084c5c21b76961ecfff57b1e6dccf6968598a07518624c3514dfcef102f5", func := "straightedge/straightedgelaw01.NumTells", spec := "numTells", inPlace := ["math.Float64bits", "math.Float64frombits", "internal/abi.NoEscape", "internal/bytealg.MakeNoZero"], named := ["internal/strconv.uint64pow10", "math/bits.deBruijn32tab", "math/bits.deBruijn64tab"], apart := false, laid := [("math/bits.deBruijn32tab", laid_math_bits_deBruijn32tab), ("math/bits.deBruijn64tab", laid_math_bits_deBruijn64tab), ("internal/strconv.uint64pow10", laid_internal_strconv_uint64pow10)] }
def NumTellsSaid : Prop := numTellsRow.holds Tryd.pinned (OpenSpec.ofChange numTellsSpec)

/-- ITS FALSE NEIGHBOUR: 'it returns false'. Refute it at one input. -/
def numTellsWrong : ChangeSpec := { name := "numTells", fn := fun _ => fun
  | [d1, d2] => { results := [.lit (.bool false)], args := [d1, d2] }
  | _ => none }
def NumTellsWrongFalsely : Prop := numTellsRow.holds Tryd.pinned (OpenSpec.ofChange numTellsWrong)

/-- 'straightedgelaw01.NumBack': WHATEVER THE INPUT: true; the input reads as it did. -/
def numBackSpec : ChangeSpec := { name := "numBack", fn := fun _ => fun
  | [d1, d2, d3] => { results := [.lit (.bool true)], args := [d1, d2, d3] }
  | _ => none }
def numBackRow : OpenClaim := { program := "ytgdkahbnepafgaadoor", sum := "d890084c5c21b76961ecfff57b1e6dccf6968598a07518624c3514dfcef102f5", func := "straightedge/straightedgelaw01.NumBack", spec := "numBack", inPlace := ["math.Float64bits", "math.Float64frombits", "internal/abi.NoEscape", "internal/bytealg.MakeNoZero"], named := ["internal/strconv.uint64pow10", "math/bits.deBruijn32tab", "math/bits.deBruijn64tab"], apart := false, laid := [("math/bits.deBruijn32tab", laid_math_bits_deBruijn32tab), ("math/bits.deBruijn64tab", laid_math_bits_deBruijn64tab), ("internal/strconv.uint64pow10", laid_internal_strconv_uint64pow10)] }
def NumBackSaid : Prop := numBackRow.holds Tryd.pinned (OpenSpec.ofChange numBackSpec)

/-- ITS FALSE NEIGHBOUR: 'it returns false'. Refute it at one input. -/
def numBackWrong : ChangeSpec := { name := "numBack", fn := fun _ => fun
  | [d1, d2, d3] => { results := [.lit (.bool false)], args := [d1, d2, d3] }
  | _ => none }
def NumBackWrongFalsely : Prop := numBackRow.holds Tryd.pinned (OpenSpec.ofChange numBackWrong)

/-- 'straightedgelaw01.NumScales': WHATEVER THE INPUT: true; the input reads as it did. -/
def numScalesSpec : ChangeSpec := { name := "numScales", fn := fun _ => fun
  | [d1, d2] => { results := [.lit (.bool true)], args := [d1, d2] }
  | _ => none }
def numScalesRow : OpenClaim := { program := "ytgdkahbnepafgaadoor", sum := "d890084c5c21b76961ecfff57b1e6dccf6968598a07518624c3514dfcef102f5", func := "straightedge/straightedgelaw01.NumScales", spec := "numScales", inPlace := ["math.Float64bits", "math.Float64frombits", "internal/abi.NoEscape", "internal/bytealg.MakeNoZero"], named := ["internal/strconv.uint64pow10", "math/bits.deBruijn32tab", "math/bits.deBruijn64tab"], apart := false, laid := [("math/bits.deBruijn32tab", laid_math_bits_deBruijn32tab), ("math/bits.deBruijn64tab", laid_math_bits_deBruijn64tab), ("internal/strconv.uint64pow10", laid_internal_strconv_uint64pow10)] }
def NumScalesSaid : Prop := numScalesRow.holds Tryd.pinned (OpenSpec.ofChange numScalesSpec)

/-- ITS FALSE NEIGHBOUR: 'it returns false'. Refute it at one input. -/
def numScalesWrong : ChangeSpec := { name := "numScales", fn := fun _ => fun
  | [d1, d2] => { results := [.lit (.bool false)], args := [d1, d2] }
  | _ => none }
def NumScalesWrongFalsely : Prop := numScalesRow.holds Tryd.pinned (OpenSpec.ofChange numScalesWrong)

/-- 'straightedgelaw27.SureResults': WHATEVER THE INPUT: true; the input reads as it did. -/
def sureResultsSpec : ChangeSpec := { name := "sureResults", fn := fun _ => fun
  | [d1, d2, d3, d4, d5, d6] => { results := [.lit (.bool true)], args := [d1, d2, d3, d4, d5, d6] }
  | _ => none }
def sureResultsRow : OpenClaim := { program := "ytgdkahbnepafgaadoor", sum := "d890084c5c21b76961ecfff57b1e6dccf6968598a07518624c3514dfcef102f5", func := "straightedge/straightedgelaw27.SureResults", spec := "sureResults", inPlace := ["math.Float64bits", "math.Float64frombits"], unfollowed := true, recurses := true, named := ["math/bits.deBruijn32tab"], apart := false, laid := [("math/bits.deBruijn32tab", laid_math_bits_deBruijn32tab)] }
def SureResultsSaid : Prop := sureResultsRow.holds Tryd.pinned (OpenSpec.ofChange sureResultsSpec)

/-- ITS FALSE NEIGHBOUR: 'it returns false'. Refute it at one input. -/
def sureResultsWrong : ChangeSpec := { name := "sureResults", fn := fun _ => fun
  | [d1, d2, d3, d4, d5, d6] => { results := [.lit (.bool false)], args := [d1, d2, d3, d4, d5, d6] }
  | _ => none }
def SureResultsWrongFalsely : Prop := sureResultsRow.holds Tryd.pinned (OpenSpec.ofChange sureResultsWrong)

/-- 'straightedgelaw01.NumNext': WHATEVER THE INPUT: true; the input reads as it did. -/
def numNextSpec : ChangeSpec := { name := "numNext", fn := fun _ => fun
  | [d] => { results := [.lit (.bool true)], args := [d] }
  | _ => none }
def numNextRow : OpenClaim := { program := "ytgdkahbnepafgaadoor", sum := "d890084c5c21b76961ecfff57b1e6dccf6968598a07518624c3514dfcef102f5", func := "straightedge/straightedgelaw01.NumNext", spec := "numNext", inPlace := ["math.Float64bits", "math.Float64frombits", "internal/abi.NoEscape", "internal/bytealg.MakeNoZero"], named := ["internal/strconv.uint64pow10", "math/bits.deBruijn32tab", "math/bits.deBruijn64tab"], apart := false, laid := [("math/bits.deBruijn32tab", laid_math_bits_deBruijn32tab), ("math/bits.deBruijn64tab", laid_math_bits_deBruijn64tab), ("internal/strconv.uint64pow10", laid_internal_strconv_uint64pow10)] }
def NumNextSaid : Prop := numNextRow.holds Tryd.pinned (OpenSpec.ofChange numNextSpec)

/-- ITS FALSE NEIGHBOUR: 'it returns false'. Refute it at one input. -/
def numNextWrong : ChangeSpec := { name := "numNext", fn := fun _ => fun
  | [d] => { results := [.lit (.bool false)], args := [d] }
  | _ => none }
def NumNextWrongFalsely : Prop := numNextRow.holds Tryd.pinned (OpenSpec.ofChange numNextWrong)

/-- 'straightedgelaw27.SureFactors': WHATEVER THE INPUT: true; the input reads as it did. -/
def sureFactorsSpec : ChangeSpec := { name := "sureFactors", fn := fun _ => fun
  | [d1, d2] => { results := [.lit (.bool true)], args := [d1, d2] }
  | _ => none }
def sureFactorsRow : OpenClaim := { program := "ytgdkahbnepafgaadoor", sum := "d890084c5c21b76961ecfff57b1e6dccf6968598a07518624c3514dfcef102f5", func := "straightedge/straightedgelaw27.SureFactors", spec := "sureFactors", inPlace := ["math.Float64bits", "math.Float64frombits"], unfollowed := true, recurses := true, named := ["math/bits.deBruijn32tab"], apart := false, laid := [("math/bits.deBruijn32tab", laid_math_bits_deBruijn32tab)] }
def SureFactorsSaid : Prop := sureFactorsRow.holds Tryd.pinned (OpenSpec.ofChange sureFactorsSpec)

/-- ITS FALSE NEIGHBOUR: 'it returns false'. Refute it at one input. -/
def sureFactorsWrong : ChangeSpec := { name := "sureFactors", fn := fun _ => fun
  | [d1, d2] => { results := [.lit (.bool false)], args := [d1, d2] }
  | _ => none }
def SureFactorsWrongFalsely : Prop := sureFactorsRow.holds Tryd.pinned (OpenSpec.ofChange sureFactorsWrong)

/-- 'straightedgelaw02.DyadInts': WHATEVER THE INPUT: true; the input reads as it did. -/
def dyadIntsSpec : ChangeSpec := { name := "dyadInts", fn := fun _ => fun
  | [d1, d2] => { results := [.lit (.bool true)], args := [d1, d2] }
  | _ => none }
def dyadIntsRow : OpenClaim := { program := "ytgdkahbnepafgaadoor", sum := "d890084c5c21b76961ecfff57b1e6dccf6968598a07518624c3514dfcef102f5", func := "straightedge/straightedgelaw02.DyadInts", spec := "dyadInts", inPlace := ["math.Float64bits", "math.Float64frombits", "internal/abi.NoEscape", "internal/bytealg.MakeNoZero"], unfollowed := true, recurses := true, named := ["math/bits.deBruijn32tab", "internal/strconv.uint64pow10", "math/bits.deBruijn64tab"], apart := false, laid := [("math/bits.deBruijn32tab", laid_math_bits_deBruijn32tab), ("math/bits.deBruijn64tab", laid_math_bits_deBruijn64tab), ("internal/strconv.uint64pow10", laid_internal_strconv_uint64pow10)] }
def DyadIntsSaid : Prop := dyadIntsRow.holds Tryd.pinned (OpenSpec.ofChange dyadIntsSpec)

/-- ITS FALSE NEIGHBOUR: 'it returns false'. Refute it at one input. -/
def dyadIntsWrong : ChangeSpec := { name := "dyadInts", fn := fun _ => fun
  | [d1, d2] => { results := [.lit (.bool false)], args := [d1, d2] }
  | _ => none }
def DyadIntsWrongFalsely : Prop := dyadIntsRow.holds Tryd.pinned (OpenSpec.ofChange dyadIntsWrong)

/- THE SECOND FORM. 'bulk': how many values and letters a reading holds, each counted each time it is reached (what is shared counts as often as it is met; a slice's spare places count too). A statement '..UptoSaid' is the law's where the arguments, and the package variables that the reading takes, are together of bulk at most 1048576: NARROWER than '..Said'. Prove '..Said' where nothing that the law and all that it calls make is longer than what came in: it says more and counts as full. Else prove '..UptoSaid'. A law counts once. -/
mutual
def uptoBulk {H : Type} : DataW H → Nat
  | .lit (.string bytes) => bytes.length + 1
  | .lit _ => 1
  | .nil => 1
  | .ptr d => uptoBulk d + 1
  | .slice elems spare => uptoBulkAll elems + uptoBulkAll spare + 1
  | .agg parts => uptoBulkAll parts + 1
  | .iface _ d => uptoBulk d + 1
  | .map entries => uptoBulkEntries entries + 1
  | .held _ => 1
def uptoBulkAll {H : Type} : List (DataW H) → Nat
  | [] => 0
  | d :: r => uptoBulk d + uptoBulkAll r
def uptoBulkEntries {H : Type} : List (Lit × DataW H) → Nat
  | [] => 0
  | x :: r => uptoBulkEntry x + uptoBulkEntries r
def uptoBulkEntry {H : Type} : Lit × DataW H → Nat
  | (.string bytes, d) => bytes.length + uptoBulk d + 1
  | (_, d) => uptoBulk d + 1
 end
def uptoSmall : (H : Type) → List (DataW H) → Bool := fun _ ds => decide (uptoBulkAll ds ≤ 1048576)
def OpenSpec.upto (s : _root_.Go.ChangeSpec) : _root_.Go.OpenSpec := { _root_.Go.OpenSpec.ofChange s with cond := some uptoSmall }

/-- 'straightedgelaw27.SureBackward', WHERE WHAT IT READS IS OF BULK AT MOST 1048576: true; the input reads as it did. -/
def sureBackwardUptoRow : OpenClaim := { program := "ytgdkahbnepafgaadoor", sum := "d890084c5c21b76961ecfff57b1e6dccf6968598a07518624c3514dfcef102f5", func := "straightedge/straightedgelaw27.SureBackward", spec := "sureBackward", inPlace := ["math.Float64bits", "math.Float64frombits"], unfollowed := true, recurses := true, named := ["math/bits.deBruijn32tab"], apart := false, laid := [("math/bits.deBruijn32tab", laid_math_bits_deBruijn32tab)], narrowed := true }
def SureBackwardUptoSaid : Prop := sureBackwardUptoRow.holds Tryd.pinned (OpenSpec.upto sureBackwardSpec)

/-- 'straightedgelaw01.NumTells', WHERE WHAT IT READS IS OF BULK AT MOST 1048576: true; the input reads as it did. -/
def numTellsUptoRow : OpenClaim := { program := "ytgdkahbnepafgaadoor", sum := "d890084c5c21b76961ecfff57b1e6dccf6968598a07518624c3514dfcef102f5", func := "straightedge/straightedgelaw01.NumTells", spec := "numTells", inPlace := ["math.Float64bits", "math.Float64frombits", "internal/abi.NoEscape", "internal/bytealg.MakeNoZero"], named := ["internal/strconv.uint64pow10", "math/bits.deBruijn32tab", "math/bits.deBruijn64tab"], apart := false, laid := [("math/bits.deBruijn32tab", laid_math_bits_deBruijn32tab), ("math/bits.deBruijn64tab", laid_math_bits_deBruijn64tab), ("internal/strconv.uint64pow10", laid_internal_strconv_uint64pow10)], narrowed := true }
def NumTellsUptoSaid : Prop := numTellsUptoRow.holds Tryd.pinned (OpenSpec.upto numTellsSpec)

/-- 'straightedgelaw01.NumBack', WHERE WHAT IT READS IS OF BULK AT MOST 1048576: true; the input reads as it did. -/
def numBackUptoRow : OpenClaim := { program := "ytgdkahbnepafgaadoor", sum := "d890084c5c21b76961ecfff57b1e6dccf6968598a07518624c3514dfcef102f5", func := "straightedge/straightedgelaw01.NumBack", spec := "numBack", inPlace := ["math.Float64bits", "math.Float64frombits", "internal/abi.NoEscape", "internal/bytealg.MakeNoZero"], named := ["internal/strconv.uint64pow10", "math/bits.deBruijn32tab", "math/bits.deBruijn64tab"], apart := false, laid := [("math/bits.deBruijn32tab", laid_math_bits_deBruijn32tab), ("math/bits.deBruijn64tab", laid_math_bits_deBruijn64tab), ("internal/strconv.uint64pow10", laid_internal_strconv_uint64pow10)], narrowed := true }
def NumBackUptoSaid : Prop := numBackUptoRow.holds Tryd.pinned (OpenSpec.upto numBackSpec)

/-- 'straightedgelaw01.NumScales', WHERE WHAT IT READS IS OF BULK AT MOST 1048576: true; the input reads as it did. -/
def numScalesUptoRow : OpenClaim := { program := "ytgdkahbnepafgaadoor", sum := "d890084c5c21b76961ecfff57b1e6dccf6968598a07518624c3514dfcef102f5", func := "straightedge/straightedgelaw01.NumScales", spec := "numScales", inPlace := ["math.Float64bits", "math.Float64frombits", "internal/abi.NoEscape", "internal/bytealg.MakeNoZero"], named := ["internal/strconv.uint64pow10", "math/bits.deBruijn32tab", "math/bits.deBruijn64tab"], apart := false, laid := [("math/bits.deBruijn32tab", laid_math_bits_deBruijn32tab), ("math/bits.deBruijn64tab", laid_math_bits_deBruijn64tab), ("internal/strconv.uint64pow10", laid_internal_strconv_uint64pow10)], narrowed := true }
def NumScalesUptoSaid : Prop := numScalesUptoRow.holds Tryd.pinned (OpenSpec.upto numScalesSpec)

/-- 'straightedgelaw27.SureResults', WHERE WHAT IT READS IS OF BULK AT MOST 1048576: true; the input reads as it did. -/
def sureResultsUptoRow : OpenClaim := { program := "ytgdkahbnepafgaadoor", sum := "d890084c5c21b76961ecfff57b1e6dccf6968598a07518624c3514dfcef102f5", func := "straightedge/straightedgelaw27.SureResults", spec := "sureResults", inPlace := ["math.Float64bits", "math.Float64frombits"], unfollowed := true, recurses := true, named := ["math/bits.deBruijn32tab"], apart := false, laid := [("math/bits.deBruijn32tab", laid_math_bits_deBruijn32tab)], narrowed := true }
def SureResultsUptoSaid : Prop := sureResultsUptoRow.holds Tryd.pinned (OpenSpec.upto sureResultsSpec)

/-- 'straightedgelaw01.NumNext', WHERE WHAT IT READS IS OF BULK AT MOST 1048576: true; the input reads as it did. -/
def numNextUptoRow : OpenClaim := { program := "ytgdkahbnepafgaadoor", sum := "d890084c5c21b76961ecfff57b1e6dccf6968598a07518624c3514dfcef102f5", func := "straightedge/straightedgelaw01.NumNext", spec := "numNext", inPlace := ["math.Float64bits", "math.Float64frombits", "internal/abi.NoEscape", "internal/bytealg.MakeNoZero"], named := ["internal/strconv.uint64pow10", "math/bits.deBruijn32tab", "math/bits.deBruijn64tab"], apart := false, laid := [("math/bits.deBruijn32tab", laid_math_bits_deBruijn32tab), ("math/bits.deBruijn64tab", laid_math_bits_deBruijn64tab), ("internal/strconv.uint64pow10", laid_internal_strconv_uint64pow10)], narrowed := true }
def NumNextUptoSaid : Prop := numNextUptoRow.holds Tryd.pinned (OpenSpec.upto numNextSpec)

/-- 'straightedgelaw27.SureFactors', WHERE WHAT IT READS IS OF BULK AT MOST 1048576: true; the input reads as it did. -/
def sureFactorsUptoRow : OpenClaim := { program := "ytgdkahbnepafgaadoor", sum := "d890084c5c21b76961ecfff57b1e6dccf6968598a07518624c3514dfcef102f5", func := "straightedge/straightedgelaw27.SureFactors", spec := "sureFactors", inPlace := ["math.Float64bits", "math.Float64frombits"], unfollowed := true, recurses := true, named := ["math/bits.deBruijn32tab"], apart := false, laid := [("math/bits.deBruijn32tab", laid_math_bits_deBruijn32tab)], narrowed := true }
def SureFactorsUptoSaid : Prop := sureFactorsUptoRow.holds Tryd.pinned (OpenSpec.upto sureFactorsSpec)

/-- 'straightedgelaw02.DyadInts', WHERE WHAT IT READS IS OF BULK AT MOST 1048576: true; the input reads as it did. -/
def dyadIntsUptoRow : OpenClaim := { program := "ytgdkahbnepafgaadoor", sum := "d890084c5c21b76961ecfff57b1e6dccf6968598a07518624c3514dfcef102f5", func := "straightedge/straightedgelaw02.DyadInts", spec := "dyadInts", inPlace := ["math.Float64bits", "math.Float64frombits", "internal/abi.NoEscape", "internal/bytealg.MakeNoZero"], unfollowed := true, recurses := true, named := ["math/bits.deBruijn32tab", "internal/strconv.uint64pow10", "math/bits.deBruijn64tab"], apart := false, laid := [("math/bits.deBruijn32tab", laid_math_bits_deBruijn32tab), ("math/bits.deBruijn64tab", laid_math_bits_deBruijn64tab), ("internal/strconv.uint64pow10", laid_internal_strconv_uint64pow10)], narrowed := true }
def DyadIntsUptoSaid : Prop := dyadIntsUptoRow.holds Tryd.pinned (OpenSpec.upto dyadIntsSpec)

end Rows
end Go.Proofs.YtgdkahbnepafgaaDoor
