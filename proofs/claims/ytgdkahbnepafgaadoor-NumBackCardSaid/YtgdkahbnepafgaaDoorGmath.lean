/- The explicit forms of the functions of one package, and that the calls do what they say. Written by wip/tools/wk.py. -/
import Derived.Test.YtgdkahbnepafgaaDoorG0
set_option maxRecDepth 100000
set_option linter.unusedVariables false
namespace Go.Proofs.YtgdkahbnepafgaaDoor
open Go Go.Wk

/-! ### math.IsInf: function 59 -/
def math_IsInf.x (A0 : Nat) (A1 : Int) (w : World) (K : Value → World → Prop) : Prop := br (A1 == 0) (math_Abs.call [(.float .f64 A0)] w fun v1 w2 => ∃ x3 : Nat, v1 = (.float .f64 x3) ∧ K (.bool (fgt .f64 x3 9218868437227405311)) w2) (br (decide (A1 < 0)) (K (.bool (fgt .f64 (Op.negFloat .f64 A0) 9218868437227405311)) w) (K (.bool (fgt .f64 A0 9218868437227405311)) w))
theorem math_IsInf.ok {A0 : Nat} {A1 : Int} {w : World} {K : Value → World → Prop} (h : math_IsInf.x A0 A1 w K) : math_IsInf.call [(.float .f64 A0), (.int .i64 A1)] w K :=
  callF_of_ex0 (f := Tryd.f59) Tryd.func59 rfl mixed (by kernel_rfl) (Eq.mp (by kernel_rfl) h)

/-! ### math.Frexp: function 60 -/
def math_Frexp.x (A0 : Nat) (w : World) (K : Value → World → Prop) : Prop := math_frexp.call [(.float .f64 A0)] w fun v1 w2 => ∃ x3 : Nat, ∃ i4 : Int, v1 = (.tuple ⟨[(.float .f64 x3), (.int .i64 i4)]⟩) ∧ K (.tuple ⟨[(.float .f64 x3), (.int .i64 i4)]⟩) w2
theorem math_Frexp.ok {A0 : Nat} {w : World} {K : Value → World → Prop} (h : math_Frexp.x A0 w K) : math_Frexp.call [(.float .f64 A0)] w K :=
  callF_of_ex0 (f := Tryd.f60) Tryd.func60 rfl mixed (by kernel_rfl) (Eq.mp (by kernel_rfl) h)

/-! ### math.Ldexp: function 61 -/
def math_Ldexp.x (A0 : Nat) (A1 : Int) (w : World) (K : Value → World → Prop) : Prop := math_ldexp.call [(.float .f64 A0), (.int .i64 A1)] w fun v1 w2 => ∃ x3 : Nat, v1 = (.float .f64 x3) ∧ K (.float .f64 x3) w2
theorem math_Ldexp.ok {A0 : Nat} {A1 : Int} {w : World} {K : Value → World → Prop} (h : math_Ldexp.x A0 A1 w K) : math_Ldexp.call [(.float .f64 A0), (.int .i64 A1)] w K :=
  callF_of_ex0 (f := Tryd.f61) Tryd.func61 rfl mixed (by kernel_rfl) (Eq.mp (by kernel_rfl) h)

/-! ### math.Inf: function 66 -/
def math_Inf.x (A0 : Int) (w : World) (K : Value → World → Prop) : Prop := br (decide (A0 ≥ 0)) (math_Float64frombits.call [(.int .u64 9218868437227405312)] w fun v1 w2 => ∃ x3 : Nat, v1 = (.float .f64 x3) ∧ K (.float .f64 x3) w2) (math_Float64frombits.call [(.int .u64 18442240474082181120)] w fun v4 w5 => ∃ x6 : Nat, v4 = (.float .f64 x6) ∧ K (.float .f64 x6) w5)
theorem math_Inf.ok {A0 : Int} {w : World} {K : Value → World → Prop} (h : math_Inf.x A0 w K) : math_Inf.call [(.int .i64 A0)] w K :=
  callF_of_ex0 (f := Tryd.f66) Tryd.func66 rfl mixed (by kernel_rfl) (Eq.mp (by kernel_rfl) h)

/-! ### math.Abs: function 102 -/
def math_Abs.x (A0 : Nat) (w : World) (K : Value → World → Prop) : Prop := math_Float64bits.call [(.float .f64 A0)] w fun v1 w2 => ∃ i3 : Int, v1 = (.int .u64 i3) ∧ math_Float64frombits.call [(.int .u64 (bits .andNot .u64 i3 9223372036854775808))] w2 fun v4 w5 => ∃ x6 : Nat, v4 = (.float .f64 x6) ∧ K (.float .f64 x6) w5
theorem math_Abs.ok {A0 : Nat} {w : World} {K : Value → World → Prop} (h : math_Abs.x A0 w K) : math_Abs.call [(.float .f64 A0)] w K :=
  callF_of_ex0 (f := Tryd.f102) Tryd.func102 rfl mixed (by kernel_rfl) (Eq.mp (by kernel_rfl) h)

/-! ### math.frexp: function 104 -/
def math_frexp.x (A0 : Nat) (w : World) (K : Value → World → Prop) : Prop := br (feq .f64 A0 0) (K (.tuple ⟨[(.float .f64 A0), (.int .i64 0)]⟩) w) (math_IsInf.call [(.float .f64 A0), (.int .i64 0)] w fun v1 w2 => ∃ b3 : Bool, v1 = (.bool b3) ∧ br b3 (K (.tuple ⟨[(.float .f64 A0), (.int .i64 0)]⟩) w2) (math_IsNaN.call [(.float .f64 A0)] w2 fun v4 w5 => ∃ b6 : Bool, v4 = (.bool b6) ∧ br b6 (K (.tuple ⟨[(.float .f64 A0), (.int .i64 0)]⟩) w5) (math_normalize.call [(.float .f64 A0)] w5 fun v7 w8 => ∃ x9 : Nat, ∃ i10 : Int, v7 = (.tuple ⟨[(.float .f64 x9), (.int .i64 i10)]⟩) ∧ math_Float64bits.call [(.float .f64 x9)] w8 fun v11 w12 => ∃ i13 : Int, v11 = (.int .u64 i13) ∧ math_Float64frombits.call [(.int .u64 (bits .or .u64 (bits .andNot .u64 i13 9218868437227405312) 4602678819172646912))] w12 fun v14 w15 => ∃ x16 : Nat, v14 = (.float .f64 x16) ∧ K (.tuple ⟨[(.float .f64 x16), (.int .i64 (IntKind.i64.wrap (i10 + (IntKind.i64.wrap ((IntKind.i64.wrap ((IntKind.i64.wrap ((bits .and .u64 (Int.fdiv i13 (2 ^ (shiftN .u64 52))) 2047))) - 1023)) + 1)))))]⟩) w15)))
theorem math_frexp.ok {A0 : Nat} {w : World} {K : Value → World → Prop} (h : math_frexp.x A0 w K) : math_frexp.call [(.float .f64 A0)] w K :=
  callF_of_ex0 (f := Tryd.f104) Tryd.func104 rfl mixed (by kernel_rfl) (Eq.mp (by kernel_rfl) h)

/-! ### math.ldexp: function 106 -/
def math_ldexp.x (A0 : Nat) (A1 : Int) (w : World) (K : Value → World → Prop) : Prop := br (feq .f64 A0 0) (K (.float .f64 A0) w) (math_IsInf.call [(.float .f64 A0), (.int .i64 0)] w fun v1 w2 => ∃ b3 : Bool, v1 = (.bool b3) ∧ br b3 (K (.float .f64 A0) w2) (math_IsNaN.call [(.float .f64 A0)] w2 fun v4 w5 => ∃ b6 : Bool, v4 = (.bool b6) ∧ br b6 (K (.float .f64 A0) w5) (math_normalize.call [(.float .f64 A0)] w5 fun v7 w8 => ∃ x9 : Nat, ∃ i10 : Int, v7 = (.tuple ⟨[(.float .f64 x9), (.int .i64 i10)]⟩) ∧ math_Float64bits.call [(.float .f64 x9)] w8 fun v11 w12 => ∃ i13 : Int, v11 = (.int .u64 i13) ∧ br (decide ((IntKind.i64.wrap ((IntKind.i64.wrap (A1 + i10)) + (IntKind.i64.wrap ((bits .and .i64 (IntKind.i64.wrap ((Int.fdiv i13 (2 ^ (shiftN .u64 52))))) 2047) - 1023)))) < (-1075))) (math_Copysign.call [(.float .f64 0), (.float .f64 x9)] w12 fun v14 w15 => ∃ x16 : Nat, v14 = (.float .f64 x16) ∧ K (.float .f64 x16) w15) (br (decide ((IntKind.i64.wrap ((IntKind.i64.wrap (A1 + i10)) + (IntKind.i64.wrap ((bits .and .i64 (IntKind.i64.wrap ((Int.fdiv i13 (2 ^ (shiftN .u64 52))))) 2047) - 1023)))) > 1023)) (br (flt .f64 x9 0) (math_Inf.call [(.int .i64 (-1))] w12 fun v17 w18 => ∃ x19 : Nat, v17 = (.float .f64 x19) ∧ K (.float .f64 x19) w18) (math_Inf.call [(.int .i64 1)] w12 fun v20 w21 => ∃ x22 : Nat, v20 = (.float .f64 x22) ∧ K (.float .f64 x22) w21)) (br (decide ((IntKind.i64.wrap ((IntKind.i64.wrap (A1 + i10)) + (IntKind.i64.wrap ((bits .and .i64 (IntKind.i64.wrap ((Int.fdiv i13 (2 ^ (shiftN .u64 52))))) 2047) - 1023)))) < (-1022))) (math_Float64frombits.call [(.int .u64 (bits .or .u64 (bits .andNot .u64 i13 9218868437227405312) (IntKind.u64.wrap ((IntKind.u64.wrap ((IntKind.i64.wrap ((IntKind.i64.wrap ((IntKind.i64.wrap ((IntKind.i64.wrap (A1 + i10)) + (IntKind.i64.wrap ((bits .and .i64 (IntKind.i64.wrap ((Int.fdiv i13 (2 ^ (shiftN .u64 52))))) 2047) - 1023)))) + 53)) + 1023)))) * 2 ^ (shiftN .u64 52)))))] w12 fun v23 w24 => ∃ x25 : Nat, v23 = (.float .f64 x25) ∧ fop .mul .f64 4368491638549381120 x25 w24 fun x26 w27 => K (.float .f64 x26) w27) (math_Float64frombits.call [(.int .u64 (bits .or .u64 (bits .andNot .u64 i13 9218868437227405312) (IntKind.u64.wrap ((IntKind.u64.wrap ((IntKind.i64.wrap ((IntKind.i64.wrap ((IntKind.i64.wrap (A1 + i10)) + (IntKind.i64.wrap ((bits .and .i64 (IntKind.i64.wrap ((Int.fdiv i13 (2 ^ (shiftN .u64 52))))) 2047) - 1023)))) + 1023)))) * 2 ^ (shiftN .u64 52)))))] w12 fun v28 w29 => ∃ x30 : Nat, v28 = (.float .f64 x30) ∧ fop .mul .f64 4607182418800017408 x30 w29 fun x31 w32 => K (.float .f64 x31) w32))))))
theorem math_ldexp.ok {A0 : Nat} {A1 : Int} {w : World} {K : Value → World → Prop} (h : math_ldexp.x A0 A1 w K) : math_ldexp.call [(.float .f64 A0), (.int .i64 A1)] w K :=
  callF_of_ex0 (f := Tryd.f106) Tryd.func106 rfl mixed (by kernel_rfl) (Eq.mp (by kernel_rfl) h)

/-! ### math.IsNaN: function 136 -/
def math_IsNaN.x (A0 : Nat) (w : World) (K : Value → World → Prop) : Prop := K (.bool (fne .f64 A0 A0)) w
theorem math_IsNaN.ok {A0 : Nat} {w : World} {K : Value → World → Prop} (h : math_IsNaN.x A0 w K) : math_IsNaN.call [(.float .f64 A0)] w K :=
  callF_of_ex0 (f := Tryd.f136) Tryd.func136 rfl mixed (by kernel_rfl) (Eq.mp (by kernel_rfl) h)

/-! ### math.normalize: function 137 -/
def math_normalize.x (A0 : Nat) (w : World) (K : Value → World → Prop) : Prop := math_Abs.call [(.float .f64 A0)] w fun v1 w2 => ∃ x3 : Nat, v1 = (.float .f64 x3) ∧ br (flt .f64 x3 4503599627370496) (fop .mul .f64 A0 4841369599423283200 w2 fun x4 w5 => K (.tuple ⟨[(.float .f64 x4), (.int .i64 (-52))]⟩) w5) (K (.tuple ⟨[(.float .f64 A0), (.int .i64 0)]⟩) w2)
theorem math_normalize.ok {A0 : Nat} {w : World} {K : Value → World → Prop} (h : math_normalize.x A0 w K) : math_normalize.call [(.float .f64 A0)] w K :=
  callF_of_ex0 (f := Tryd.f137) Tryd.func137 rfl mixed (by kernel_rfl) (Eq.mp (by kernel_rfl) h)

/-! ### math.Copysign: function 138 -/
def math_Copysign.x (A0 : Nat) (A1 : Nat) (w : World) (K : Value → World → Prop) : Prop := math_Float64bits.call [(.float .f64 A0)] w fun v1 w2 => ∃ i3 : Int, v1 = (.int .u64 i3) ∧ math_Float64bits.call [(.float .f64 A1)] w2 fun v4 w5 => ∃ i6 : Int, v4 = (.int .u64 i6) ∧ math_Float64frombits.call [(.int .u64 (bits .or .u64 (bits .andNot .u64 i3 9223372036854775808) (bits .and .u64 i6 9223372036854775808)))] w5 fun v7 w8 => ∃ x9 : Nat, v7 = (.float .f64 x9) ∧ K (.float .f64 x9) w8
theorem math_Copysign.ok {A0 : Nat} {A1 : Nat} {w : World} {K : Value → World → Prop} (h : math_Copysign.x A0 A1 w K) : math_Copysign.call [(.float .f64 A0), (.float .f64 A1)] w K :=
  callF_of_ex0 (f := Tryd.f138) Tryd.func138 rfl mixed (by kernel_rfl) (Eq.mp (by kernel_rfl) h)

end Go.Proofs.YtgdkahbnepafgaaDoor
