/- The explicit forms of the functions of one package, and that the calls do what they say. Written by wip/tools/wk.py. -/
import Derived.Test.YtgdkahbnepafgaaDoorG0
set_option maxRecDepth 100000
set_option linter.unusedVariables false
namespace Go.Proofs.YtgdkahbnepafgaaDoor
open Go Go.Wk

/-! ### straightedge/num.Same: function 19 -/
def num_Same.x (A0 : Nat) (A1 : Nat) (w : World) (K : Value → World → Prop) : Prop := math_Float64bits.call [(.float .f64 A0)] w fun v1 w2 => ∃ i3 : Int, v1 = (.int .u64 i3) ∧ math_Float64bits.call [(.float .f64 A1)] w2 fun v4 w5 => ∃ i6 : Int, v4 = (.int .u64 i6) ∧ br (i3 == i6) (K (.bool true) w5) (br (fne .f64 A0 A0) (K (.bool (fne .f64 A1 A1)) w5) (K (.bool false) w5))
theorem num_Same.ok {A0 : Nat} {A1 : Nat} {w : World} {K : Value → World → Prop} (h : num_Same.x A0 A1 w K) : num_Same.call [(.float .f64 A0), (.float .f64 A1)] w K :=
  callF_of_ex0 (f := Tryd.f19) Tryd.func19 rfl mixed (by kernel_rfl) (Eq.mp (by kernel_rfl) h)

/-! ### straightedge/num.Finite: function 21 -/
def num_Finite.c2 (K : Value → World → Prop) : Nat → Option Addr → Nat → Nat → Int → Int → World → Prop
  | 0, _, _, _, _, _, _ => False
  | fu + 1, z5p, z5n, z5c, z6, z7, w => br (decide (z7 < z6)) (ptrSome z5p fun q1 => (0 : Int) ≤ z7 ∧ z7 < ((z5n : Nat) : Int) ∧ ∃ x2 : Nat, w.cell? (q1.add (Int.toNat z7)) = some (.float .f64 x2) ∧ br (fne .f64 x2 x2) (K (.bool false) w) (math_IsInf.call [(.float .f64 x2), (.int .i64 0)] w fun v3 w4 => ∃ b5 : Bool, v3 = (.bool b5) ∧ br b5 (K (.bool false) w4) (num_Finite.c2 K fu z5p z5n z5c z6 (IntKind.i64.wrap (z7 + 1)) w4))) (K (.bool true) w)
def num_Finite.x (fu : Nat) (A0p : Option Addr) (A0n A0c : Nat) (w : World) (K : Value → World → Prop) : Prop := num_Finite.c2 K fu A0p A0n A0c ((A0n : Nat) : Int) 0 w
def num_Finite.hd (K : Value → World → Prop) (n id : Nat) (t : List Value) (w : World) : Prop :=
  match id with
  | 2 => asL (t.getD 5 undef) fun z5p z5n z5c => asI .i64 (t.getD 6 undef) fun z6 => asI .i64 (t.getD 7 undef) fun z7 => num_Finite.c2 K n z5p z5n z5c z6 z7 w
  | _ => False
theorem num_Finite.t2 (K : Value → World → Prop) (n : Nat) (z5p : Option Addr) (z5n z5c : Nat) (z6 : Int) (z7 : Int) (u : Nat → Value) (w : World) (h : num_Finite.c2 K (n + 1) z5p z5n z5c z6 z7 w) :
    exT prog [2] (num_Finite.hd K n) Tryd.f21 2 19 [(5, (.slice z5p z5n z5c)), (6, (.int .i64 z6)), (7, (.int .i64 z7))] u w K := Eq.mp (by kernel_rfl) h
theorem num_Finite.ok (fu : Nat) {A0p : Option Addr} {A0n A0c : Nat} {w : World} {K : Value → World → Prop} (h : num_Finite.x fu A0p A0n A0c w K) : num_Finite.call [(.slice A0p A0n A0c)] w K := by
  refine callF_of_ex (cuts := [2]) (H := num_Finite.hd K) (N := 19) Tryd.func21 rfl mixed (by kernel_rfl) ?_ ?_ ?_ rfl (n := fu) (Eq.mp (by kernel_rfl) h)
  · intro id hid; simp only [List.mem_cons, List.not_mem_nil, or_false] at hid; subst hid
    · exact (by kernel_rfl : (stacks (bodyOf Tryd.f21) []).filter (headIs 2) = [at_ (bodyOf Tryd.f21) 2])
  · intro id t w h
    unfold num_Finite.hd at h
    split at h
    · obtain ⟨z5p, z5n, z5c, _, h⟩ := asL_elim h
      obtain ⟨z6, _, h⟩ := asI_elim h
      obtain ⟨z7, _, h⟩ := asI_elim h
      exact h
    · exact h
  · intro n id hid t w hl h; simp only [List.mem_cons, List.not_mem_nil, or_false] at hid; subst hid
    · replace h : asL (t.getD 5 undef) fun z5p z5n z5c => asI .i64 (t.getD 6 undef) fun z6 => asI .i64 (t.getD 7 undef) fun z7 => num_Finite.c2 K (n + 1) z5p z5n z5c z6 z7 w := h
      obtain ⟨z5p, z5n, z5c, e5, h⟩ := asL_elim h
      obtain ⟨z6, e6, h⟩ := asI_elim h
      obtain ⟨z7, e7, h⟩ := asI_elim h
      rw [mk_of hl [(5, (.slice z5p z5n z5c)), (6, (.int .i64 z6)), (7, (.int .i64 z7))] (by simp only [List.forall_mem_cons, List.not_mem_nil, false_implies, implies_true, and_true]; exact ⟨e5, e6, e7⟩)]
      exact num_Finite.t2 K n z5p z5n z5c z6 z7 _ w h

/-! ### straightedge/num.Exp: function 22 -/
def num_Exp.x (A0 : Nat) (w : World) (K : Value → World → Prop) : Prop := br (feq .f64 A0 0) (K (.int .i64 0) w) (newB [(.float .f64 A0)] 25 w fun q1 w2 => num_Finite.call [(.slice (some q1) 1 1)] w2 fun v3 w4 => ∃ b5 : Bool, v3 = (.bool b5) ∧ br (!b5) (K (.int .i64 0) w4) (math_Frexp.call [(.float .f64 A0)] w4 fun v6 w7 => ∃ x8 : Nat, ∃ i9 : Int, v6 = (.tuple ⟨[(.float .f64 x8), (.int .i64 i9)]⟩) ∧ K (.int .i64 (IntKind.i64.wrap (i9 - 1))) w7))
theorem num_Exp.ok {A0 : Nat} {w : World} {K : Value → World → Prop} (h : num_Exp.x A0 w K) : num_Exp.call [(.float .f64 A0)] w K :=
  callF_of_ex0 (f := Tryd.f22) Tryd.func22 rfl mixed (by kernel_rfl) (Eq.mp (by kernel_rfl) h)

/-! ### straightedge/num.Scale: function 24 -/
def num_Scale.x (A0 : Nat) (A1 : Int) (w : World) (K : Value → World → Prop) : Prop := math_Ldexp.call [(.float .f64 A0), (.int .i64 (if (-5000) > (if 5000 < A1 then 5000 else A1) then (-5000) else (if 5000 < A1 then 5000 else A1)))] w fun v1 w2 => ∃ x3 : Nat, v1 = (.float .f64 x3) ∧ K (.float .f64 x3) w2
theorem num_Scale.ok {A0 : Nat} {A1 : Int} {w : World} {K : Value → World → Prop} (h : num_Scale.x A0 A1 w K) : num_Scale.call [(.float .f64 A0), (.int .i64 A1)] w K :=
  callF_of_ex0 (f := Tryd.f24) Tryd.func24 rfl mixed (by kernel_rfl) (Eq.mp (by kernel_rfl) h)

/-! ### straightedge/num.Two: function 26 -/
def num_Two.x (A0 : Int) (w : World) (K : Value → World → Prop) : Prop := num_Scale.call [(.float .f64 4607182418800017408), (.int .i64 A0)] w fun v1 w2 => ∃ x3 : Nat, v1 = (.float .f64 x3) ∧ K (.float .f64 x3) w2
theorem num_Two.ok {A0 : Int} {w : World} {K : Value → World → Prop} (h : num_Two.x A0 w K) : num_Two.call [(.int .i64 A0)] w K :=
  callF_of_ex0 (f := Tryd.f26) Tryd.func26 rfl mixed (by kernel_rfl) (Eq.mp (by kernel_rfl) h)

/-! ### straightedge/num.Up: function 31 -/
def num_Up.x (A0 : Nat) (w : World) (K : Value → World → Prop) : Prop := math_Float64bits.call [(.float .f64 A0)] w fun v1 w2 => ∃ i3 : Int, v1 = (.int .u64 i3) ∧ br (fne .f64 A0 A0) (K (.float .f64 A0) w2) (math_Inf.call [(.int .i64 1)] w2 fun v4 w5 => ∃ x6 : Nat, v4 = (.float .f64 x6) ∧ br (feq .f64 A0 x6) (K (.float .f64 A0) w5) (br (feq .f64 A0 0) (math_Float64frombits.call [(.int .u64 1)] w5 fun v7 w8 => ∃ x9 : Nat, v7 = (.float .f64 x9) ∧ K (.float .f64 x9) w8) (br (fgt .f64 A0 0) (math_Float64frombits.call [(.int .u64 (IntKind.u64.wrap (i3 + 1)))] w5 fun v10 w11 => ∃ x12 : Nat, v10 = (.float .f64 x12) ∧ K (.float .f64 x12) w11) (math_Float64frombits.call [(.int .u64 (IntKind.u64.wrap (i3 - 1)))] w5 fun v13 w14 => ∃ x15 : Nat, v13 = (.float .f64 x15) ∧ K (.float .f64 x15) w14))))
theorem num_Up.ok {A0 : Nat} {w : World} {K : Value → World → Prop} (h : num_Up.x A0 w K) : num_Up.call [(.float .f64 A0)] w K :=
  callF_of_ex0 (f := Tryd.f31) Tryd.func31 rfl mixed (by kernel_rfl) (Eq.mp (by kernel_rfl) h)

/-! ### straightedge/num.Down: function 32 -/
def num_Down.x (A0 : Nat) (w : World) (K : Value → World → Prop) : Prop := num_Up.call [(.float .f64 (Op.negFloat .f64 A0))] w fun v1 w2 => ∃ x3 : Nat, v1 = (.float .f64 x3) ∧ K (.float .f64 (Op.negFloat .f64 x3)) w2
theorem num_Down.ok {A0 : Nat} {w : World} {K : Value → World → Prop} (h : num_Down.x A0 w K) : num_Down.call [(.float .f64 A0)] w K :=
  callF_of_ex0 (f := Tryd.f32) Tryd.func32 rfl mixed (by kernel_rfl) (Eq.mp (by kernel_rfl) h)

/-! ### straightedge/num.Hex: function 57 -/
def num_Hex.x (A0 : Nat) (w : World) (K : Value → World → Prop) : Prop := math_Float64bits.call [(.float .f64 A0)] w fun v1 w2 => ∃ i3 : Int, v1 = (.int .u64 i3) ∧ strconv_FormatUint.call [(.int .u64 i3), (.int .i64 16)] w2 fun v4 w5 => ∃ s6 : ByteArray, v4 = (.string s6) ∧ strings_Repeat.call [(.string (⟨#[48]⟩ : ByteArray)), (.int .i64 (IntKind.i64.wrap (16 - (s6.size : Int))))] w5 fun v7 w8 => ∃ s9 : ByteArray, v7 = (.string s9) ∧ ((s9.size + s6.size : Nat) : Int) ≤ 9223372036854775807 ∧ K (.string (s9 ++ s6)) w8
theorem num_Hex.ok {A0 : Nat} {w : World} {K : Value → World → Prop} (h : num_Hex.x A0 w K) : num_Hex.call [(.float .f64 A0)] w K :=
  callF_of_ex0 (f := Tryd.f57) Tryd.func57 rfl mixed (by kernel_rfl) (Eq.mp (by kernel_rfl) h)

end Go.Proofs.YtgdkahbnepafgaaDoor
