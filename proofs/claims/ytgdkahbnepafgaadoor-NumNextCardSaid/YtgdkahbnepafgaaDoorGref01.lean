/- The explicit forms of the functions of one package, and that the calls do what they say. Written by wip/tools/wk.py. -/
import Derived.Test.YtgdkahbnepafgaaDoorG0
set_option maxRecDepth 100000
set_option linter.unusedVariables false
namespace Go.Proofs.YtgdkahbnepafgaaDoor
open Go Go.Wk

/-! ### straightedge/straightedgeref01.Finite: function 15 -/
def straightedgeref01_Finite.c2 (K : Value → World → Prop) : Nat → Option Addr → Nat → Nat → Int → World → Prop
  | 0, _, _, _, _, _ => False
  | fu + 1, z0p, z0n, z0c, z3, w => br (decide (z3 < ((z0n : Nat) : Int))) (ptrSome z0p fun q1 => (0 : Int) ≤ z3 ∧ z3 < ((z0n : Nat) : Int) ∧ ∃ x2 : Nat, w.cell? (q1.add (Int.toNat z3)) = some (.float .f64 x2) ∧ straightedgeref01_Parts.call [(.float .f64 x2)] w fun v3 w4 => ∃ b5 : Bool, ∃ i6 : Int, ∃ i7 : Int, ∃ i8 : Int, v3 = (.tuple ⟨[(.bool b5), (.int .u64 i6), (.int .i64 i7), (.int .i64 i8)]⟩) ∧ br (i8 != 0) (K (.bool false) w4) (straightedgeref01_Finite.c2 K fu z0p z0n z0c (IntKind.i64.wrap (z3 + 1)) w4)) (K (.bool true) w)
def straightedgeref01_Finite.x (fu : Nat) (A0p : Option Addr) (A0n A0c : Nat) (w : World) (K : Value → World → Prop) : Prop := straightedgeref01_Finite.c2 K fu A0p A0n A0c 0 w
def straightedgeref01_Finite.hd (K : Value → World → Prop) (n id : Nat) (t : List Value) (w : World) : Prop :=
  match id with
  | 2 => asL (t.getD 0 undef) fun z0p z0n z0c => asI .i64 (t.getD 3 undef) fun z3 => straightedgeref01_Finite.c2 K n z0p z0n z0c z3 w
  | _ => False
theorem straightedgeref01_Finite.t2 (K : Value → World → Prop) (n : Nat) (z0p : Option Addr) (z0n z0c : Nat) (z3 : Int) (u : Nat → Value) (w : World) (h : straightedgeref01_Finite.c2 K (n + 1) z0p z0n z0c z3 w) :
    exT prog [2] (straightedgeref01_Finite.hd K n) Tryd.f15 2 26 [(0, (.slice z0p z0n z0c)), (3, (.int .i64 z3))] u w K := Eq.mp (by kernel_rfl) h
theorem straightedgeref01_Finite.ok (fu : Nat) {A0p : Option Addr} {A0n A0c : Nat} {w : World} {K : Value → World → Prop} (h : straightedgeref01_Finite.x fu A0p A0n A0c w K) : straightedgeref01_Finite.call [(.slice A0p A0n A0c)] w K := by
  refine callF_of_ex (cuts := [2]) (H := straightedgeref01_Finite.hd K) (N := 26) Tryd.func15 rfl mixed (by kernel_rfl) ?_ ?_ ?_ rfl (n := fu) (Eq.mp (by kernel_rfl) h)
  · intro id hid; simp only [List.mem_cons, List.not_mem_nil, or_false] at hid; subst hid
    · exact (by kernel_rfl : (stacks (bodyOf Tryd.f15) []).filter (headIs 2) = [at_ (bodyOf Tryd.f15) 2])
  · intro id t w h
    unfold straightedgeref01_Finite.hd at h
    split at h
    · obtain ⟨z0p, z0n, z0c, _, h⟩ := asL_elim h
      obtain ⟨z3, _, h⟩ := asI_elim h
      exact h
    · exact h
  · intro n id hid t w hl h; simp only [List.mem_cons, List.not_mem_nil, or_false] at hid; subst hid
    · replace h : asL (t.getD 0 undef) fun z0p z0n z0c => asI .i64 (t.getD 3 undef) fun z3 => straightedgeref01_Finite.c2 K (n + 1) z0p z0n z0c z3 w := h
      obtain ⟨z0p, z0n, z0c, e0, h⟩ := asL_elim h
      obtain ⟨z3, e3, h⟩ := asI_elim h
      rw [mk_of hl [(0, (.slice z0p z0n z0c)), (3, (.int .i64 z3))] (by simp only [List.forall_mem_cons, List.not_mem_nil, false_implies, implies_true, and_true]; exact ⟨e0, e3⟩)]
      exact straightedgeref01_Finite.t2 K n z0p z0n z0c z3 _ w h

/-! ### straightedge/straightedgeref01.Same: function 20 -/
def straightedgeref01_Same.x (A0 : Nat) (A1 : Nat) (w : World) (K : Value → World → Prop) : Prop := straightedgeref01_Parts.call [(.float .f64 A0)] w fun v1 w2 => ∃ b3 : Bool, ∃ i4 : Int, ∃ i5 : Int, ∃ i6 : Int, v1 = (.tuple ⟨[(.bool b3), (.int .u64 i4), (.int .i64 i5), (.int .i64 i6)]⟩) ∧ straightedgeref01_Parts.call [(.float .f64 A1)] w2 fun v7 w8 => ∃ b9 : Bool, ∃ i10 : Int, ∃ i11 : Int, ∃ i12 : Int, v7 = (.tuple ⟨[(.bool b9), (.int .u64 i10), (.int .i64 i11), (.int .i64 i12)]⟩) ∧ math_Float64bits.call [(.float .f64 A0)] w8 fun v13 w14 => ∃ i15 : Int, v13 = (.int .u64 i15) ∧ math_Float64bits.call [(.float .f64 A1)] w14 fun v16 w17 => ∃ i18 : Int, v16 = (.int .u64 i18) ∧ br (i15 == i18) (K (.bool true) w17) (br (i6 == 2) (K (.bool (i12 == 2)) w17) (K (.bool false) w17))
theorem straightedgeref01_Same.ok {A0 : Nat} {A1 : Nat} {w : World} {K : Value → World → Prop} (h : straightedgeref01_Same.x A0 A1 w K) : straightedgeref01_Same.call [(.float .f64 A0), (.float .f64 A1)] w K :=
  callF_of_ex0 (f := Tryd.f20) Tryd.func20 rfl mixed (by kernel_rfl) (Eq.mp (by kernel_rfl) h)

/-! ### straightedge/straightedgeref01.Exp: function 23 -/
def straightedgeref01_Exp.c4 (K : Value → World → Prop) : Nat → Int → Int → World → Prop
  | 0, _, _, _ => False
  | fu + 1, z4, z5, w => br (decide (z4 > 1)) (straightedgeref01_Exp.c4 K fu (IntKind.u64.wrap (Int.tdiv z4 2)) (IntKind.i64.wrap (z5 + 1)) w) (K (.int .i64 z5) w)
def straightedgeref01_Exp.x (fu : Nat) (A0 : Nat) (w : World) (K : Value → World → Prop) : Prop := straightedgeref01_Parts.call [(.float .f64 A0)] w fun v1 w2 => ∃ b3 : Bool, ∃ i4 : Int, ∃ i5 : Int, ∃ i6 : Int, v1 = (.tuple ⟨[(.bool b3), (.int .u64 i4), (.int .i64 i5), (.int .i64 i6)]⟩) ∧ br (i6 != 0) (K (.int .i64 0) w2) (br (i4 == 0) (K (.int .i64 0) w2) (straightedgeref01_Exp.c4 K fu i4 i5 w2))
def straightedgeref01_Exp.hd (K : Value → World → Prop) (n id : Nat) (t : List Value) (w : World) : Prop :=
  match id with
  | 4 => asI .u64 (t.getD 4 undef) fun z4 => asI .i64 (t.getD 5 undef) fun z5 => straightedgeref01_Exp.c4 K n z4 z5 w
  | _ => False
theorem straightedgeref01_Exp.t4 (K : Value → World → Prop) (n : Nat) (z4 : Int) (z5 : Int) (u : Nat → Value) (w : World) (h : straightedgeref01_Exp.c4 K (n + 1) z4 z5 w) :
    exT prog [4] (straightedgeref01_Exp.hd K n) Tryd.f23 4 27 [(4, (.int .u64 z4)), (5, (.int .i64 z5))] u w K := Eq.mp (by kernel_rfl) h
theorem straightedgeref01_Exp.ok (fu : Nat) {A0 : Nat} {w : World} {K : Value → World → Prop} (h : straightedgeref01_Exp.x fu A0 w K) : straightedgeref01_Exp.call [(.float .f64 A0)] w K := by
  refine callF_of_ex (cuts := [4]) (H := straightedgeref01_Exp.hd K) (N := 27) Tryd.func23 rfl mixed (by kernel_rfl) ?_ ?_ ?_ rfl (n := fu) (Eq.mp (by kernel_rfl) h)
  · intro id hid; simp only [List.mem_cons, List.not_mem_nil, or_false] at hid; subst hid
    · exact (by kernel_rfl : (stacks (bodyOf Tryd.f23) []).filter (headIs 4) = [at_ (bodyOf Tryd.f23) 4])
  · intro id t w h
    unfold straightedgeref01_Exp.hd at h
    split at h
    · obtain ⟨z4, _, h⟩ := asI_elim h
      obtain ⟨z5, _, h⟩ := asI_elim h
      exact h
    · exact h
  · intro n id hid t w hl h; simp only [List.mem_cons, List.not_mem_nil, or_false] at hid; subst hid
    · replace h : asI .u64 (t.getD 4 undef) fun z4 => asI .i64 (t.getD 5 undef) fun z5 => straightedgeref01_Exp.c4 K (n + 1) z4 z5 w := h
      obtain ⟨z4, e4, h⟩ := asI_elim h
      obtain ⟨z5, e5, h⟩ := asI_elim h
      rw [mk_of hl [(4, (.int .u64 z4)), (5, (.int .i64 z5))] (by simp only [List.forall_mem_cons, List.not_mem_nil, false_implies, implies_true, and_true]; exact ⟨e4, e5⟩)]
      exact straightedgeref01_Exp.t4 K n z4 z5 _ w h

/-! ### straightedge/straightedgeref01.Scale: function 25 -/
def straightedgeref01_Scale.x (A0 : Nat) (A1 : Int) (w : World) (K : Value → World → Prop) : Prop := straightedgeref01_Parts.call [(.float .f64 A0)] w fun v1 w2 => ∃ b3 : Bool, ∃ i4 : Int, ∃ i5 : Int, ∃ i6 : Int, v1 = (.tuple ⟨[(.bool b3), (.int .u64 i4), (.int .i64 i5), (.int .i64 i6)]⟩) ∧ br (i6 != 0) (K (.float .f64 A0) w2) (br (decide (A1 > 5000)) (straightedgeref01_Make.call [(.bool b3), (.int .u64 i4), (.int .i64 (IntKind.i64.wrap (i5 + 5000)))] w2 fun v7 w8 => ∃ x9 : Nat, v7 = (.float .f64 x9) ∧ K (.float .f64 x9) w8) (br (decide (A1 < (-5000))) (straightedgeref01_Make.call [(.bool b3), (.int .u64 i4), (.int .i64 (IntKind.i64.wrap (i5 + (-5000))))] w2 fun v10 w11 => ∃ x12 : Nat, v10 = (.float .f64 x12) ∧ K (.float .f64 x12) w11) (straightedgeref01_Make.call [(.bool b3), (.int .u64 i4), (.int .i64 (IntKind.i64.wrap (i5 + A1)))] w2 fun v13 w14 => ∃ x15 : Nat, v13 = (.float .f64 x15) ∧ K (.float .f64 x15) w14)))
theorem straightedgeref01_Scale.ok {A0 : Nat} {A1 : Int} {w : World} {K : Value → World → Prop} (h : straightedgeref01_Scale.x A0 A1 w K) : straightedgeref01_Scale.call [(.float .f64 A0), (.int .i64 A1)] w K :=
  callF_of_ex0 (f := Tryd.f25) Tryd.func25 rfl mixed (by kernel_rfl) (Eq.mp (by kernel_rfl) h)

/-! ### straightedge/straightedgeref01.Copy: function 28 -/
def straightedgeref01_Copy.x (A0p : Option Addr) (A0n A0c : Nat) (w : World) (K : Value → World → Prop) : Prop := newB [] 25 w fun q1 w2 => Raw prog (Builtin.append_ #[22, 22] 22 ⟨[(.slice (some q1) 0 0), (.slice A0p A0n A0c)]⟩) w2 fun v3 w4 => ∃ (a5 : Option Addr) (n6 c7 : Nat), v3 = .slice a5 n6 c7 ∧ K (.slice a5 n6 c7) w4
theorem straightedgeref01_Copy.ok {A0p : Option Addr} {A0n A0c : Nat} {w : World} {K : Value → World → Prop} (h : straightedgeref01_Copy.x A0p A0n A0c w K) : straightedgeref01_Copy.call [(.slice A0p A0n A0c)] w K :=
  callF_of_ex0 (f := Tryd.f28) Tryd.func28 rfl mixed (by kernel_rfl) (Eq.mp (by kernel_rfl) h)

/-! ### straightedge/straightedgeref01.Up: function 33 -/
def straightedgeref01_Up.x (A0 : Nat) (w : World) (K : Value → World → Prop) : Prop := straightedgeref01_Parts.call [(.float .f64 A0)] w fun v1 w2 => ∃ b3 : Bool, ∃ i4 : Int, ∃ i5 : Int, ∃ i6 : Int, v1 = (.tuple ⟨[(.bool b3), (.int .u64 i4), (.int .i64 i5), (.int .i64 i6)]⟩) ∧ br (i6 == 2) (K (.float .f64 A0) w2) (br (i6 == 1) (br (!b3) (K (.float .f64 A0) w2) (br (i6 == 1) (straightedgeref01_Make.call [(.bool true), (.int .u64 9007199254740991), (.int .i64 971)] w2 fun v7 w8 => ∃ x9 : Nat, v7 = (.float .f64 x9) ∧ K (.float .f64 x9) w8) (br (i4 == 0) (straightedgeref01_Make.call [(.bool false), (.int .u64 1), (.int .i64 (-1074))] w2 fun v10 w11 => ∃ x12 : Nat, v10 = (.float .f64 x12) ∧ K (.float .f64 x12) w11) (br (!b3) (straightedgeref01_Make.call [(.bool false), (.int .u64 (IntKind.u64.wrap (i4 + 1))), (.int .i64 i5)] w2 fun v13 w14 => ∃ x15 : Nat, v13 = (.float .f64 x15) ∧ K (.float .f64 x15) w14) (br (i4 == 4503599627370496) (br (decide (i5 > (-1074))) (straightedgeref01_Make.call [(.bool true), (.int .u64 9007199254740991), (.int .i64 (IntKind.i64.wrap (i5 - 1)))] w2 fun v16 w17 => ∃ x18 : Nat, v16 = (.float .f64 x18) ∧ K (.float .f64 x18) w17) (straightedgeref01_Make.call [(.bool true), (.int .u64 (IntKind.u64.wrap (i4 - 1))), (.int .i64 i5)] w2 fun v19 w20 => ∃ x21 : Nat, v19 = (.float .f64 x21) ∧ K (.float .f64 x21) w20)) (straightedgeref01_Make.call [(.bool true), (.int .u64 (IntKind.u64.wrap (i4 - 1))), (.int .i64 i5)] w2 fun v22 w23 => ∃ x24 : Nat, v22 = (.float .f64 x24) ∧ K (.float .f64 x24) w23)))))) (br (i6 == 1) (straightedgeref01_Make.call [(.bool true), (.int .u64 9007199254740991), (.int .i64 971)] w2 fun v25 w26 => ∃ x27 : Nat, v25 = (.float .f64 x27) ∧ K (.float .f64 x27) w26) (br (i4 == 0) (straightedgeref01_Make.call [(.bool false), (.int .u64 1), (.int .i64 (-1074))] w2 fun v28 w29 => ∃ x30 : Nat, v28 = (.float .f64 x30) ∧ K (.float .f64 x30) w29) (br (!b3) (straightedgeref01_Make.call [(.bool false), (.int .u64 (IntKind.u64.wrap (i4 + 1))), (.int .i64 i5)] w2 fun v31 w32 => ∃ x33 : Nat, v31 = (.float .f64 x33) ∧ K (.float .f64 x33) w32) (br (i4 == 4503599627370496) (br (decide (i5 > (-1074))) (straightedgeref01_Make.call [(.bool true), (.int .u64 9007199254740991), (.int .i64 (IntKind.i64.wrap (i5 - 1)))] w2 fun v34 w35 => ∃ x36 : Nat, v34 = (.float .f64 x36) ∧ K (.float .f64 x36) w35) (straightedgeref01_Make.call [(.bool true), (.int .u64 (IntKind.u64.wrap (i4 - 1))), (.int .i64 i5)] w2 fun v37 w38 => ∃ x39 : Nat, v37 = (.float .f64 x39) ∧ K (.float .f64 x39) w38)) (straightedgeref01_Make.call [(.bool true), (.int .u64 (IntKind.u64.wrap (i4 - 1))), (.int .i64 i5)] w2 fun v40 w41 => ∃ x42 : Nat, v40 = (.float .f64 x42) ∧ K (.float .f64 x42) w41))))))
theorem straightedgeref01_Up.ok {A0 : Nat} {w : World} {K : Value → World → Prop} (h : straightedgeref01_Up.x A0 w K) : straightedgeref01_Up.call [(.float .f64 A0)] w K :=
  callF_of_ex0 (f := Tryd.f33) Tryd.func33 rfl mixed (by kernel_rfl) (Eq.mp (by kernel_rfl) h)

/-! ### straightedge/straightedgeref01.Parts: function 53 -/
def straightedgeref01_Parts.x (A0 : Nat) (w : World) (K : Value → World → Prop) : Prop := math_Float64bits.call [(.float .f64 A0)] w fun v1 w2 => ∃ i3 : Int, v1 = (.int .u64 i3) ∧ br ((Int.tmod (IntKind.i64.wrap ((Int.fdiv i3 (2 ^ (shiftN .u64 52))))) 2048) == 2047) (br ((Int.tmod i3 4503599627370496) == 0) (K (.tuple ⟨[(.bool ((Int.fdiv i3 (2 ^ (shiftN .u64 63))) == 1)), (.int .u64 0), (.int .i64 0), (.int .i64 1)]⟩) w2) (br ((Int.tmod (IntKind.i64.wrap ((Int.fdiv i3 (2 ^ (shiftN .u64 52))))) 2048) == 2047) (K (.tuple ⟨[(.bool ((Int.fdiv i3 (2 ^ (shiftN .u64 63))) == 1)), (.int .u64 0), (.int .i64 0), (.int .i64 2)]⟩) w2) (br ((Int.tmod (IntKind.i64.wrap ((Int.fdiv i3 (2 ^ (shiftN .u64 52))))) 2048) == 0) (K (.tuple ⟨[(.bool ((Int.fdiv i3 (2 ^ (shiftN .u64 63))) == 1)), (.int .u64 (Int.tmod i3 4503599627370496)), (.int .i64 (-1074)), (.int .i64 0)]⟩) w2) (K (.tuple ⟨[(.bool ((Int.fdiv i3 (2 ^ (shiftN .u64 63))) == 1)), (.int .u64 (IntKind.u64.wrap ((Int.tmod i3 4503599627370496) + 4503599627370496))), (.int .i64 (IntKind.i64.wrap ((Int.tmod (IntKind.i64.wrap ((Int.fdiv i3 (2 ^ (shiftN .u64 52))))) 2048) - 1075))), (.int .i64 0)]⟩) w2)))) (br ((Int.tmod (IntKind.i64.wrap ((Int.fdiv i3 (2 ^ (shiftN .u64 52))))) 2048) == 2047) (K (.tuple ⟨[(.bool ((Int.fdiv i3 (2 ^ (shiftN .u64 63))) == 1)), (.int .u64 0), (.int .i64 0), (.int .i64 2)]⟩) w2) (br ((Int.tmod (IntKind.i64.wrap ((Int.fdiv i3 (2 ^ (shiftN .u64 52))))) 2048) == 0) (K (.tuple ⟨[(.bool ((Int.fdiv i3 (2 ^ (shiftN .u64 63))) == 1)), (.int .u64 (Int.tmod i3 4503599627370496)), (.int .i64 (-1074)), (.int .i64 0)]⟩) w2) (K (.tuple ⟨[(.bool ((Int.fdiv i3 (2 ^ (shiftN .u64 63))) == 1)), (.int .u64 (IntKind.u64.wrap ((Int.tmod i3 4503599627370496) + 4503599627370496))), (.int .i64 (IntKind.i64.wrap ((Int.tmod (IntKind.i64.wrap ((Int.fdiv i3 (2 ^ (shiftN .u64 52))))) 2048) - 1075))), (.int .i64 0)]⟩) w2)))
theorem straightedgeref01_Parts.ok {A0 : Nat} {w : World} {K : Value → World → Prop} (h : straightedgeref01_Parts.x A0 w K) : straightedgeref01_Parts.call [(.float .f64 A0)] w K :=
  callF_of_ex0 (f := Tryd.f53) Tryd.func53 rfl mixed (by kernel_rfl) (Eq.mp (by kernel_rfl) h)

/-! ### straightedge/straightedgeref01.Make: function 62 -/
def straightedgeref01_Make.b8 (K : Value → World → Prop) (h8 : Int → Int → Int → World → Prop) (h12 : Int → Int → Int → Bool → Bool → World → Prop) (h19 : Int → Int → Int → World → Prop) (z1 : Int) (z2 : Int) (z7 : Int) (w : World) : Prop := br (decide (z1 < 4503599627370496)) (br (decide (z2 > (-1074))) (h8 (IntKind.u64.wrap (z1 * 2)) (IntKind.i64.wrap (z2 - 1)) z7 w) (h12 z1 z2 z7 false false w)) (h12 z1 z2 z7 false false w)
def straightedgeref01_Make.b12 (K : Value → World → Prop) (h8 : Int → Int → Int → World → Prop) (h12 : Int → Int → Int → Bool → Bool → World → Prop) (h19 : Int → Int → Int → World → Prop) (z1 : Int) (z2 : Int) (z7 : Int) (z8 : Bool) (z9 : Bool) (w : World) : Prop := br (decide (z1 ≥ 9007199254740992)) (br z8 (h12 (IntKind.u64.wrap (Int.tdiv z1 2)) (IntKind.i64.wrap (z2 + 1)) z7 true ((Int.tmod z1 2) == 1) w) (h12 (IntKind.u64.wrap (Int.tdiv z1 2)) (IntKind.i64.wrap (z2 + 1)) z7 z9 ((Int.tmod z1 2) == 1) w)) (br (decide (z2 < (-1074))) (br z8 (h12 (IntKind.u64.wrap (Int.tdiv z1 2)) (IntKind.i64.wrap (z2 + 1)) z7 true ((Int.tmod z1 2) == 1) w) (h12 (IntKind.u64.wrap (Int.tdiv z1 2)) (IntKind.i64.wrap (z2 + 1)) z7 z9 ((Int.tmod z1 2) == 1) w)) (br z9 (br z8 (h19 (IntKind.u64.wrap (z1 + 1)) z2 z7 w) (br ((Int.tmod z1 2) == 1) (h19 (IntKind.u64.wrap (z1 + 1)) z2 z7 w) (h19 z1 z2 z7 w))) (h19 z1 z2 z7 w)))
def straightedgeref01_Make.b19 (K : Value → World → Prop) (h8 : Int → Int → Int → World → Prop) (h12 : Int → Int → Int → Bool → Bool → World → Prop) (h19 : Int → Int → Int → World → Prop) (z1 : Int) (z2 : Int) (z7 : Int) (w : World) : Prop := br (z1 == 9007199254740992) (br (decide ((IntKind.i64.wrap ((IntKind.i64.wrap (z2 + 1)) + 1075)) ≥ 2047)) (math_Float64frombits.call [(.int .u64 (IntKind.u64.wrap (z7 + 9218868437227405312)))] w fun v1 w2 => ∃ x3 : Nat, v1 = (.float .f64 x3) ∧ K (.float .f64 x3) w2) (br (decide ((IntKind.u64.wrap (Int.tdiv z1 2)) < 4503599627370496)) (math_Float64frombits.call [(.int .u64 (IntKind.u64.wrap (z7 + (IntKind.u64.wrap (Int.tdiv z1 2)))))] w fun v4 w5 => ∃ x6 : Nat, v4 = (.float .f64 x6) ∧ K (.float .f64 x6) w5) (math_Float64frombits.call [(.int .u64 (IntKind.u64.wrap ((IntKind.u64.wrap ((IntKind.u64.wrap (z7 + (IntKind.u64.wrap ((IntKind.u64.wrap ((IntKind.i64.wrap ((IntKind.i64.wrap (z2 + 1)) + 1075)))) * 2 ^ (shiftN .u64 52))))) + (IntKind.u64.wrap (Int.tdiv z1 2)))) - 4503599627370496)))] w fun v7 w8 => ∃ x9 : Nat, v7 = (.float .f64 x9) ∧ K (.float .f64 x9) w8))) (br (decide ((IntKind.i64.wrap (z2 + 1075)) ≥ 2047)) (math_Float64frombits.call [(.int .u64 (IntKind.u64.wrap (z7 + 9218868437227405312)))] w fun v10 w11 => ∃ x12 : Nat, v10 = (.float .f64 x12) ∧ K (.float .f64 x12) w11) (br (decide (z1 < 4503599627370496)) (math_Float64frombits.call [(.int .u64 (IntKind.u64.wrap (z7 + z1)))] w fun v13 w14 => ∃ x15 : Nat, v13 = (.float .f64 x15) ∧ K (.float .f64 x15) w14) (math_Float64frombits.call [(.int .u64 (IntKind.u64.wrap ((IntKind.u64.wrap ((IntKind.u64.wrap (z7 + (IntKind.u64.wrap ((IntKind.u64.wrap ((IntKind.i64.wrap (z2 + 1075)))) * 2 ^ (shiftN .u64 52))))) + z1)) - 4503599627370496)))] w fun v16 w17 => ∃ x18 : Nat, v16 = (.float .f64 x18) ∧ K (.float .f64 x18) w17)))
def straightedgeref01_Make.H (K : Value → World → Prop) : Nat → (Int → Int → Int → World → Prop) × (Int → Int → Int → Bool → Bool → World → Prop) × (Int → Int → Int → World → Prop)
  | 0 => (fun _ _ _ _ => False, fun _ _ _ _ _ _ => False, fun _ _ _ _ => False)
  | fu + 1 => (straightedgeref01_Make.b8 K (straightedgeref01_Make.H K fu).1 (straightedgeref01_Make.H K fu).2.1 (straightedgeref01_Make.H K fu).2.2, straightedgeref01_Make.b12 K (straightedgeref01_Make.H K fu).1 (straightedgeref01_Make.H K fu).2.1 (straightedgeref01_Make.H K fu).2.2, straightedgeref01_Make.b19 K (straightedgeref01_Make.H K fu).1 (straightedgeref01_Make.H K fu).2.1 (straightedgeref01_Make.H K fu).2.2)
def straightedgeref01_Make.x (fu : Nat) (A0 : Bool) (A1 : Int) (A2 : Int) (w : World) (K : Value → World → Prop) : Prop := br A0 (br (A1 == 0) (math_Float64frombits.call [(.int .u64 9223372036854775808)] w fun v1 w2 => ∃ x3 : Nat, v1 = (.float .f64 x3) ∧ K (.float .f64 x3) w2) (br (decide (A2 < (-1200))) (math_Float64frombits.call [(.int .u64 9223372036854775808)] w fun v4 w5 => ∃ x6 : Nat, v4 = (.float .f64 x6) ∧ K (.float .f64 x6) w5) (br (decide (A2 > 2000)) (math_Float64frombits.call [(.int .u64 18442240474082181120)] w fun v7 w8 => ∃ x9 : Nat, v7 = (.float .f64 x9) ∧ K (.float .f64 x9) w8) ((straightedgeref01_Make.H K fu).1 A1 A2 9223372036854775808 w)))) (br (A1 == 0) (math_Float64frombits.call [(.int .u64 0)] w fun v10 w11 => ∃ x12 : Nat, v10 = (.float .f64 x12) ∧ K (.float .f64 x12) w11) (br (decide (A2 < (-1200))) (math_Float64frombits.call [(.int .u64 0)] w fun v13 w14 => ∃ x15 : Nat, v13 = (.float .f64 x15) ∧ K (.float .f64 x15) w14) (br (decide (A2 > 2000)) (math_Float64frombits.call [(.int .u64 9218868437227405312)] w fun v16 w17 => ∃ x18 : Nat, v16 = (.float .f64 x18) ∧ K (.float .f64 x18) w17) ((straightedgeref01_Make.H K fu).1 A1 A2 0 w))))
def straightedgeref01_Make.hd (K : Value → World → Prop) (n id : Nat) (t : List Value) (w : World) : Prop :=
  match id with
  | 8 => asI .u64 (t.getD 1 undef) fun z1 => asI .i64 (t.getD 2 undef) fun z2 => asI .u64 (t.getD 7 undef) fun z7 => (straightedgeref01_Make.H K n).1 z1 z2 z7 w
  | 12 => asI .u64 (t.getD 1 undef) fun z1 => asI .i64 (t.getD 2 undef) fun z2 => asI .u64 (t.getD 7 undef) fun z7 => asB (t.getD 8 undef) fun z8 => asB (t.getD 9 undef) fun z9 => (straightedgeref01_Make.H K n).2.1 z1 z2 z7 z8 z9 w
  | 19 => asI .u64 (t.getD 1 undef) fun z1 => asI .i64 (t.getD 2 undef) fun z2 => asI .u64 (t.getD 7 undef) fun z7 => (straightedgeref01_Make.H K n).2.2 z1 z2 z7 w
  | _ => False
theorem straightedgeref01_Make.t8 (K : Value → World → Prop) (n : Nat) (z1 : Int) (z2 : Int) (z7 : Int) (u : Nat → Value) (w : World) (h : (straightedgeref01_Make.H K (n + 1)).1 z1 z2 z7 w) :
    exT prog [8, 12, 19] (straightedgeref01_Make.hd K n) Tryd.f62 8 90 [(1, (.int .u64 z1)), (2, (.int .i64 z2)), (7, (.int .u64 z7))] u w K := Eq.mp (by kernel_rfl) h
theorem straightedgeref01_Make.t12 (K : Value → World → Prop) (n : Nat) (z1 : Int) (z2 : Int) (z7 : Int) (z8 : Bool) (z9 : Bool) (u : Nat → Value) (w : World) (h : (straightedgeref01_Make.H K (n + 1)).2.1 z1 z2 z7 z8 z9 w) :
    exT prog [8, 12, 19] (straightedgeref01_Make.hd K n) Tryd.f62 12 90 [(1, (.int .u64 z1)), (2, (.int .i64 z2)), (7, (.int .u64 z7)), (8, (.bool z8)), (9, (.bool z9))] u w K := Eq.mp (by kernel_rfl) h
theorem straightedgeref01_Make.t19 (K : Value → World → Prop) (n : Nat) (z1 : Int) (z2 : Int) (z7 : Int) (u : Nat → Value) (w : World) (h : (straightedgeref01_Make.H K (n + 1)).2.2 z1 z2 z7 w) :
    exT prog [8, 12, 19] (straightedgeref01_Make.hd K n) Tryd.f62 19 90 [(1, (.int .u64 z1)), (2, (.int .i64 z2)), (7, (.int .u64 z7))] u w K := Eq.mp (by kernel_rfl) h
theorem straightedgeref01_Make.ok (fu : Nat) {A0 : Bool} {A1 : Int} {A2 : Int} {w : World} {K : Value → World → Prop} (h : straightedgeref01_Make.x fu A0 A1 A2 w K) : straightedgeref01_Make.call [(.bool A0), (.int .u64 A1), (.int .i64 A2)] w K := by
  refine callF_of_ex (cuts := [8, 12, 19]) (H := straightedgeref01_Make.hd K) (N := 90) Tryd.func62 rfl mixed (by kernel_rfl) ?_ ?_ ?_ rfl (n := fu) (Eq.mp (by kernel_rfl) h)
  · intro id hid; simp only [List.mem_cons, List.not_mem_nil, or_false] at hid; rcases hid with rfl | rfl | rfl
    · exact (by kernel_rfl : (stacks (bodyOf Tryd.f62) []).filter (headIs 8) = [at_ (bodyOf Tryd.f62) 8])
    · exact (by kernel_rfl : (stacks (bodyOf Tryd.f62) []).filter (headIs 12) = [at_ (bodyOf Tryd.f62) 12])
    · exact (by kernel_rfl : (stacks (bodyOf Tryd.f62) []).filter (headIs 19) = [at_ (bodyOf Tryd.f62) 19])
  · intro id t w h
    unfold straightedgeref01_Make.hd at h
    split at h
    · obtain ⟨z1, _, h⟩ := asI_elim h
      obtain ⟨z2, _, h⟩ := asI_elim h
      obtain ⟨z7, _, h⟩ := asI_elim h
      exact h
    · obtain ⟨z1, _, h⟩ := asI_elim h
      obtain ⟨z2, _, h⟩ := asI_elim h
      obtain ⟨z7, _, h⟩ := asI_elim h
      obtain ⟨z8, _, h⟩ := asB_elim h
      obtain ⟨z9, _, h⟩ := asB_elim h
      exact h
    · obtain ⟨z1, _, h⟩ := asI_elim h
      obtain ⟨z2, _, h⟩ := asI_elim h
      obtain ⟨z7, _, h⟩ := asI_elim h
      exact h
    · exact h
  · intro n id hid t w hl h; simp only [List.mem_cons, List.not_mem_nil, or_false] at hid; rcases hid with rfl | rfl | rfl
    · replace h : asI .u64 (t.getD 1 undef) fun z1 => asI .i64 (t.getD 2 undef) fun z2 => asI .u64 (t.getD 7 undef) fun z7 => (straightedgeref01_Make.H K (n + 1)).1 z1 z2 z7 w := h
      obtain ⟨z1, e1, h⟩ := asI_elim h
      obtain ⟨z2, e2, h⟩ := asI_elim h
      obtain ⟨z7, e7, h⟩ := asI_elim h
      rw [mk_of hl [(1, (.int .u64 z1)), (2, (.int .i64 z2)), (7, (.int .u64 z7))] (by simp only [List.forall_mem_cons, List.not_mem_nil, false_implies, implies_true, and_true]; exact ⟨e1, e2, e7⟩)]
      exact straightedgeref01_Make.t8 K n z1 z2 z7 _ w h
    · replace h : asI .u64 (t.getD 1 undef) fun z1 => asI .i64 (t.getD 2 undef) fun z2 => asI .u64 (t.getD 7 undef) fun z7 => asB (t.getD 8 undef) fun z8 => asB (t.getD 9 undef) fun z9 => (straightedgeref01_Make.H K (n + 1)).2.1 z1 z2 z7 z8 z9 w := h
      obtain ⟨z1, e1, h⟩ := asI_elim h
      obtain ⟨z2, e2, h⟩ := asI_elim h
      obtain ⟨z7, e7, h⟩ := asI_elim h
      obtain ⟨z8, e8, h⟩ := asB_elim h
      obtain ⟨z9, e9, h⟩ := asB_elim h
      rw [mk_of hl [(1, (.int .u64 z1)), (2, (.int .i64 z2)), (7, (.int .u64 z7)), (8, (.bool z8)), (9, (.bool z9))] (by simp only [List.forall_mem_cons, List.not_mem_nil, false_implies, implies_true, and_true]; exact ⟨e1, e2, e7, e8, e9⟩)]
      exact straightedgeref01_Make.t12 K n z1 z2 z7 z8 z9 _ w h
    · replace h : asI .u64 (t.getD 1 undef) fun z1 => asI .i64 (t.getD 2 undef) fun z2 => asI .u64 (t.getD 7 undef) fun z7 => (straightedgeref01_Make.H K (n + 1)).2.2 z1 z2 z7 w := h
      obtain ⟨z1, e1, h⟩ := asI_elim h
      obtain ⟨z2, e2, h⟩ := asI_elim h
      obtain ⟨z7, e7, h⟩ := asI_elim h
      rw [mk_of hl [(1, (.int .u64 z1)), (2, (.int .i64 z2)), (7, (.int .u64 z7))] (by simp only [List.forall_mem_cons, List.not_mem_nil, false_implies, implies_true, and_true]; exact ⟨e1, e2, e7⟩)]
      exact straightedgeref01_Make.t19 K n z1 z2 z7 _ w h

/-! ### straightedge/straightedgeref01.Abs: function 143 -/
def straightedgeref01_Abs.x (A0 : Nat) (w : World) (K : Value → World → Prop) : Prop := math_Float64bits.call [(.float .f64 A0)] w fun v1 w2 => ∃ i3 : Int, v1 = (.int .u64 i3) ∧ math_Float64frombits.call [(.int .u64 (Int.tmod i3 9223372036854775808))] w2 fun v4 w5 => ∃ x6 : Nat, v4 = (.float .f64 x6) ∧ K (.float .f64 x6) w5
theorem straightedgeref01_Abs.ok {A0 : Nat} {w : World} {K : Value → World → Prop} (h : straightedgeref01_Abs.x A0 w K) : straightedgeref01_Abs.call [(.float .f64 A0)] w K :=
  callF_of_ex0 (f := Tryd.f143) Tryd.func143 rfl mixed (by kernel_rfl) (Eq.mp (by kernel_rfl) h)

end Go.Proofs.YtgdkahbnepafgaaDoor
