/- A part of the proof. -/
import Derived.Test.YtgdkahbnepafgaaG0
set_option linter.unusedVariables false

/-! ### AGref02 -/
/- The explicit forms of the functions of one package, and that the calls do what they say. Written by wip/tools/wk.py. -/
set_option maxRecDepth 100000
set_option linter.unusedVariables false
namespace Go.Proofs.Ytgdkahbnepafgaa
open Go Go.Wk

/-! ### straightedge/straightedgeref02.Of: function 17 -/
def straightedgeref02_Of.x (A0 : Nat) (w : World) (K : Value → World → Prop) : Prop := newB [(.bool false), (.slice none 0 0), (.int .i64 0)] 45 w fun q1 w2 => straightedgeref01_Parts.call [(.float .f64 A0)] w2 fun v3 w4 => ∃ b5 : Bool, ∃ i6 : Int, ∃ i7 : Int, ∃ i8 : Int, v3 = (.tuple ⟨[(.bool b5), (.int .u64 i6), (.int .i64 i7), (.int .i64 i8)]⟩) ∧ straightedgeref02_Whole.call [(.bool b5), (.int .u64 i6)] w4 fun v9 w10 => ∃ b11 : Bool, ∃ (a12 : Option Addr) (n13 c14 : Nat), ∃ i15 : Int, v9 = (.agg ⟨[(.bool b11), (.slice a12 n13 c14), (.int .i64 i15)]⟩) ∧ straightedgeref02_D_Shift.call [(.agg ⟨[(.bool b11), (.slice a12 n13 c14), (.int .i64 i15)]⟩), (.int .i64 i7)] w10 fun v16 w17 => ∃ b18 : Bool, ∃ (a19 : Option Addr) (n20 c21 : Nat), ∃ i22 : Int, v16 = (.agg ⟨[(.bool b18), (.slice a19 n20 c21), (.int .i64 i22)]⟩) ∧ (w17.cell? q1).isSome = true ∧ w17.frozen? q1 = false ∧ ((w17.setCell q1 (.bool b18)).cell? (q1.add 1)).isSome = true ∧ (w17.setCell q1 (.bool b18)).frozen? (q1.add 1) = false ∧ (((w17.setCell q1 (.bool b18)).setCell (q1.add 1) (.slice a19 n20 c21)).cell? (q1.add 2)).isSome = true ∧ ((w17.setCell q1 (.bool b18)).setCell (q1.add 1) (.slice a19 n20 c21)).frozen? (q1.add 2) = false ∧ ∃ b23 : Bool, ∃ (a24 : Option Addr) (n25 c26 : Nat), ∃ i27 : Int, (((w17.setCell q1 (.bool b18)).setCell (q1.add 1) (.slice a19 n20 c21)).setCell (q1.add 2) (.int .i64 i22)).cell? q1 = some (.bool b23) ∧ (((w17.setCell q1 (.bool b18)).setCell (q1.add 1) (.slice a19 n20 c21)).setCell (q1.add 2) (.int .i64 i22)).cell? (q1.add 1) = some (.slice a24 n25 c26) ∧ (((w17.setCell q1 (.bool b18)).setCell (q1.add 1) (.slice a19 n20 c21)).setCell (q1.add 2) (.int .i64 i22)).cell? (q1.add 2) = some (.int .i64 i27) ∧ K (.agg ⟨[(.bool b23), (.slice a24 n25 c26), (.int .i64 i27)]⟩) (((w17.setCell q1 (.bool b18)).setCell (q1.add 1) (.slice a19 n20 c21)).setCell (q1.add 2) (.int .i64 i22))
theorem straightedgeref02_Of.ok {A0 : Nat} {w : World} {K : Value → World → Prop} (h : straightedgeref02_Of.x A0 w K) : straightedgeref02_Of.call [(.float .f64 A0)] w K :=
  callF_of_ex0 (f := Try.f17) Try.func17 rfl mixed (by kernel_rfl) (Eq.mp (by kernel_rfl) h)

/-! ### (straightedge/straightedgeref02.D).Mul: function 19 -/
def straightedgeref02_D_Mul.b3 (K : Value → World → Prop) (h3 : Option Addr → Option Addr → Option Addr → Option Addr → Nat → Nat → Int → World → Prop) (h7 : Option Addr → Option Addr → Option Addr → Option Addr → Nat → Nat → Int → Int → Int → World → Prop) (h13 : Option Addr → Option Addr → Option Addr → Option Addr → Nat → Nat → Int → Int → Int → World → Prop) (z2 : Option Addr) (z3 : Option Addr) (z4 : Option Addr) (z5p : Option Addr) (z5n z5c : Nat) (z6 : Int) (w : World) : Prop := ptrSome z2 fun q1 => ∃ (a2 : Option Addr) (n3 c4 : Nat), w.cell? (q1.add 1) = some (.slice a2 n3 c4) ∧ br (decide (z6 < ((n3 : Nat) : Int))) (h7 z2 z3 z4 z5p z5n z5c z6 0 0 w) (ptrSome z2 fun q5 => ∃ b6 : Bool, w.cell? q5 = some (.bool b6) ∧ ptrSome z3 fun q7 => ∃ b8 : Bool, w.cell? q7 = some (.bool b8) ∧ ptrSome z2 fun q9 => ∃ i10 : Int, w.cell? (q9.add 2) = some (.int .i64 i10) ∧ ptrSome z3 fun q11 => ∃ i12 : Int, w.cell? (q11.add 2) = some (.int .i64 i12) ∧ straightedgeref02_Made.call [(.bool (!(b6 == b8))), (.slice z5p z5n z5c), (.int .i64 (IntKind.i64.wrap (i10 + i12)))] w fun v13 w14 => ∃ b15 : Bool, ∃ (a16 : Option Addr) (n17 c18 : Nat), ∃ i19 : Int, v13 = (.agg ⟨[(.bool b15), (.slice a16 n17 c18), (.int .i64 i19)]⟩) ∧ ptrSome z4 fun q20 => (w14.cell? q20).isSome = true ∧ w14.frozen? q20 = false ∧ ((w14.setCell q20 (.bool b15)).cell? (q20.add 1)).isSome = true ∧ (w14.setCell q20 (.bool b15)).frozen? (q20.add 1) = false ∧ (((w14.setCell q20 (.bool b15)).setCell (q20.add 1) (.slice a16 n17 c18)).cell? (q20.add 2)).isSome = true ∧ ((w14.setCell q20 (.bool b15)).setCell (q20.add 1) (.slice a16 n17 c18)).frozen? (q20.add 2) = false ∧ ptrSome z4 fun q21 => ∃ b22 : Bool, ∃ (a23 : Option Addr) (n24 c25 : Nat), ∃ i26 : Int, (((w14.setCell q20 (.bool b15)).setCell (q20.add 1) (.slice a16 n17 c18)).setCell (q20.add 2) (.int .i64 i19)).cell? q21 = some (.bool b22) ∧ (((w14.setCell q20 (.bool b15)).setCell (q20.add 1) (.slice a16 n17 c18)).setCell (q20.add 2) (.int .i64 i19)).cell? (q21.add 1) = some (.slice a23 n24 c25) ∧ (((w14.setCell q20 (.bool b15)).setCell (q20.add 1) (.slice a16 n17 c18)).setCell (q20.add 2) (.int .i64 i19)).cell? (q21.add 2) = some (.int .i64 i26) ∧ K (.agg ⟨[(.bool b22), (.slice a23 n24 c25), (.int .i64 i26)]⟩) (((w14.setCell q20 (.bool b15)).setCell (q20.add 1) (.slice a16 n17 c18)).setCell (q20.add 2) (.int .i64 i19)))
def straightedgeref02_D_Mul.b7 (K : Value → World → Prop) (h3 : Option Addr → Option Addr → Option Addr → Option Addr → Nat → Nat → Int → World → Prop) (h7 : Option Addr → Option Addr → Option Addr → Option Addr → Nat → Nat → Int → Int → Int → World → Prop) (h13 : Option Addr → Option Addr → Option Addr → Option Addr → Nat → Nat → Int → Int → Int → World → Prop) (z2 : Option Addr) (z3 : Option Addr) (z4 : Option Addr) (z5p : Option Addr) (z5n z5c : Nat) (z6 : Int) (z7 : Int) (z8 : Int) (w : World) : Prop := ptrSome z3 fun q1 => ∃ (a2 : Option Addr) (n3 c4 : Nat), w.cell? (q1.add 1) = some (.slice a2 n3 c4) ∧ br (decide (z8 < ((n3 : Nat) : Int))) (ptrSome z2 fun q5 => ∃ (a6 : Option Addr) (n7 c8 : Nat), w.drew.cell? (q5.add 1) = some (.slice a6 n7 c8) ∧ ptrSome a6 fun q9 => (0 : Int) ≤ z6 ∧ z6 < ((n7 : Nat) : Int) ∧ ∃ i10 : Int, w.drew.cell? (q9.add (Int.toNat z6)) = some (.int .i64 i10) ∧ ptrSome z3 fun q11 => ∃ (a12 : Option Addr) (n13 c14 : Nat), w.drew.cell? (q11.add 1) = some (.slice a12 n13 c14) ∧ ptrSome a12 fun q15 => (0 : Int) ≤ z8 ∧ z8 < ((n13 : Nat) : Int) ∧ ∃ i16 : Int, w.drew.cell? (q15.add (Int.toNat z8)) = some (.int .i64 i16) ∧ ptrSome z5p fun q17 => (0 : Int) ≤ (IntKind.i64.wrap (z6 + z8)) ∧ (IntKind.i64.wrap (z6 + z8)) < ((z5n : Nat) : Int) ∧ ∃ i18 : Int, w.drew.cell? (q17.add (Int.toNat (IntKind.i64.wrap (z6 + z8)))) = some (.int .i64 i18) ∧ ptrSome z5p fun q19 => (0 : Int) ≤ (IntKind.i64.wrap (z6 + z8)) ∧ (IntKind.i64.wrap (z6 + z8)) < ((z5n : Nat) : Int) ∧ (w.drew.cell? (q19.add (Int.toNat (IntKind.i64.wrap (z6 + z8))))).isSome = true ∧ w.drew.frozen? (q19.add (Int.toNat (IntKind.i64.wrap (z6 + z8)))) = false ∧ h7 z2 z3 z4 z5p z5n z5c z6 (IntKind.i64.wrap (Int.tdiv (IntKind.i64.wrap ((IntKind.i64.wrap (z7 + (IntKind.i64.wrap (i10 * i16)))) + i18)) 65536)) (IntKind.i64.wrap (z8 + 1)) (w.drew.setCell (q19.add (Int.toNat (IntKind.i64.wrap (z6 + z8)))) (.int .i64 (Int.tmod (IntKind.i64.wrap ((IntKind.i64.wrap (z7 + (IntKind.i64.wrap (i10 * i16)))) + i18)) 65536)))) (ptrSome z3 fun q20 => ∃ (a21 : Option Addr) (n22 c23 : Nat), w.cell? (q20.add 1) = some (.slice a21 n22 c23) ∧ h13 z2 z3 z4 z5p z5n z5c z6 z7 (IntKind.i64.wrap (z6 + ((n22 : Nat) : Int))) w)
def straightedgeref02_D_Mul.b13 (K : Value → World → Prop) (h3 : Option Addr → Option Addr → Option Addr → Option Addr → Nat → Nat → Int → World → Prop) (h7 : Option Addr → Option Addr → Option Addr → Option Addr → Nat → Nat → Int → Int → Int → World → Prop) (h13 : Option Addr → Option Addr → Option Addr → Option Addr → Nat → Nat → Int → Int → Int → World → Prop) (z2 : Option Addr) (z3 : Option Addr) (z4 : Option Addr) (z5p : Option Addr) (z5n z5c : Nat) (z6 : Int) (z7 : Int) (z9 : Int) (w : World) : Prop := br (decide (z7 > 0)) (ptrSome z5p fun q1 => (0 : Int) ≤ z9 ∧ z9 < ((z5n : Nat) : Int) ∧ ∃ i2 : Int, w.cell? (q1.add (Int.toNat z9)) = some (.int .i64 i2) ∧ ptrSome z5p fun q3 => (0 : Int) ≤ z9 ∧ z9 < ((z5n : Nat) : Int) ∧ (w.cell? (q3.add (Int.toNat z9))).isSome = true ∧ w.frozen? (q3.add (Int.toNat z9)) = false ∧ h13 z2 z3 z4 z5p z5n z5c z6 (IntKind.i64.wrap (Int.tdiv (IntKind.i64.wrap (z7 + i2)) 65536)) (IntKind.i64.wrap (z9 + 1)) (w.setCell (q3.add (Int.toNat z9)) (.int .i64 (Int.tmod (IntKind.i64.wrap (z7 + i2)) 65536)))) (h3 z2 z3 z4 z5p z5n z5c (IntKind.i64.wrap (z6 + 1)) w)
def straightedgeref02_D_Mul.H (K : Value → World → Prop) : Nat → (Option Addr → Option Addr → Option Addr → Option Addr → Nat → Nat → Int → World → Prop) × (Option Addr → Option Addr → Option Addr → Option Addr → Nat → Nat → Int → Int → Int → World → Prop) × (Option Addr → Option Addr → Option Addr → Option Addr → Nat → Nat → Int → Int → Int → World → Prop)
  | 0 => (fun _ _ _ _ _ _ _ _ => False, fun _ _ _ _ _ _ _ _ _ _ => False, fun _ _ _ _ _ _ _ _ _ _ => False)
  | fu + 1 => (straightedgeref02_D_Mul.b3 K (straightedgeref02_D_Mul.H K fu).1 (straightedgeref02_D_Mul.H K fu).2.1 (straightedgeref02_D_Mul.H K fu).2.2, straightedgeref02_D_Mul.b7 K (straightedgeref02_D_Mul.H K fu).1 (straightedgeref02_D_Mul.H K fu).2.1 (straightedgeref02_D_Mul.H K fu).2.2, straightedgeref02_D_Mul.b13 K (straightedgeref02_D_Mul.H K fu).1 (straightedgeref02_D_Mul.H K fu).2.1 (straightedgeref02_D_Mul.H K fu).2.2)
def straightedgeref02_D_Mul.x (fu : Nat) (A0_0 : Bool) (A0_1p : Option Addr) (A0_1n A0_1c : Nat) (A0_2 : Int) (A1_0 : Bool) (A1_1p : Option Addr) (A1_1n A1_1c : Nat) (A1_2 : Int) (w : World) (K : Value → World → Prop) : Prop := newB [(.bool A0_0), (.slice A0_1p A0_1n A0_1c), (.int .i64 A0_2)] 45 w fun q1 w2 => newB [(.bool A1_0), (.slice A1_1p A1_1n A1_1c), (.int .i64 A1_2)] 45 w2 fun q3 w4 => newB [(.bool false), (.slice none 0 0), (.int .i64 0)] 45 w4 fun q5 w6 => ∃ (a7 : Option Addr) (n8 c9 : Nat), w6.cell? (q1.add 1) = some (.slice a7 n8 c9) ∧ ∃ (a10 : Option Addr) (n11 c12 : Nat), w6.cell? (q3.add 1) = some (.slice a10 n11 c12) ∧ (0 : Int) ≤ (IntKind.i64.wrap ((IntKind.i64.wrap (((n8 : Nat) : Int) + ((n11 : Nat) : Int))) + 1)) ∧ ((IntKind.i64.wrap ((IntKind.i64.wrap (((n8 : Nat) : Int) + ((n11 : Nat) : Int))) + 1)) : Int) ≤ (IntKind.i64.wrap ((IntKind.i64.wrap (((n8 : Nat) : Int) + ((n11 : Nat) : Int))) + 1)) ∧ ((8 : Nat) : Int) * (IntKind.i64.wrap ((IntKind.i64.wrap (((n8 : Nat) : Int) + ((n11 : Nat) : Int))) + 1)) ≤ 281474976710656 ∧ (IntKind.i64.wrap ((IntKind.i64.wrap (((n8 : Nat) : Int) + ((n11 : Nat) : Int))) + 1)) ≤ 9223372036854775807 ∧ newB ((List.range (Int.toNat (IntKind.i64.wrap ((IntKind.i64.wrap (((n8 : Nat) : Int) + ((n11 : Nat) : Int))) + 1)))).map fun j => List.getD [(.int .i64 0)] (j % 1) default) 3 w6 fun q13 w14 => (straightedgeref02_D_Mul.H K fu).1 (some q1) (some q3) (some q5) (some q13) (Int.toNat (IntKind.i64.wrap ((IntKind.i64.wrap (((n8 : Nat) : Int) + ((n11 : Nat) : Int))) + 1))) (Int.toNat (IntKind.i64.wrap ((IntKind.i64.wrap (((n8 : Nat) : Int) + ((n11 : Nat) : Int))) + 1))) 0 w14
def straightedgeref02_D_Mul.hd (K : Value → World → Prop) (n id : Nat) (t : List Value) (w : World) : Prop :=
  match id with
  | 3 => asP (t.getD 2 undef) fun z2 => asP (t.getD 3 undef) fun z3 => asP (t.getD 4 undef) fun z4 => asL (t.getD 5 undef) fun z5p z5n z5c => asI .i64 (t.getD 6 undef) fun z6 => (straightedgeref02_D_Mul.H K n).1 z2 z3 z4 z5p z5n z5c z6 w
  | 7 => asP (t.getD 2 undef) fun z2 => asP (t.getD 3 undef) fun z3 => asP (t.getD 4 undef) fun z4 => asL (t.getD 5 undef) fun z5p z5n z5c => asI .i64 (t.getD 6 undef) fun z6 => asI .i64 (t.getD 7 undef) fun z7 => asI .i64 (t.getD 8 undef) fun z8 => (straightedgeref02_D_Mul.H K n).2.1 z2 z3 z4 z5p z5n z5c z6 z7 z8 w
  | 13 => asP (t.getD 2 undef) fun z2 => asP (t.getD 3 undef) fun z3 => asP (t.getD 4 undef) fun z4 => asL (t.getD 5 undef) fun z5p z5n z5c => asI .i64 (t.getD 6 undef) fun z6 => asI .i64 (t.getD 7 undef) fun z7 => asI .i64 (t.getD 9 undef) fun z9 => (straightedgeref02_D_Mul.H K n).2.2 z2 z3 z4 z5p z5n z5c z6 z7 z9 w
  | _ => False
theorem straightedgeref02_D_Mul.t3 (K : Value → World → Prop) (n : Nat) (z2 : Option Addr) (z3 : Option Addr) (z4 : Option Addr) (z5p : Option Addr) (z5n z5c : Nat) (z6 : Int) (u : Nat → Value) (w : World) (h : (straightedgeref02_D_Mul.H K (n + 1)).1 z2 z3 z4 z5p z5n z5c z6 w) :
    exT prog [3, 7, 13] (straightedgeref02_D_Mul.hd K n) Try.f19 3 96 [(2, (.pointer z2)), (3, (.pointer z3)), (4, (.pointer z4)), (5, (.slice z5p z5n z5c)), (6, (.int .i64 z6))] u w K := Eq.mp (by kernel_rfl) h
theorem straightedgeref02_D_Mul.t7 (K : Value → World → Prop) (n : Nat) (z2 : Option Addr) (z3 : Option Addr) (z4 : Option Addr) (z5p : Option Addr) (z5n z5c : Nat) (z6 : Int) (z7 : Int) (z8 : Int) (u : Nat → Value) (w : World) (h : (straightedgeref02_D_Mul.H K (n + 1)).2.1 z2 z3 z4 z5p z5n z5c z6 z7 z8 w) :
    exT prog [3, 7, 13] (straightedgeref02_D_Mul.hd K n) Try.f19 7 96 [(2, (.pointer z2)), (3, (.pointer z3)), (4, (.pointer z4)), (5, (.slice z5p z5n z5c)), (6, (.int .i64 z6)), (7, (.int .i64 z7)), (8, (.int .i64 z8))] u w K := Eq.mp (by kernel_rfl) h
theorem straightedgeref02_D_Mul.t13 (K : Value → World → Prop) (n : Nat) (z2 : Option Addr) (z3 : Option Addr) (z4 : Option Addr) (z5p : Option Addr) (z5n z5c : Nat) (z6 : Int) (z7 : Int) (z9 : Int) (u : Nat → Value) (w : World) (h : (straightedgeref02_D_Mul.H K (n + 1)).2.2 z2 z3 z4 z5p z5n z5c z6 z7 z9 w) :
    exT prog [3, 7, 13] (straightedgeref02_D_Mul.hd K n) Try.f19 13 96 [(2, (.pointer z2)), (3, (.pointer z3)), (4, (.pointer z4)), (5, (.slice z5p z5n z5c)), (6, (.int .i64 z6)), (7, (.int .i64 z7)), (9, (.int .i64 z9))] u w K := Eq.mp (by kernel_rfl) h
theorem straightedgeref02_D_Mul.ok (fu : Nat) {A0_0 : Bool} {A0_1p : Option Addr} {A0_1n A0_1c : Nat} {A0_2 : Int} {A1_0 : Bool} {A1_1p : Option Addr} {A1_1n A1_1c : Nat} {A1_2 : Int} {w : World} {K : Value → World → Prop} (h : straightedgeref02_D_Mul.x fu A0_0 A0_1p A0_1n A0_1c A0_2 A1_0 A1_1p A1_1n A1_1c A1_2 w K) : straightedgeref02_D_Mul.call [(.agg ⟨[(.bool A0_0), (.slice A0_1p A0_1n A0_1c), (.int .i64 A0_2)]⟩), (.agg ⟨[(.bool A1_0), (.slice A1_1p A1_1n A1_1c), (.int .i64 A1_2)]⟩)] w K := by
  refine callF_of_ex (cuts := [3, 7, 13]) (H := straightedgeref02_D_Mul.hd K) (N := 96) Try.func19 rfl mixed (by kernel_rfl) ?_ ?_ ?_ rfl (n := fu) (Eq.mp (by kernel_rfl) h)
  · intro id hid; simp only [List.mem_cons, List.not_mem_nil, or_false] at hid; rcases hid with rfl | rfl | rfl
    · exact (by kernel_rfl : (stacks (bodyOf Try.f19) []).filter (headIs 3) = [at_ (bodyOf Try.f19) 3])
    · exact (by kernel_rfl : (stacks (bodyOf Try.f19) []).filter (headIs 7) = [at_ (bodyOf Try.f19) 7])
    · exact (by kernel_rfl : (stacks (bodyOf Try.f19) []).filter (headIs 13) = [at_ (bodyOf Try.f19) 13])
  · intro id t w h
    unfold straightedgeref02_D_Mul.hd at h
    split at h
    · obtain ⟨z2, _, h⟩ := asP_elim h
      obtain ⟨z3, _, h⟩ := asP_elim h
      obtain ⟨z4, _, h⟩ := asP_elim h
      obtain ⟨z5p, z5n, z5c, _, h⟩ := asL_elim h
      obtain ⟨z6, _, h⟩ := asI_elim h
      exact h
    · obtain ⟨z2, _, h⟩ := asP_elim h
      obtain ⟨z3, _, h⟩ := asP_elim h
      obtain ⟨z4, _, h⟩ := asP_elim h
      obtain ⟨z5p, z5n, z5c, _, h⟩ := asL_elim h
      obtain ⟨z6, _, h⟩ := asI_elim h
      obtain ⟨z7, _, h⟩ := asI_elim h
      obtain ⟨z8, _, h⟩ := asI_elim h
      exact h
    · obtain ⟨z2, _, h⟩ := asP_elim h
      obtain ⟨z3, _, h⟩ := asP_elim h
      obtain ⟨z4, _, h⟩ := asP_elim h
      obtain ⟨z5p, z5n, z5c, _, h⟩ := asL_elim h
      obtain ⟨z6, _, h⟩ := asI_elim h
      obtain ⟨z7, _, h⟩ := asI_elim h
      obtain ⟨z9, _, h⟩ := asI_elim h
      exact h
    · exact h
  · intro n id hid t w hl h; simp only [List.mem_cons, List.not_mem_nil, or_false] at hid; rcases hid with rfl | rfl | rfl
    · replace h : asP (t.getD 2 undef) fun z2 => asP (t.getD 3 undef) fun z3 => asP (t.getD 4 undef) fun z4 => asL (t.getD 5 undef) fun z5p z5n z5c => asI .i64 (t.getD 6 undef) fun z6 => (straightedgeref02_D_Mul.H K (n + 1)).1 z2 z3 z4 z5p z5n z5c z6 w := h
      obtain ⟨z2, e2, h⟩ := asP_elim h
      obtain ⟨z3, e3, h⟩ := asP_elim h
      obtain ⟨z4, e4, h⟩ := asP_elim h
      obtain ⟨z5p, z5n, z5c, e5, h⟩ := asL_elim h
      obtain ⟨z6, e6, h⟩ := asI_elim h
      rw [mk_of hl [(2, (.pointer z2)), (3, (.pointer z3)), (4, (.pointer z4)), (5, (.slice z5p z5n z5c)), (6, (.int .i64 z6))] (by simp only [List.forall_mem_cons, List.not_mem_nil, false_implies, implies_true, and_true]; exact ⟨e2, e3, e4, e5, e6⟩)]
      exact straightedgeref02_D_Mul.t3 K n z2 z3 z4 z5p z5n z5c z6 _ w h
    · replace h : asP (t.getD 2 undef) fun z2 => asP (t.getD 3 undef) fun z3 => asP (t.getD 4 undef) fun z4 => asL (t.getD 5 undef) fun z5p z5n z5c => asI .i64 (t.getD 6 undef) fun z6 => asI .i64 (t.getD 7 undef) fun z7 => asI .i64 (t.getD 8 undef) fun z8 => (straightedgeref02_D_Mul.H K (n + 1)).2.1 z2 z3 z4 z5p z5n z5c z6 z7 z8 w := h
      obtain ⟨z2, e2, h⟩ := asP_elim h
      obtain ⟨z3, e3, h⟩ := asP_elim h
      obtain ⟨z4, e4, h⟩ := asP_elim h
      obtain ⟨z5p, z5n, z5c, e5, h⟩ := asL_elim h
      obtain ⟨z6, e6, h⟩ := asI_elim h
      obtain ⟨z7, e7, h⟩ := asI_elim h
      obtain ⟨z8, e8, h⟩ := asI_elim h
      rw [mk_of hl [(2, (.pointer z2)), (3, (.pointer z3)), (4, (.pointer z4)), (5, (.slice z5p z5n z5c)), (6, (.int .i64 z6)), (7, (.int .i64 z7)), (8, (.int .i64 z8))] (by simp only [List.forall_mem_cons, List.not_mem_nil, false_implies, implies_true, and_true]; exact ⟨e2, e3, e4, e5, e6, e7, e8⟩)]
      exact straightedgeref02_D_Mul.t7 K n z2 z3 z4 z5p z5n z5c z6 z7 z8 _ w h
    · replace h : asP (t.getD 2 undef) fun z2 => asP (t.getD 3 undef) fun z3 => asP (t.getD 4 undef) fun z4 => asL (t.getD 5 undef) fun z5p z5n z5c => asI .i64 (t.getD 6 undef) fun z6 => asI .i64 (t.getD 7 undef) fun z7 => asI .i64 (t.getD 9 undef) fun z9 => (straightedgeref02_D_Mul.H K (n + 1)).2.2 z2 z3 z4 z5p z5n z5c z6 z7 z9 w := h
      obtain ⟨z2, e2, h⟩ := asP_elim h
      obtain ⟨z3, e3, h⟩ := asP_elim h
      obtain ⟨z4, e4, h⟩ := asP_elim h
      obtain ⟨z5p, z5n, z5c, e5, h⟩ := asL_elim h
      obtain ⟨z6, e6, h⟩ := asI_elim h
      obtain ⟨z7, e7, h⟩ := asI_elim h
      obtain ⟨z9, e9, h⟩ := asI_elim h
      rw [mk_of hl [(2, (.pointer z2)), (3, (.pointer z3)), (4, (.pointer z4)), (5, (.slice z5p z5n z5c)), (6, (.int .i64 z6)), (7, (.int .i64 z7)), (9, (.int .i64 z9))] (by simp only [List.forall_mem_cons, List.not_mem_nil, false_implies, implies_true, and_true]; exact ⟨e2, e3, e4, e5, e6, e7, e9⟩)]
      exact straightedgeref02_D_Mul.t13 K n z2 z3 z4 z5p z5n z5c z6 z7 z9 _ w h

/-! ### (straightedge/straightedgeref02.D).Sub: function 20 -/
def straightedgeref02_D_Sub.x (A0_0 : Bool) (A0_1p : Option Addr) (A0_1n A0_1c : Nat) (A0_2 : Int) (A1_0 : Bool) (A1_1p : Option Addr) (A1_1n A1_1c : Nat) (A1_2 : Int) (w : World) (K : Value → World → Prop) : Prop := newB [(.bool A0_0), (.slice A0_1p A0_1n A0_1c), (.int .i64 A0_2)] 45 w fun q1 w2 => newB [(.bool A1_0), (.slice A1_1p A1_1n A1_1c), (.int .i64 A1_2)] 45 w2 fun q3 w4 => newB [(.bool false), (.slice none 0 0), (.int .i64 0)] 45 w4 fun q5 w6 => ∃ b7 : Bool, ∃ (a8 : Option Addr) (n9 c10 : Nat), ∃ i11 : Int, w6.drew.cell? q1 = some (.bool b7) ∧ w6.drew.cell? (q1.add 1) = some (.slice a8 n9 c10) ∧ w6.drew.cell? (q1.add 2) = some (.int .i64 i11) ∧ ∃ b12 : Bool, ∃ (a13 : Option Addr) (n14 c15 : Nat), ∃ i16 : Int, w6.drew.cell? q3 = some (.bool b12) ∧ w6.drew.cell? (q3.add 1) = some (.slice a13 n14 c15) ∧ w6.drew.cell? (q3.add 2) = some (.int .i64 i16) ∧ straightedgeref02_D_Minus.call [(.agg ⟨[(.bool b12), (.slice a13 n14 c15), (.int .i64 i16)]⟩)] w6.drew fun v17 w18 => ∃ b19 : Bool, ∃ (a20 : Option Addr) (n21 c22 : Nat), ∃ i23 : Int, v17 = (.agg ⟨[(.bool b19), (.slice a20 n21 c22), (.int .i64 i23)]⟩) ∧ Kept w6.drew w18 ∧ straightedgeref02_D_Add.call [(.agg ⟨[(.bool b7), (.slice a8 n9 c10), (.int .i64 i11)]⟩), (.agg ⟨[(.bool b19), (.slice a20 n21 c22), (.int .i64 i23)]⟩)] w18 fun v24 w25 => ∃ b26 : Bool, ∃ (a27 : Option Addr) (n28 c29 : Nat), ∃ i30 : Int, v24 = (.agg ⟨[(.bool b26), (.slice a27 n28 c29), (.int .i64 i30)]⟩) ∧ (w25.cell? q5).isSome = true ∧ w25.frozen? q5 = false ∧ ((w25.setCell q5 (.bool b26)).cell? (q5.add 1)).isSome = true ∧ (w25.setCell q5 (.bool b26)).frozen? (q5.add 1) = false ∧ (((w25.setCell q5 (.bool b26)).setCell (q5.add 1) (.slice a27 n28 c29)).cell? (q5.add 2)).isSome = true ∧ ((w25.setCell q5 (.bool b26)).setCell (q5.add 1) (.slice a27 n28 c29)).frozen? (q5.add 2) = false ∧ ∃ b31 : Bool, ∃ (a32 : Option Addr) (n33 c34 : Nat), ∃ i35 : Int, (((w25.setCell q5 (.bool b26)).setCell (q5.add 1) (.slice a27 n28 c29)).setCell (q5.add 2) (.int .i64 i30)).cell? q5 = some (.bool b31) ∧ (((w25.setCell q5 (.bool b26)).setCell (q5.add 1) (.slice a27 n28 c29)).setCell (q5.add 2) (.int .i64 i30)).cell? (q5.add 1) = some (.slice a32 n33 c34) ∧ (((w25.setCell q5 (.bool b26)).setCell (q5.add 1) (.slice a27 n28 c29)).setCell (q5.add 2) (.int .i64 i30)).cell? (q5.add 2) = some (.int .i64 i35) ∧ K (.agg ⟨[(.bool b31), (.slice a32 n33 c34), (.int .i64 i35)]⟩) (((w25.setCell q5 (.bool b26)).setCell (q5.add 1) (.slice a27 n28 c29)).setCell (q5.add 2) (.int .i64 i30))
theorem straightedgeref02_D_Sub.ok {A0_0 : Bool} {A0_1p : Option Addr} {A0_1n A0_1c : Nat} {A0_2 : Int} {A1_0 : Bool} {A1_1p : Option Addr} {A1_1n A1_1c : Nat} {A1_2 : Int} {w : World} {K : Value → World → Prop} (h : straightedgeref02_D_Sub.x A0_0 A0_1p A0_1n A0_1c A0_2 A1_0 A1_1p A1_1n A1_1c A1_2 w K) : straightedgeref02_D_Sub.call [(.agg ⟨[(.bool A0_0), (.slice A0_1p A0_1n A0_1c), (.int .i64 A0_2)]⟩), (.agg ⟨[(.bool A1_0), (.slice A1_1p A1_1n A1_1c), (.int .i64 A1_2)]⟩)] w K :=
  callF_of_ex0 (f := Try.f20) Try.func20 rfl mixed (by kernel_rfl) (Eq.mp (by kernel_rfl) h)

/-! ### (straightedge/straightedgeref02.D).Abs: function 21 -/
def straightedgeref02_D_Abs.x (A0_0 : Bool) (A0_1p : Option Addr) (A0_1n A0_1c : Nat) (A0_2 : Int) (w : World) (K : Value → World → Prop) : Prop := newB [(.bool A0_0), (.slice A0_1p A0_1n A0_1c), (.int .i64 A0_2)] 45 w fun q1 w2 => newB [(.bool false), (.slice none 0 0), (.int .i64 0)] 45 w2 fun q3 w4 => (w4.cell? q1).isSome = true ∧ w4.frozen? q1 = false ∧ ∃ b5 : Bool, ∃ (a6 : Option Addr) (n7 c8 : Nat), ∃ i9 : Int, (w4.setCell q1 (.bool false)).cell? q1 = some (.bool b5) ∧ (w4.setCell q1 (.bool false)).cell? (q1.add 1) = some (.slice a6 n7 c8) ∧ (w4.setCell q1 (.bool false)).cell? (q1.add 2) = some (.int .i64 i9) ∧ ((w4.setCell q1 (.bool false)).cell? q3).isSome = true ∧ (w4.setCell q1 (.bool false)).frozen? q3 = false ∧ (((w4.setCell q1 (.bool false)).setCell q3 (.bool b5)).cell? (q3.add 1)).isSome = true ∧ ((w4.setCell q1 (.bool false)).setCell q3 (.bool b5)).frozen? (q3.add 1) = false ∧ ((((w4.setCell q1 (.bool false)).setCell q3 (.bool b5)).setCell (q3.add 1) (.slice a6 n7 c8)).cell? (q3.add 2)).isSome = true ∧ (((w4.setCell q1 (.bool false)).setCell q3 (.bool b5)).setCell (q3.add 1) (.slice a6 n7 c8)).frozen? (q3.add 2) = false ∧ ∃ b10 : Bool, ∃ (a11 : Option Addr) (n12 c13 : Nat), ∃ i14 : Int, ((((w4.setCell q1 (.bool false)).setCell q3 (.bool b5)).setCell (q3.add 1) (.slice a6 n7 c8)).setCell (q3.add 2) (.int .i64 i9)).cell? q3 = some (.bool b10) ∧ ((((w4.setCell q1 (.bool false)).setCell q3 (.bool b5)).setCell (q3.add 1) (.slice a6 n7 c8)).setCell (q3.add 2) (.int .i64 i9)).cell? (q3.add 1) = some (.slice a11 n12 c13) ∧ ((((w4.setCell q1 (.bool false)).setCell q3 (.bool b5)).setCell (q3.add 1) (.slice a6 n7 c8)).setCell (q3.add 2) (.int .i64 i9)).cell? (q3.add 2) = some (.int .i64 i14) ∧ K (.agg ⟨[(.bool b10), (.slice a11 n12 c13), (.int .i64 i14)]⟩) ((((w4.setCell q1 (.bool false)).setCell q3 (.bool b5)).setCell (q3.add 1) (.slice a6 n7 c8)).setCell (q3.add 2) (.int .i64 i9))
theorem straightedgeref02_D_Abs.ok {A0_0 : Bool} {A0_1p : Option Addr} {A0_1n A0_1c : Nat} {A0_2 : Int} {w : World} {K : Value → World → Prop} (h : straightedgeref02_D_Abs.x A0_0 A0_1p A0_1n A0_1c A0_2 w K) : straightedgeref02_D_Abs.call [(.agg ⟨[(.bool A0_0), (.slice A0_1p A0_1n A0_1c), (.int .i64 A0_2)]⟩)] w K :=
  callF_of_ex0 (f := Try.f21) Try.func21 rfl mixed (by kernel_rfl) (Eq.mp (by kernel_rfl) h)

/-! ### (straightedge/straightedgeref02.D).Cmp: function 22 -/
def straightedgeref02_D_Cmp.x (A0_0 : Bool) (A0_1p : Option Addr) (A0_1n A0_1c : Nat) (A0_2 : Int) (A1_0 : Bool) (A1_1p : Option Addr) (A1_1n A1_1c : Nat) (A1_2 : Int) (w : World) (K : Value → World → Prop) : Prop := newB [(.bool A0_0), (.slice A0_1p A0_1n A0_1c), (.int .i64 A0_2)] 45 w fun q1 w2 => newB [(.bool A1_0), (.slice A1_1p A1_1n A1_1c), (.int .i64 A1_2)] 45 w2 fun q3 w4 => ∃ b5 : Bool, ∃ (a6 : Option Addr) (n7 c8 : Nat), ∃ i9 : Int, w4.cell? q1 = some (.bool b5) ∧ w4.cell? (q1.add 1) = some (.slice a6 n7 c8) ∧ w4.cell? (q1.add 2) = some (.int .i64 i9) ∧ ∃ b10 : Bool, ∃ (a11 : Option Addr) (n12 c13 : Nat), ∃ i14 : Int, w4.cell? q3 = some (.bool b10) ∧ w4.cell? (q3.add 1) = some (.slice a11 n12 c13) ∧ w4.cell? (q3.add 2) = some (.int .i64 i14) ∧ straightedgeref02_D_Sub.call [(.agg ⟨[(.bool b5), (.slice a6 n7 c8), (.int .i64 i9)]⟩), (.agg ⟨[(.bool b10), (.slice a11 n12 c13), (.int .i64 i14)]⟩)] w4 fun v15 w16 => ∃ b17 : Bool, ∃ (a18 : Option Addr) (n19 c20 : Nat), ∃ i21 : Int, v15 = (.agg ⟨[(.bool b17), (.slice a18 n19 c20), (.int .i64 i21)]⟩) ∧ straightedgeref02_D_Sign.call [(.agg ⟨[(.bool b17), (.slice a18 n19 c20), (.int .i64 i21)]⟩)] w16 fun v22 w23 => ∃ i24 : Int, v22 = (.int .i64 i24) ∧ K (.int .i64 i24) w23
theorem straightedgeref02_D_Cmp.ok {A0_0 : Bool} {A0_1p : Option Addr} {A0_1n A0_1c : Nat} {A0_2 : Int} {A1_0 : Bool} {A1_1p : Option Addr} {A1_1n A1_1c : Nat} {A1_2 : Int} {w : World} {K : Value → World → Prop} (h : straightedgeref02_D_Cmp.x A0_0 A0_1p A0_1n A0_1c A0_2 A1_0 A1_1p A1_1n A1_1c A1_2 w K) : straightedgeref02_D_Cmp.call [(.agg ⟨[(.bool A0_0), (.slice A0_1p A0_1n A0_1c), (.int .i64 A0_2)]⟩), (.agg ⟨[(.bool A1_0), (.slice A1_1p A1_1n A1_1c), (.int .i64 A1_2)]⟩)] w K :=
  callF_of_ex0 (f := Try.f22) Try.func22 rfl mixed (by kernel_rfl) (Eq.mp (by kernel_rfl) h)

/-! ### (straightedge/straightedgeref02.D).Shift: function 23 -/
def straightedgeref02_D_Shift.c4 (K : Value → World → Prop) : Nat → Option Addr → Option Addr → Int → Int → Option Addr → Nat → Nat → Int → World → Prop
  | 0, _, _, _, _, _, _, _, _, _ => False
  | fu + 1, z2, z4, z5, z6, z7p, z7n, z7c, z8, w => ptrSome z2 fun q1 => ∃ (a2 : Option Addr) (n3 c4 : Nat), w.cell? (q1.add 1) = some (.slice a2 n3 c4) ∧ br (decide (z8 < ((n3 : Nat) : Int))) (ptrSome z2 fun q5 => ∃ (a6 : Option Addr) (n7 c8 : Nat), w.drew.cell? (q5.add 1) = some (.slice a6 n7 c8) ∧ ptrSome a6 fun q9 => (0 : Int) ≤ z8 ∧ z8 < ((n7 : Nat) : Int) ∧ ∃ i10 : Int, w.drew.cell? (q9.add (Int.toNat z8)) = some (.int .i64 i10) ∧ straightedgeref02_power.call [(.int .i64 z6)] w.drew fun v11 w12 => ∃ i13 : Int, v11 = (.int .i64 i13) ∧ Kept w.drew w12 ∧ ptrSome z7p fun q14 => (0 : Int) ≤ z8 ∧ z8 < ((z7n : Nat) : Int) ∧ ∃ i15 : Int, w12.cell? (q14.add (Int.toNat z8)) = some (.int .i64 i15) ∧ ptrSome z7p fun q16 => (0 : Int) ≤ z8 ∧ z8 < ((z7n : Nat) : Int) ∧ (w12.cell? (q16.add (Int.toNat z8))).isSome = true ∧ w12.frozen? (q16.add (Int.toNat z8)) = false ∧ ptrSome z7p fun q17 => (0 : Int) ≤ (IntKind.i64.wrap (z8 + 1)) ∧ (IntKind.i64.wrap (z8 + 1)) < ((z7n : Nat) : Int) ∧ ((w12.setCell (q16.add (Int.toNat z8)) (.int .i64 (IntKind.i64.wrap (i15 + (Int.tmod (IntKind.i64.wrap (i10 * i13)) 65536))))).cell? (q17.add (Int.toNat (IntKind.i64.wrap (z8 + 1))))).isSome = true ∧ (w12.setCell (q16.add (Int.toNat z8)) (.int .i64 (IntKind.i64.wrap (i15 + (Int.tmod (IntKind.i64.wrap (i10 * i13)) 65536))))).frozen? (q17.add (Int.toNat (IntKind.i64.wrap (z8 + 1)))) = false ∧ straightedgeref02_D_Shift.c4 K fu z2 z4 z5 z6 z7p z7n z7c (IntKind.i64.wrap (z8 + 1)) ((w12.setCell (q16.add (Int.toNat z8)) (.int .i64 (IntKind.i64.wrap (i15 + (Int.tmod (IntKind.i64.wrap (i10 * i13)) 65536))))).setCell (q17.add (Int.toNat (IntKind.i64.wrap (z8 + 1)))) (.int .i64 (IntKind.i64.wrap (Int.tdiv (IntKind.i64.wrap (i10 * i13)) 65536))))) (ptrSome z2 fun q18 => ∃ b19 : Bool, w.cell? q18 = some (.bool b19) ∧ ptrSome z2 fun q20 => ∃ i21 : Int, w.cell? (q20.add 2) = some (.int .i64 i21) ∧ straightedgeref02_Made.call [(.bool b19), (.slice z7p z7n z7c), (.int .i64 (IntKind.i64.wrap (i21 + z5)))] w fun v22 w23 => ∃ b24 : Bool, ∃ (a25 : Option Addr) (n26 c27 : Nat), ∃ i28 : Int, v22 = (.agg ⟨[(.bool b24), (.slice a25 n26 c27), (.int .i64 i28)]⟩) ∧ ptrSome z4 fun q29 => (w23.cell? q29).isSome = true ∧ w23.frozen? q29 = false ∧ ((w23.setCell q29 (.bool b24)).cell? (q29.add 1)).isSome = true ∧ (w23.setCell q29 (.bool b24)).frozen? (q29.add 1) = false ∧ (((w23.setCell q29 (.bool b24)).setCell (q29.add 1) (.slice a25 n26 c27)).cell? (q29.add 2)).isSome = true ∧ ((w23.setCell q29 (.bool b24)).setCell (q29.add 1) (.slice a25 n26 c27)).frozen? (q29.add 2) = false ∧ ptrSome z4 fun q30 => ∃ b31 : Bool, ∃ (a32 : Option Addr) (n33 c34 : Nat), ∃ i35 : Int, (((w23.setCell q29 (.bool b24)).setCell (q29.add 1) (.slice a25 n26 c27)).setCell (q29.add 2) (.int .i64 i28)).cell? q30 = some (.bool b31) ∧ (((w23.setCell q29 (.bool b24)).setCell (q29.add 1) (.slice a25 n26 c27)).setCell (q29.add 2) (.int .i64 i28)).cell? (q30.add 1) = some (.slice a32 n33 c34) ∧ (((w23.setCell q29 (.bool b24)).setCell (q29.add 1) (.slice a25 n26 c27)).setCell (q29.add 2) (.int .i64 i28)).cell? (q30.add 2) = some (.int .i64 i35) ∧ K (.agg ⟨[(.bool b31), (.slice a32 n33 c34), (.int .i64 i35)]⟩) (((w23.setCell q29 (.bool b24)).setCell (q29.add 1) (.slice a25 n26 c27)).setCell (q29.add 2) (.int .i64 i28)))
def straightedgeref02_D_Shift.x (fu : Nat) (A0_0 : Bool) (A0_1p : Option Addr) (A0_1n A0_1c : Nat) (A0_2 : Int) (A1 : Int) (w : World) (K : Value → World → Prop) : Prop := newB [(.bool A0_0), (.slice A0_1p A0_1n A0_1c), (.int .i64 A0_2)] 45 w fun q1 w2 => newB [(.bool false), (.slice none 0 0), (.int .i64 0)] 45 w2 fun q3 w4 => straightedgeref02_floor.call [(.int .i64 A1)] w4 fun v5 w6 => ∃ i7 : Int, ∃ i8 : Int, v5 = (.tuple ⟨[(.int .i64 i7), (.int .i64 i8)]⟩) ∧ ∃ (a9 : Option Addr) (n10 c11 : Nat), w6.cell? (q1.add 1) = some (.slice a9 n10 c11) ∧ (0 : Int) ≤ (IntKind.i64.wrap (((n10 : Nat) : Int) + 1)) ∧ ((IntKind.i64.wrap (((n10 : Nat) : Int) + 1)) : Int) ≤ (IntKind.i64.wrap (((n10 : Nat) : Int) + 1)) ∧ ((8 : Nat) : Int) * (IntKind.i64.wrap (((n10 : Nat) : Int) + 1)) ≤ 281474976710656 ∧ (IntKind.i64.wrap (((n10 : Nat) : Int) + 1)) ≤ 9223372036854775807 ∧ newB ((List.range (Int.toNat (IntKind.i64.wrap (((n10 : Nat) : Int) + 1)))).map fun j => List.getD [(.int .i64 0)] (j % 1) default) 3 w6 fun q12 w13 => straightedgeref02_D_Shift.c4 K fu (some q1) (some q3) i7 i8 (some q12) (Int.toNat (IntKind.i64.wrap (((n10 : Nat) : Int) + 1))) (Int.toNat (IntKind.i64.wrap (((n10 : Nat) : Int) + 1))) 0 w13
def straightedgeref02_D_Shift.hd (K : Value → World → Prop) (n id : Nat) (t : List Value) (w : World) : Prop :=
  match id with
  | 4 => asP (t.getD 2 undef) fun z2 => asP (t.getD 4 undef) fun z4 => asI .i64 (t.getD 5 undef) fun z5 => asI .i64 (t.getD 6 undef) fun z6 => asL (t.getD 7 undef) fun z7p z7n z7c => asI .i64 (t.getD 8 undef) fun z8 => straightedgeref02_D_Shift.c4 K n z2 z4 z5 z6 z7p z7n z7c z8 w
  | _ => False
theorem straightedgeref02_D_Shift.t4 (K : Value → World → Prop) (n : Nat) (z2 : Option Addr) (z4 : Option Addr) (z5 : Int) (z6 : Int) (z7p : Option Addr) (z7n z7c : Nat) (z8 : Int) (u : Nat → Value) (w : World) (h : straightedgeref02_D_Shift.c4 K (n + 1) z2 z4 z5 z6 z7p z7n z7c z8 w) :
    exT prog [4] (straightedgeref02_D_Shift.hd K n) Try.f23 4 59 [(2, (.pointer z2)), (4, (.pointer z4)), (5, (.int .i64 z5)), (6, (.int .i64 z6)), (7, (.slice z7p z7n z7c)), (8, (.int .i64 z8))] u w K := Eq.mp (by kernel_rfl) h
theorem straightedgeref02_D_Shift.ok (fu : Nat) {A0_0 : Bool} {A0_1p : Option Addr} {A0_1n A0_1c : Nat} {A0_2 : Int} {A1 : Int} {w : World} {K : Value → World → Prop} (h : straightedgeref02_D_Shift.x fu A0_0 A0_1p A0_1n A0_1c A0_2 A1 w K) : straightedgeref02_D_Shift.call [(.agg ⟨[(.bool A0_0), (.slice A0_1p A0_1n A0_1c), (.int .i64 A0_2)]⟩), (.int .i64 A1)] w K := by
  refine callF_of_ex (cuts := [4]) (H := straightedgeref02_D_Shift.hd K) (N := 59) Try.func23 rfl mixed (by kernel_rfl) ?_ ?_ ?_ rfl (n := fu) (Eq.mp (by kernel_rfl) h)
  · intro id hid; simp only [List.mem_cons, List.not_mem_nil, or_false] at hid; subst hid
    · exact (by kernel_rfl : (stacks (bodyOf Try.f23) []).filter (headIs 4) = [at_ (bodyOf Try.f23) 4])
  · intro id t w h
    unfold straightedgeref02_D_Shift.hd at h
    split at h
    · obtain ⟨z2, _, h⟩ := asP_elim h
      obtain ⟨z4, _, h⟩ := asP_elim h
      obtain ⟨z5, _, h⟩ := asI_elim h
      obtain ⟨z6, _, h⟩ := asI_elim h
      obtain ⟨z7p, z7n, z7c, _, h⟩ := asL_elim h
      obtain ⟨z8, _, h⟩ := asI_elim h
      exact h
    · exact h
  · intro n id hid t w hl h; simp only [List.mem_cons, List.not_mem_nil, or_false] at hid; subst hid
    · replace h : asP (t.getD 2 undef) fun z2 => asP (t.getD 4 undef) fun z4 => asI .i64 (t.getD 5 undef) fun z5 => asI .i64 (t.getD 6 undef) fun z6 => asL (t.getD 7 undef) fun z7p z7n z7c => asI .i64 (t.getD 8 undef) fun z8 => straightedgeref02_D_Shift.c4 K (n + 1) z2 z4 z5 z6 z7p z7n z7c z8 w := h
      obtain ⟨z2, e2, h⟩ := asP_elim h
      obtain ⟨z4, e4, h⟩ := asP_elim h
      obtain ⟨z5, e5, h⟩ := asI_elim h
      obtain ⟨z6, e6, h⟩ := asI_elim h
      obtain ⟨z7p, z7n, z7c, e7, h⟩ := asL_elim h
      obtain ⟨z8, e8, h⟩ := asI_elim h
      rw [mk_of hl [(2, (.pointer z2)), (4, (.pointer z4)), (5, (.int .i64 z5)), (6, (.int .i64 z6)), (7, (.slice z7p z7n z7c)), (8, (.int .i64 z8))] (by simp only [List.forall_mem_cons, List.not_mem_nil, false_implies, implies_true, and_true]; exact ⟨e2, e4, e5, e6, e7, e8⟩)]
      exact straightedgeref02_D_Shift.t4 K n z2 z4 z5 z6 z7p z7n z7c z8 _ w h

/-! ### (straightedge/straightedgeref02.D).Add: function 24 -/
def straightedgeref02_D_Add.b5 (K : Value → World → Prop) (h5 : Option Addr → Option Addr → Option Addr → Int → Int → Option Addr → Nat → Nat → Int → World → Prop) (h7 : Option Addr → Option Addr → Option Addr → Int → Int → Option Addr → Nat → Nat → Int → Bool → Int → World → Prop) (h16 : Option Addr → Option Addr → Option Addr → Int → Int → Option Addr → Nat → Nat → Int → Int → World → Prop) (z2 : Option Addr) (z3 : Option Addr) (z4 : Option Addr) (z5 : Int) (z6 : Int) (z7p : Option Addr) (z7n z7c : Nat) (z8 : Int) (w : World) : Prop := ptrSome z2 fun q1 => ∃ b2 : Bool, w.cell? q1 = some (.bool b2) ∧ br b2 (h7 z2 z3 z4 z5 z6 z7p z7n z7c z8 true z5 w) (ptrSome z3 fun q3 => ∃ b4 : Bool, w.cell? q3 = some (.bool b4) ∧ h7 z2 z3 z4 z5 z6 z7p z7n z7c z8 b4 z5 w)
def straightedgeref02_D_Add.b7 (K : Value → World → Prop) (h5 : Option Addr → Option Addr → Option Addr → Int → Int → Option Addr → Nat → Nat → Int → World → Prop) (h7 : Option Addr → Option Addr → Option Addr → Int → Int → Option Addr → Nat → Nat → Int → Bool → Int → World → Prop) (h16 : Option Addr → Option Addr → Option Addr → Int → Int → Option Addr → Nat → Nat → Int → Int → World → Prop) (z2 : Option Addr) (z3 : Option Addr) (z4 : Option Addr) (z5 : Int) (z6 : Int) (z7p : Option Addr) (z7n z7c : Nat) (z8 : Int) (z9 : Bool) (z10 : Int) (w : World) : Prop := br (decide (z10 < z6)) (ptrSome z2 fun q1 => ∃ b2 : Bool, ∃ (a3 : Option Addr) (n4 c5 : Nat), ∃ i6 : Int, w.drew.cell? q1 = some (.bool b2) ∧ w.drew.cell? (q1.add 1) = some (.slice a3 n4 c5) ∧ w.drew.cell? (q1.add 2) = some (.int .i64 i6) ∧ ptrSome z3 fun q7 => ∃ b8 : Bool, ∃ (a9 : Option Addr) (n10 c11 : Nat), ∃ i12 : Int, w.drew.cell? q7 = some (.bool b8) ∧ w.drew.cell? (q7.add 1) = some (.slice a9 n10 c11) ∧ w.drew.cell? (q7.add 2) = some (.int .i64 i12) ∧ straightedgeref02_D_at.call [(.agg ⟨[(.bool b2), (.slice a3 n4 c5), (.int .i64 i6)]⟩), (.int .i64 z10)] w.drew fun v13 w14 => ∃ i15 : Int, v13 = (.int .i64 i15) ∧ Kept w.drew w14 ∧ straightedgeref02_D_at.call [(.agg ⟨[(.bool b8), (.slice a9 n10 c11), (.int .i64 i12)]⟩), (.int .i64 z10)] w14 fun v16 w17 => ∃ i18 : Int, v16 = (.int .i64 i18) ∧ newB [(.int .i64 (Int.tmod (IntKind.i64.wrap ((IntKind.i64.wrap (z8 + i15)) + i18)) 65536))] 3 w17 fun q19 w20 => Raw prog (Builtin.append_ #[31, 31] 31 ⟨[(.slice z7p z7n z7c), (.slice (some q19) 1 1)]⟩) w20 fun v21 w22 => ∃ (a23 : Option Addr) (n24 c25 : Nat), v21 = .slice a23 n24 c25 ∧ h7 z2 z3 z4 z5 z6 a23 n24 c25 (IntKind.i64.wrap (Int.tdiv (IntKind.i64.wrap ((IntKind.i64.wrap (z8 + i15)) + i18)) 65536)) z9 (IntKind.i64.wrap (z10 + 1)) w22) (newB [(.int .i64 z8)] 3 w fun q26 w27 => Raw prog (Builtin.append_ #[31, 31] 31 ⟨[(.slice z7p z7n z7c), (.slice (some q26) 1 1)]⟩) w27 fun v28 w29 => ∃ (a30 : Option Addr) (n31 c32 : Nat), v28 = .slice a30 n31 c32 ∧ straightedgeref02_Made.call [(.bool z9), (.slice a30 n31 c32), (.int .i64 z5)] w29 fun v33 w34 => ∃ b35 : Bool, ∃ (a36 : Option Addr) (n37 c38 : Nat), ∃ i39 : Int, v33 = (.agg ⟨[(.bool b35), (.slice a36 n37 c38), (.int .i64 i39)]⟩) ∧ ptrSome z4 fun q40 => (w34.cell? q40).isSome = true ∧ w34.frozen? q40 = false ∧ ((w34.setCell q40 (.bool b35)).cell? (q40.add 1)).isSome = true ∧ (w34.setCell q40 (.bool b35)).frozen? (q40.add 1) = false ∧ (((w34.setCell q40 (.bool b35)).setCell (q40.add 1) (.slice a36 n37 c38)).cell? (q40.add 2)).isSome = true ∧ ((w34.setCell q40 (.bool b35)).setCell (q40.add 1) (.slice a36 n37 c38)).frozen? (q40.add 2) = false ∧ ptrSome z4 fun q41 => ∃ b42 : Bool, ∃ (a43 : Option Addr) (n44 c45 : Nat), ∃ i46 : Int, (((w34.setCell q40 (.bool b35)).setCell (q40.add 1) (.slice a36 n37 c38)).setCell (q40.add 2) (.int .i64 i39)).cell? q41 = some (.bool b42) ∧ (((w34.setCell q40 (.bool b35)).setCell (q40.add 1) (.slice a36 n37 c38)).setCell (q40.add 2) (.int .i64 i39)).cell? (q41.add 1) = some (.slice a43 n44 c45) ∧ (((w34.setCell q40 (.bool b35)).setCell (q40.add 1) (.slice a36 n37 c38)).setCell (q40.add 2) (.int .i64 i39)).cell? (q41.add 2) = some (.int .i64 i46) ∧ K (.agg ⟨[(.bool b42), (.slice a43 n44 c45), (.int .i64 i46)]⟩) (((w34.setCell q40 (.bool b35)).setCell (q40.add 1) (.slice a36 n37 c38)).setCell (q40.add 2) (.int .i64 i39)))
def straightedgeref02_D_Add.b16 (K : Value → World → Prop) (h5 : Option Addr → Option Addr → Option Addr → Int → Int → Option Addr → Nat → Nat → Int → World → Prop) (h7 : Option Addr → Option Addr → Option Addr → Int → Int → Option Addr → Nat → Nat → Int → Bool → Int → World → Prop) (h16 : Option Addr → Option Addr → Option Addr → Int → Int → Option Addr → Nat → Nat → Int → Int → World → Prop) (z2 : Option Addr) (z3 : Option Addr) (z4 : Option Addr) (z5 : Int) (z6 : Int) (z7p : Option Addr) (z7n z7c : Nat) (z8 : Int) (z11 : Int) (w : World) : Prop := br (decide (z11 < z6)) (ptrSome z2 fun q1 => ∃ b2 : Bool, ∃ (a3 : Option Addr) (n4 c5 : Nat), ∃ i6 : Int, w.drew.cell? q1 = some (.bool b2) ∧ w.drew.cell? (q1.add 1) = some (.slice a3 n4 c5) ∧ w.drew.cell? (q1.add 2) = some (.int .i64 i6) ∧ ptrSome z3 fun q7 => ∃ b8 : Bool, ∃ (a9 : Option Addr) (n10 c11 : Nat), ∃ i12 : Int, w.drew.cell? q7 = some (.bool b8) ∧ w.drew.cell? (q7.add 1) = some (.slice a9 n10 c11) ∧ w.drew.cell? (q7.add 2) = some (.int .i64 i12) ∧ straightedgeref02_D_at.call [(.agg ⟨[(.bool b2), (.slice a3 n4 c5), (.int .i64 i6)]⟩), (.int .i64 z11)] w.drew fun v13 w14 => ∃ i15 : Int, v13 = (.int .i64 i15) ∧ Kept w.drew w14 ∧ straightedgeref02_D_at.call [(.agg ⟨[(.bool b8), (.slice a9 n10 c11), (.int .i64 i12)]⟩), (.int .i64 z11)] w14 fun v16 w17 => ∃ i18 : Int, v16 = (.int .i64 i18) ∧ br (decide ((IntKind.i64.wrap ((IntKind.i64.wrap (i15 - i18)) - z8)) < 0)) (newB [(.int .i64 (IntKind.i64.wrap ((IntKind.i64.wrap ((IntKind.i64.wrap (i15 - i18)) - z8)) + 65536)))] 3 w17 fun q19 w20 => Raw prog (Builtin.append_ #[31, 31] 31 ⟨[(.slice z7p z7n z7c), (.slice (some q19) 1 1)]⟩) w20 fun v21 w22 => ∃ (a23 : Option Addr) (n24 c25 : Nat), v21 = .slice a23 n24 c25 ∧ h16 z2 z3 z4 z5 z6 a23 n24 c25 1 (IntKind.i64.wrap (z11 + 1)) w22) (newB [(.int .i64 (IntKind.i64.wrap ((IntKind.i64.wrap (i15 - i18)) - z8)))] 3 w17 fun q26 w27 => Raw prog (Builtin.append_ #[31, 31] 31 ⟨[(.slice z7p z7n z7c), (.slice (some q26) 1 1)]⟩) w27 fun v28 w29 => ∃ (a30 : Option Addr) (n31 c32 : Nat), v28 = .slice a30 n31 c32 ∧ h16 z2 z3 z4 z5 z6 a30 n31 c32 0 (IntKind.i64.wrap (z11 + 1)) w29)) (ptrSome z2 fun q33 => ∃ b34 : Bool, w.cell? q33 = some (.bool b34) ∧ straightedgeref02_Made.call [(.bool b34), (.slice z7p z7n z7c), (.int .i64 z5)] w fun v35 w36 => ∃ b37 : Bool, ∃ (a38 : Option Addr) (n39 c40 : Nat), ∃ i41 : Int, v35 = (.agg ⟨[(.bool b37), (.slice a38 n39 c40), (.int .i64 i41)]⟩) ∧ ptrSome z4 fun q42 => (w36.cell? q42).isSome = true ∧ w36.frozen? q42 = false ∧ ((w36.setCell q42 (.bool b37)).cell? (q42.add 1)).isSome = true ∧ (w36.setCell q42 (.bool b37)).frozen? (q42.add 1) = false ∧ (((w36.setCell q42 (.bool b37)).setCell (q42.add 1) (.slice a38 n39 c40)).cell? (q42.add 2)).isSome = true ∧ ((w36.setCell q42 (.bool b37)).setCell (q42.add 1) (.slice a38 n39 c40)).frozen? (q42.add 2) = false ∧ ptrSome z4 fun q43 => ∃ b44 : Bool, ∃ (a45 : Option Addr) (n46 c47 : Nat), ∃ i48 : Int, (((w36.setCell q42 (.bool b37)).setCell (q42.add 1) (.slice a38 n39 c40)).setCell (q42.add 2) (.int .i64 i41)).cell? q43 = some (.bool b44) ∧ (((w36.setCell q42 (.bool b37)).setCell (q42.add 1) (.slice a38 n39 c40)).setCell (q42.add 2) (.int .i64 i41)).cell? (q43.add 1) = some (.slice a45 n46 c47) ∧ (((w36.setCell q42 (.bool b37)).setCell (q42.add 1) (.slice a38 n39 c40)).setCell (q42.add 2) (.int .i64 i41)).cell? (q43.add 2) = some (.int .i64 i48) ∧ K (.agg ⟨[(.bool b44), (.slice a45 n46 c47), (.int .i64 i48)]⟩) (((w36.setCell q42 (.bool b37)).setCell (q42.add 1) (.slice a38 n39 c40)).setCell (q42.add 2) (.int .i64 i41)))
def straightedgeref02_D_Add.H (K : Value → World → Prop) : Nat → (Option Addr → Option Addr → Option Addr → Int → Int → Option Addr → Nat → Nat → Int → World → Prop) × (Option Addr → Option Addr → Option Addr → Int → Int → Option Addr → Nat → Nat → Int → Bool → Int → World → Prop) × (Option Addr → Option Addr → Option Addr → Int → Int → Option Addr → Nat → Nat → Int → Int → World → Prop)
  | 0 => (fun _ _ _ _ _ _ _ _ _ _ => False, fun _ _ _ _ _ _ _ _ _ _ _ _ => False, fun _ _ _ _ _ _ _ _ _ _ _ => False)
  | fu + 1 => (straightedgeref02_D_Add.b5 K (straightedgeref02_D_Add.H K fu).1 (straightedgeref02_D_Add.H K fu).2.1 (straightedgeref02_D_Add.H K fu).2.2, straightedgeref02_D_Add.b7 K (straightedgeref02_D_Add.H K fu).1 (straightedgeref02_D_Add.H K fu).2.1 (straightedgeref02_D_Add.H K fu).2.2, straightedgeref02_D_Add.b16 K (straightedgeref02_D_Add.H K fu).1 (straightedgeref02_D_Add.H K fu).2.1 (straightedgeref02_D_Add.H K fu).2.2)
def straightedgeref02_D_Add.x (fu : Nat) (A0_0 : Bool) (A0_1p : Option Addr) (A0_1n A0_1c : Nat) (A0_2 : Int) (A1_0 : Bool) (A1_1p : Option Addr) (A1_1n A1_1c : Nat) (A1_2 : Int) (w : World) (K : Value → World → Prop) : Prop := newB [(.bool A0_0), (.slice A0_1p A0_1n A0_1c), (.int .i64 A0_2)] 45 w fun q1 w2 => newB [(.bool A1_0), (.slice A1_1p A1_1n A1_1c), (.int .i64 A1_2)] 45 w2 fun q3 w4 => newB [(.bool false), (.slice none 0 0), (.int .i64 0)] 45 w4 fun q5 w6 => ∃ b7 : Bool, ∃ (a8 : Option Addr) (n9 c10 : Nat), ∃ i11 : Int, w6.cell? q1 = some (.bool b7) ∧ w6.cell? (q1.add 1) = some (.slice a8 n9 c10) ∧ w6.cell? (q1.add 2) = some (.int .i64 i11) ∧ ∃ b12 : Bool, ∃ (a13 : Option Addr) (n14 c15 : Nat), ∃ i16 : Int, w6.cell? q3 = some (.bool b12) ∧ w6.cell? (q3.add 1) = some (.slice a13 n14 c15) ∧ w6.cell? (q3.add 2) = some (.int .i64 i16) ∧ straightedgeref02_ends.call [(.agg ⟨[(.bool b7), (.slice a8 n9 c10), (.int .i64 i11)]⟩), (.agg ⟨[(.bool b12), (.slice a13 n14 c15), (.int .i64 i16)]⟩)] w6 fun v17 w18 => ∃ i19 : Int, ∃ i20 : Int, v17 = (.tuple ⟨[(.int .i64 i19), (.int .i64 i20)]⟩) ∧ ∃ b21 : Bool, w18.cell? q1 = some (.bool b21) ∧ ∃ b22 : Bool, w18.cell? q3 = some (.bool b22) ∧ br (b21 == b22) ((straightedgeref02_D_Add.H K fu).1 (some q1) (some q3) (some q5) i19 i20 none 0 0 0 w18) (∃ (a23 : Option Addr) (n24 c25 : Nat), w18.cell? (q1.add 1) = some (.slice a23 n24 c25) ∧ br (((n24 : Nat) : Int) == 0) ((straightedgeref02_D_Add.H K fu).1 (some q1) (some q3) (some q5) i19 i20 none 0 0 0 w18) (∃ (a26 : Option Addr) (n27 c28 : Nat), w18.cell? (q3.add 1) = some (.slice a26 n27 c28) ∧ br (((n27 : Nat) : Int) == 0) ((straightedgeref02_D_Add.H K fu).1 (some q1) (some q3) (some q5) i19 i20 none 0 0 0 w18) (∃ b29 : Bool, ∃ (a30 : Option Addr) (n31 c32 : Nat), ∃ i33 : Int, w18.cell? q1 = some (.bool b29) ∧ w18.cell? (q1.add 1) = some (.slice a30 n31 c32) ∧ w18.cell? (q1.add 2) = some (.int .i64 i33) ∧ ∃ b34 : Bool, ∃ (a35 : Option Addr) (n36 c37 : Nat), ∃ i38 : Int, w18.cell? q3 = some (.bool b34) ∧ w18.cell? (q3.add 1) = some (.slice a35 n36 c37) ∧ w18.cell? (q3.add 2) = some (.int .i64 i38) ∧ straightedgeref02_size.call [(.agg ⟨[(.bool b29), (.slice a30 n31 c32), (.int .i64 i33)]⟩), (.agg ⟨[(.bool b34), (.slice a35 n36 c37), (.int .i64 i38)]⟩)] w18 fun v39 w40 => ∃ i41 : Int, v39 = (.int .i64 i41) ∧ br (decide (i41 < 0)) (∃ b42 : Bool, ∃ (a43 : Option Addr) (n44 c45 : Nat), ∃ i46 : Int, w40.cell? q3 = some (.bool b42) ∧ w40.cell? (q3.add 1) = some (.slice a43 n44 c45) ∧ w40.cell? (q3.add 2) = some (.int .i64 i46) ∧ ∃ b47 : Bool, ∃ (a48 : Option Addr) (n49 c50 : Nat), ∃ i51 : Int, w40.cell? q1 = some (.bool b47) ∧ w40.cell? (q1.add 1) = some (.slice a48 n49 c50) ∧ w40.cell? (q1.add 2) = some (.int .i64 i51) ∧ (w40.cell? q1).isSome = true ∧ w40.frozen? q1 = false ∧ ((w40.setCell q1 (.bool b42)).cell? (q1.add 1)).isSome = true ∧ (w40.setCell q1 (.bool b42)).frozen? (q1.add 1) = false ∧ (((w40.setCell q1 (.bool b42)).setCell (q1.add 1) (.slice a43 n44 c45)).cell? (q1.add 2)).isSome = true ∧ ((w40.setCell q1 (.bool b42)).setCell (q1.add 1) (.slice a43 n44 c45)).frozen? (q1.add 2) = false ∧ ((((w40.setCell q1 (.bool b42)).setCell (q1.add 1) (.slice a43 n44 c45)).setCell (q1.add 2) (.int .i64 i46)).cell? q3).isSome = true ∧ (((w40.setCell q1 (.bool b42)).setCell (q1.add 1) (.slice a43 n44 c45)).setCell (q1.add 2) (.int .i64 i46)).frozen? q3 = false ∧ (((((w40.setCell q1 (.bool b42)).setCell (q1.add 1) (.slice a43 n44 c45)).setCell (q1.add 2) (.int .i64 i46)).setCell q3 (.bool b47)).cell? (q3.add 1)).isSome = true ∧ ((((w40.setCell q1 (.bool b42)).setCell (q1.add 1) (.slice a43 n44 c45)).setCell (q1.add 2) (.int .i64 i46)).setCell q3 (.bool b47)).frozen? (q3.add 1) = false ∧ ((((((w40.setCell q1 (.bool b42)).setCell (q1.add 1) (.slice a43 n44 c45)).setCell (q1.add 2) (.int .i64 i46)).setCell q3 (.bool b47)).setCell (q3.add 1) (.slice a48 n49 c50)).cell? (q3.add 2)).isSome = true ∧ (((((w40.setCell q1 (.bool b42)).setCell (q1.add 1) (.slice a43 n44 c45)).setCell (q1.add 2) (.int .i64 i46)).setCell q3 (.bool b47)).setCell (q3.add 1) (.slice a48 n49 c50)).frozen? (q3.add 2) = false ∧ (straightedgeref02_D_Add.H K fu).2.2 (some q1) (some q3) (some q5) i19 i20 none 0 0 0 i19 (((((((w40.setCell q1 (.bool b42)).setCell (q1.add 1) (.slice a43 n44 c45)).setCell (q1.add 2) (.int .i64 i46)).setCell q3 (.bool b47)).setCell (q3.add 1) (.slice a48 n49 c50)).setCell (q3.add 2) (.int .i64 i51)))) ((straightedgeref02_D_Add.H K fu).2.2 (some q1) (some q3) (some q5) i19 i20 none 0 0 0 i19 w40))))
def straightedgeref02_D_Add.hd (K : Value → World → Prop) (n id : Nat) (t : List Value) (w : World) : Prop :=
  match id with
  | 5 => asP (t.getD 2 undef) fun z2 => asP (t.getD 3 undef) fun z3 => asP (t.getD 4 undef) fun z4 => asI .i64 (t.getD 5 undef) fun z5 => asI .i64 (t.getD 6 undef) fun z6 => asL (t.getD 7 undef) fun z7p z7n z7c => asI .i64 (t.getD 8 undef) fun z8 => (straightedgeref02_D_Add.H K n).1 z2 z3 z4 z5 z6 z7p z7n z7c z8 w
  | 7 => asP (t.getD 2 undef) fun z2 => asP (t.getD 3 undef) fun z3 => asP (t.getD 4 undef) fun z4 => asI .i64 (t.getD 5 undef) fun z5 => asI .i64 (t.getD 6 undef) fun z6 => asL (t.getD 7 undef) fun z7p z7n z7c => asI .i64 (t.getD 8 undef) fun z8 => asB (t.getD 9 undef) fun z9 => asI .i64 (t.getD 10 undef) fun z10 => (straightedgeref02_D_Add.H K n).2.1 z2 z3 z4 z5 z6 z7p z7n z7c z8 z9 z10 w
  | 16 => asP (t.getD 2 undef) fun z2 => asP (t.getD 3 undef) fun z3 => asP (t.getD 4 undef) fun z4 => asI .i64 (t.getD 5 undef) fun z5 => asI .i64 (t.getD 6 undef) fun z6 => asL (t.getD 7 undef) fun z7p z7n z7c => asI .i64 (t.getD 8 undef) fun z8 => asI .i64 (t.getD 11 undef) fun z11 => (straightedgeref02_D_Add.H K n).2.2 z2 z3 z4 z5 z6 z7p z7n z7c z8 z11 w
  | _ => False
theorem straightedgeref02_D_Add.t5 (K : Value → World → Prop) (n : Nat) (z2 : Option Addr) (z3 : Option Addr) (z4 : Option Addr) (z5 : Int) (z6 : Int) (z7p : Option Addr) (z7n z7c : Nat) (z8 : Int) (u : Nat → Value) (w : World) (h : (straightedgeref02_D_Add.H K (n + 1)).1 z2 z3 z4 z5 z6 z7p z7n z7c z8 w) :
    exT prog [5, 7, 16] (straightedgeref02_D_Add.hd K n) Try.f24 5 105 [(2, (.pointer z2)), (3, (.pointer z3)), (4, (.pointer z4)), (5, (.int .i64 z5)), (6, (.int .i64 z6)), (7, (.slice z7p z7n z7c)), (8, (.int .i64 z8))] u w K := Eq.mp (by kernel_rfl) h
theorem straightedgeref02_D_Add.t7 (K : Value → World → Prop) (n : Nat) (z2 : Option Addr) (z3 : Option Addr) (z4 : Option Addr) (z5 : Int) (z6 : Int) (z7p : Option Addr) (z7n z7c : Nat) (z8 : Int) (z9 : Bool) (z10 : Int) (u : Nat → Value) (w : World) (h : (straightedgeref02_D_Add.H K (n + 1)).2.1 z2 z3 z4 z5 z6 z7p z7n z7c z8 z9 z10 w) :
    exT prog [5, 7, 16] (straightedgeref02_D_Add.hd K n) Try.f24 7 105 [(2, (.pointer z2)), (3, (.pointer z3)), (4, (.pointer z4)), (5, (.int .i64 z5)), (6, (.int .i64 z6)), (7, (.slice z7p z7n z7c)), (8, (.int .i64 z8)), (9, (.bool z9)), (10, (.int .i64 z10))] u w K := Eq.mp (by kernel_rfl) h
theorem straightedgeref02_D_Add.t16 (K : Value → World → Prop) (n : Nat) (z2 : Option Addr) (z3 : Option Addr) (z4 : Option Addr) (z5 : Int) (z6 : Int) (z7p : Option Addr) (z7n z7c : Nat) (z8 : Int) (z11 : Int) (u : Nat → Value) (w : World) (h : (straightedgeref02_D_Add.H K (n + 1)).2.2 z2 z3 z4 z5 z6 z7p z7n z7c z8 z11 w) :
    exT prog [5, 7, 16] (straightedgeref02_D_Add.hd K n) Try.f24 16 105 [(2, (.pointer z2)), (3, (.pointer z3)), (4, (.pointer z4)), (5, (.int .i64 z5)), (6, (.int .i64 z6)), (7, (.slice z7p z7n z7c)), (8, (.int .i64 z8)), (11, (.int .i64 z11))] u w K := Eq.mp (by kernel_rfl) h
theorem straightedgeref02_D_Add.ok (fu : Nat) {A0_0 : Bool} {A0_1p : Option Addr} {A0_1n A0_1c : Nat} {A0_2 : Int} {A1_0 : Bool} {A1_1p : Option Addr} {A1_1n A1_1c : Nat} {A1_2 : Int} {w : World} {K : Value → World → Prop} (h : straightedgeref02_D_Add.x fu A0_0 A0_1p A0_1n A0_1c A0_2 A1_0 A1_1p A1_1n A1_1c A1_2 w K) : straightedgeref02_D_Add.call [(.agg ⟨[(.bool A0_0), (.slice A0_1p A0_1n A0_1c), (.int .i64 A0_2)]⟩), (.agg ⟨[(.bool A1_0), (.slice A1_1p A1_1n A1_1c), (.int .i64 A1_2)]⟩)] w K := by
  refine callF_of_ex (cuts := [5, 7, 16]) (H := straightedgeref02_D_Add.hd K) (N := 105) Try.func24 rfl mixed (by kernel_rfl) ?_ ?_ ?_ rfl (n := fu) (Eq.mp (by kernel_rfl) h)
  · intro id hid; simp only [List.mem_cons, List.not_mem_nil, or_false] at hid; rcases hid with rfl | rfl | rfl
    · exact (by kernel_rfl : (stacks (bodyOf Try.f24) []).filter (headIs 5) = [at_ (bodyOf Try.f24) 5])
    · exact (by kernel_rfl : (stacks (bodyOf Try.f24) []).filter (headIs 7) = [at_ (bodyOf Try.f24) 7])
    · exact (by kernel_rfl : (stacks (bodyOf Try.f24) []).filter (headIs 16) = [at_ (bodyOf Try.f24) 16])
  · intro id t w h
    unfold straightedgeref02_D_Add.hd at h
    split at h
    · obtain ⟨z2, _, h⟩ := asP_elim h
      obtain ⟨z3, _, h⟩ := asP_elim h
      obtain ⟨z4, _, h⟩ := asP_elim h
      obtain ⟨z5, _, h⟩ := asI_elim h
      obtain ⟨z6, _, h⟩ := asI_elim h
      obtain ⟨z7p, z7n, z7c, _, h⟩ := asL_elim h
      obtain ⟨z8, _, h⟩ := asI_elim h
      exact h
    · obtain ⟨z2, _, h⟩ := asP_elim h
      obtain ⟨z3, _, h⟩ := asP_elim h
      obtain ⟨z4, _, h⟩ := asP_elim h
      obtain ⟨z5, _, h⟩ := asI_elim h
      obtain ⟨z6, _, h⟩ := asI_elim h
      obtain ⟨z7p, z7n, z7c, _, h⟩ := asL_elim h
      obtain ⟨z8, _, h⟩ := asI_elim h
      obtain ⟨z9, _, h⟩ := asB_elim h
      obtain ⟨z10, _, h⟩ := asI_elim h
      exact h
    · obtain ⟨z2, _, h⟩ := asP_elim h
      obtain ⟨z3, _, h⟩ := asP_elim h
      obtain ⟨z4, _, h⟩ := asP_elim h
      obtain ⟨z5, _, h⟩ := asI_elim h
      obtain ⟨z6, _, h⟩ := asI_elim h
      obtain ⟨z7p, z7n, z7c, _, h⟩ := asL_elim h
      obtain ⟨z8, _, h⟩ := asI_elim h
      obtain ⟨z11, _, h⟩ := asI_elim h
      exact h
    · exact h
  · intro n id hid t w hl h; simp only [List.mem_cons, List.not_mem_nil, or_false] at hid; rcases hid with rfl | rfl | rfl
    · replace h : asP (t.getD 2 undef) fun z2 => asP (t.getD 3 undef) fun z3 => asP (t.getD 4 undef) fun z4 => asI .i64 (t.getD 5 undef) fun z5 => asI .i64 (t.getD 6 undef) fun z6 => asL (t.getD 7 undef) fun z7p z7n z7c => asI .i64 (t.getD 8 undef) fun z8 => (straightedgeref02_D_Add.H K (n + 1)).1 z2 z3 z4 z5 z6 z7p z7n z7c z8 w := h
      obtain ⟨z2, e2, h⟩ := asP_elim h
      obtain ⟨z3, e3, h⟩ := asP_elim h
      obtain ⟨z4, e4, h⟩ := asP_elim h
      obtain ⟨z5, e5, h⟩ := asI_elim h
      obtain ⟨z6, e6, h⟩ := asI_elim h
      obtain ⟨z7p, z7n, z7c, e7, h⟩ := asL_elim h
      obtain ⟨z8, e8, h⟩ := asI_elim h
      rw [mk_of hl [(2, (.pointer z2)), (3, (.pointer z3)), (4, (.pointer z4)), (5, (.int .i64 z5)), (6, (.int .i64 z6)), (7, (.slice z7p z7n z7c)), (8, (.int .i64 z8))] (by simp only [List.forall_mem_cons, List.not_mem_nil, false_implies, implies_true, and_true]; exact ⟨e2, e3, e4, e5, e6, e7, e8⟩)]
      exact straightedgeref02_D_Add.t5 K n z2 z3 z4 z5 z6 z7p z7n z7c z8 _ w h
    · replace h : asP (t.getD 2 undef) fun z2 => asP (t.getD 3 undef) fun z3 => asP (t.getD 4 undef) fun z4 => asI .i64 (t.getD 5 undef) fun z5 => asI .i64 (t.getD 6 undef) fun z6 => asL (t.getD 7 undef) fun z7p z7n z7c => asI .i64 (t.getD 8 undef) fun z8 => asB (t.getD 9 undef) fun z9 => asI .i64 (t.getD 10 undef) fun z10 => (straightedgeref02_D_Add.H K (n + 1)).2.1 z2 z3 z4 z5 z6 z7p z7n z7c z8 z9 z10 w := h
      obtain ⟨z2, e2, h⟩ := asP_elim h
      obtain ⟨z3, e3, h⟩ := asP_elim h
      obtain ⟨z4, e4, h⟩ := asP_elim h
      obtain ⟨z5, e5, h⟩ := asI_elim h
      obtain ⟨z6, e6, h⟩ := asI_elim h
      obtain ⟨z7p, z7n, z7c, e7, h⟩ := asL_elim h
      obtain ⟨z8, e8, h⟩ := asI_elim h
      obtain ⟨z9, e9, h⟩ := asB_elim h
      obtain ⟨z10, e10, h⟩ := asI_elim h
      rw [mk_of hl [(2, (.pointer z2)), (3, (.pointer z3)), (4, (.pointer z4)), (5, (.int .i64 z5)), (6, (.int .i64 z6)), (7, (.slice z7p z7n z7c)), (8, (.int .i64 z8)), (9, (.bool z9)), (10, (.int .i64 z10))] (by simp only [List.forall_mem_cons, List.not_mem_nil, false_implies, implies_true, and_true]; exact ⟨e2, e3, e4, e5, e6, e7, e8, e9, e10⟩)]
      exact straightedgeref02_D_Add.t7 K n z2 z3 z4 z5 z6 z7p z7n z7c z8 z9 z10 _ w h
    · replace h : asP (t.getD 2 undef) fun z2 => asP (t.getD 3 undef) fun z3 => asP (t.getD 4 undef) fun z4 => asI .i64 (t.getD 5 undef) fun z5 => asI .i64 (t.getD 6 undef) fun z6 => asL (t.getD 7 undef) fun z7p z7n z7c => asI .i64 (t.getD 8 undef) fun z8 => asI .i64 (t.getD 11 undef) fun z11 => (straightedgeref02_D_Add.H K (n + 1)).2.2 z2 z3 z4 z5 z6 z7p z7n z7c z8 z11 w := h
      obtain ⟨z2, e2, h⟩ := asP_elim h
      obtain ⟨z3, e3, h⟩ := asP_elim h
      obtain ⟨z4, e4, h⟩ := asP_elim h
      obtain ⟨z5, e5, h⟩ := asI_elim h
      obtain ⟨z6, e6, h⟩ := asI_elim h
      obtain ⟨z7p, z7n, z7c, e7, h⟩ := asL_elim h
      obtain ⟨z8, e8, h⟩ := asI_elim h
      obtain ⟨z11, e11, h⟩ := asI_elim h
      rw [mk_of hl [(2, (.pointer z2)), (3, (.pointer z3)), (4, (.pointer z4)), (5, (.int .i64 z5)), (6, (.int .i64 z6)), (7, (.slice z7p z7n z7c)), (8, (.int .i64 z8)), (11, (.int .i64 z11))] (by simp only [List.forall_mem_cons, List.not_mem_nil, false_implies, implies_true, and_true]; exact ⟨e2, e3, e4, e5, e6, e7, e8, e11⟩)]
      exact straightedgeref02_D_Add.t16 K n z2 z3 z4 z5 z6 z7p z7n z7c z8 z11 _ w h

/-! ### straightedge/straightedgeref02.Int: function 43 -/
def straightedgeref02_Int.x (A0 : Int) (w : World) (K : Value → World → Prop) : Prop := newB [(.bool false), (.slice none 0 0), (.int .i64 0)] 45 w fun q1 w2 => br (decide (A0 < 0)) (straightedgeref02_Whole.call [(.bool true), (.int .u64 (IntKind.u64.wrap ((IntKind.u64.wrap ((IntKind.i64.wrap (0 - (IntKind.i64.wrap (A0 + 1)))))) + 1)))] w2 fun v3 w4 => ∃ b5 : Bool, ∃ (a6 : Option Addr) (n7 c8 : Nat), ∃ i9 : Int, v3 = (.agg ⟨[(.bool b5), (.slice a6 n7 c8), (.int .i64 i9)]⟩) ∧ (w4.cell? q1).isSome = true ∧ w4.frozen? q1 = false ∧ ((w4.setCell q1 (.bool b5)).cell? (q1.add 1)).isSome = true ∧ (w4.setCell q1 (.bool b5)).frozen? (q1.add 1) = false ∧ (((w4.setCell q1 (.bool b5)).setCell (q1.add 1) (.slice a6 n7 c8)).cell? (q1.add 2)).isSome = true ∧ ((w4.setCell q1 (.bool b5)).setCell (q1.add 1) (.slice a6 n7 c8)).frozen? (q1.add 2) = false ∧ ∃ b10 : Bool, ∃ (a11 : Option Addr) (n12 c13 : Nat), ∃ i14 : Int, (((w4.setCell q1 (.bool b5)).setCell (q1.add 1) (.slice a6 n7 c8)).setCell (q1.add 2) (.int .i64 i9)).cell? q1 = some (.bool b10) ∧ (((w4.setCell q1 (.bool b5)).setCell (q1.add 1) (.slice a6 n7 c8)).setCell (q1.add 2) (.int .i64 i9)).cell? (q1.add 1) = some (.slice a11 n12 c13) ∧ (((w4.setCell q1 (.bool b5)).setCell (q1.add 1) (.slice a6 n7 c8)).setCell (q1.add 2) (.int .i64 i9)).cell? (q1.add 2) = some (.int .i64 i14) ∧ K (.agg ⟨[(.bool b10), (.slice a11 n12 c13), (.int .i64 i14)]⟩) (((w4.setCell q1 (.bool b5)).setCell (q1.add 1) (.slice a6 n7 c8)).setCell (q1.add 2) (.int .i64 i9))) (straightedgeref02_Whole.call [(.bool false), (.int .u64 (IntKind.u64.wrap (A0)))] w2 fun v15 w16 => ∃ b17 : Bool, ∃ (a18 : Option Addr) (n19 c20 : Nat), ∃ i21 : Int, v15 = (.agg ⟨[(.bool b17), (.slice a18 n19 c20), (.int .i64 i21)]⟩) ∧ (w16.cell? q1).isSome = true ∧ w16.frozen? q1 = false ∧ ((w16.setCell q1 (.bool b17)).cell? (q1.add 1)).isSome = true ∧ (w16.setCell q1 (.bool b17)).frozen? (q1.add 1) = false ∧ (((w16.setCell q1 (.bool b17)).setCell (q1.add 1) (.slice a18 n19 c20)).cell? (q1.add 2)).isSome = true ∧ ((w16.setCell q1 (.bool b17)).setCell (q1.add 1) (.slice a18 n19 c20)).frozen? (q1.add 2) = false ∧ ∃ b22 : Bool, ∃ (a23 : Option Addr) (n24 c25 : Nat), ∃ i26 : Int, (((w16.setCell q1 (.bool b17)).setCell (q1.add 1) (.slice a18 n19 c20)).setCell (q1.add 2) (.int .i64 i21)).cell? q1 = some (.bool b22) ∧ (((w16.setCell q1 (.bool b17)).setCell (q1.add 1) (.slice a18 n19 c20)).setCell (q1.add 2) (.int .i64 i21)).cell? (q1.add 1) = some (.slice a23 n24 c25) ∧ (((w16.setCell q1 (.bool b17)).setCell (q1.add 1) (.slice a18 n19 c20)).setCell (q1.add 2) (.int .i64 i21)).cell? (q1.add 2) = some (.int .i64 i26) ∧ K (.agg ⟨[(.bool b22), (.slice a23 n24 c25), (.int .i64 i26)]⟩) (((w16.setCell q1 (.bool b17)).setCell (q1.add 1) (.slice a18 n19 c20)).setCell (q1.add 2) (.int .i64 i21)))
theorem straightedgeref02_Int.ok {A0 : Int} {w : World} {K : Value → World → Prop} (h : straightedgeref02_Int.x A0 w K) : straightedgeref02_Int.call [(.int .i64 A0)] w K :=
  callF_of_ex0 (f := Try.f43) Try.func43 rfl mixed (by kernel_rfl) (Eq.mp (by kernel_rfl) h)

/-! ### straightedge/straightedgeref02.Whole: function 46 -/
def straightedgeref02_Whole.c2 (K : Value → World → Prop) : Nat → Bool → Int → Option Addr → Option Addr → Nat → Nat → World → Prop
  | 0, _, _, _, _, _, _, _ => False
  | fu + 1, z0, z1, z4, z5p, z5n, z5c, w => br (decide (z1 > 0)) (newB [(.int .i64 (IntKind.i64.wrap ((Int.tmod z1 65536))))] 3 w fun q1 w2 => Raw prog (Builtin.append_ #[31, 31] 31 ⟨[(.slice z5p z5n z5c), (.slice (some q1) 1 1)]⟩) w2 fun v3 w4 => ∃ (a5 : Option Addr) (n6 c7 : Nat), v3 = .slice a5 n6 c7 ∧ straightedgeref02_Whole.c2 K fu z0 (IntKind.u64.wrap (Int.tdiv z1 65536)) z4 a5 n6 c7 w4) (straightedgeref02_Made.call [(.bool z0), (.slice z5p z5n z5c), (.int .i64 0)] w fun v8 w9 => ∃ b10 : Bool, ∃ (a11 : Option Addr) (n12 c13 : Nat), ∃ i14 : Int, v8 = (.agg ⟨[(.bool b10), (.slice a11 n12 c13), (.int .i64 i14)]⟩) ∧ ptrSome z4 fun q15 => (w9.cell? q15).isSome = true ∧ w9.frozen? q15 = false ∧ ((w9.setCell q15 (.bool b10)).cell? (q15.add 1)).isSome = true ∧ (w9.setCell q15 (.bool b10)).frozen? (q15.add 1) = false ∧ (((w9.setCell q15 (.bool b10)).setCell (q15.add 1) (.slice a11 n12 c13)).cell? (q15.add 2)).isSome = true ∧ ((w9.setCell q15 (.bool b10)).setCell (q15.add 1) (.slice a11 n12 c13)).frozen? (q15.add 2) = false ∧ ptrSome z4 fun q16 => ∃ b17 : Bool, ∃ (a18 : Option Addr) (n19 c20 : Nat), ∃ i21 : Int, (((w9.setCell q15 (.bool b10)).setCell (q15.add 1) (.slice a11 n12 c13)).setCell (q15.add 2) (.int .i64 i14)).cell? q16 = some (.bool b17) ∧ (((w9.setCell q15 (.bool b10)).setCell (q15.add 1) (.slice a11 n12 c13)).setCell (q15.add 2) (.int .i64 i14)).cell? (q16.add 1) = some (.slice a18 n19 c20) ∧ (((w9.setCell q15 (.bool b10)).setCell (q15.add 1) (.slice a11 n12 c13)).setCell (q15.add 2) (.int .i64 i14)).cell? (q16.add 2) = some (.int .i64 i21) ∧ K (.agg ⟨[(.bool b17), (.slice a18 n19 c20), (.int .i64 i21)]⟩) (((w9.setCell q15 (.bool b10)).setCell (q15.add 1) (.slice a11 n12 c13)).setCell (q15.add 2) (.int .i64 i14)))
def straightedgeref02_Whole.x (fu : Nat) (A0 : Bool) (A1 : Int) (w : World) (K : Value → World → Prop) : Prop := newB [(.bool false), (.slice none 0 0), (.int .i64 0)] 45 w fun q1 w2 => straightedgeref02_Whole.c2 K fu A0 A1 (some q1) none 0 0 w2
def straightedgeref02_Whole.hd (K : Value → World → Prop) (n id : Nat) (t : List Value) (w : World) : Prop :=
  match id with
  | 2 => asB (t.getD 0 undef) fun z0 => asI .u64 (t.getD 1 undef) fun z1 => asP (t.getD 4 undef) fun z4 => asL (t.getD 5 undef) fun z5p z5n z5c => straightedgeref02_Whole.c2 K n z0 z1 z4 z5p z5n z5c w
  | _ => False
theorem straightedgeref02_Whole.t2 (K : Value → World → Prop) (n : Nat) (z0 : Bool) (z1 : Int) (z4 : Option Addr) (z5p : Option Addr) (z5n z5c : Nat) (u : Nat → Value) (w : World) (h : straightedgeref02_Whole.c2 K (n + 1) z0 z1 z4 z5p z5n z5c w) :
    exT prog [2] (straightedgeref02_Whole.hd K n) Try.f46 2 19 [(0, (.bool z0)), (1, (.int .u64 z1)), (4, (.pointer z4)), (5, (.slice z5p z5n z5c))] u w K := Eq.mp (by kernel_rfl) h
theorem straightedgeref02_Whole.ok (fu : Nat) {A0 : Bool} {A1 : Int} {w : World} {K : Value → World → Prop} (h : straightedgeref02_Whole.x fu A0 A1 w K) : straightedgeref02_Whole.call [(.bool A0), (.int .u64 A1)] w K := by
  refine callF_of_ex (cuts := [2]) (H := straightedgeref02_Whole.hd K) (N := 19) Try.func46 rfl mixed (by kernel_rfl) ?_ ?_ ?_ rfl (n := fu) (Eq.mp (by kernel_rfl) h)
  · intro id hid; simp only [List.mem_cons, List.not_mem_nil, or_false] at hid; subst hid
    · exact (by kernel_rfl : (stacks (bodyOf Try.f46) []).filter (headIs 2) = [at_ (bodyOf Try.f46) 2])
  · intro id t w h
    unfold straightedgeref02_Whole.hd at h
    split at h
    · obtain ⟨z0, _, h⟩ := asB_elim h
      obtain ⟨z1, _, h⟩ := asI_elim h
      obtain ⟨z4, _, h⟩ := asP_elim h
      obtain ⟨z5p, z5n, z5c, _, h⟩ := asL_elim h
      exact h
    · exact h
  · intro n id hid t w hl h; simp only [List.mem_cons, List.not_mem_nil, or_false] at hid; subst hid
    · replace h : asB (t.getD 0 undef) fun z0 => asI .u64 (t.getD 1 undef) fun z1 => asP (t.getD 4 undef) fun z4 => asL (t.getD 5 undef) fun z5p z5n z5c => straightedgeref02_Whole.c2 K (n + 1) z0 z1 z4 z5p z5n z5c w := h
      obtain ⟨z0, e0, h⟩ := asB_elim h
      obtain ⟨z1, e1, h⟩ := asI_elim h
      obtain ⟨z4, e4, h⟩ := asP_elim h
      obtain ⟨z5p, z5n, z5c, e5, h⟩ := asL_elim h
      rw [mk_of hl [(0, (.bool z0)), (1, (.int .u64 z1)), (4, (.pointer z4)), (5, (.slice z5p z5n z5c))] (by simp only [List.forall_mem_cons, List.not_mem_nil, false_implies, implies_true, and_true]; exact ⟨e0, e1, e4, e5⟩)]
      exact straightedgeref02_Whole.t2 K n z0 z1 z4 z5p z5n z5c _ w h

/-! ### straightedge/straightedgeref02.Made: function 48 -/
def straightedgeref02_Made.b1 (K : Value → World → Prop) (h1 : Bool → Option Addr → Nat → Nat → Int → Option Addr → World → Prop) (h4 : Bool → Option Addr → Nat → Nat → Int → Option Addr → World → Prop) (z0 : Bool) (z1p : Option Addr) (z1n z1c : Nat) (z2 : Int) (z6 : Option Addr) (w : World) : Prop := br (decide (((z1n : Nat) : Int) > 0)) (ptrSome z1p fun q1 => (0 : Int) ≤ 0 ∧ 0 < ((z1n : Nat) : Int) ∧ ∃ i2 : Int, w.cell? (q1.add (Int.toNat 0)) = some (.int .i64 i2) ∧ br (i2 == 0) ((0 : Int) ≤ 1 ∧ 1 ≤ ((z1n : Nat) : Int) ∧ h1 z0 (if z1c = (Int.toNat 1) then z1p else z1p.map (·.add ((Int.toNat 1) * 1))) (z1n - (Int.toNat 1)) (z1c - (Int.toNat 1)) (IntKind.i64.wrap (z2 + 1)) z6 w) (h4 z0 z1p z1n z1c z2 z6 w)) (h4 z0 z1p z1n z1c z2 z6 w)
def straightedgeref02_Made.b4 (K : Value → World → Prop) (h1 : Bool → Option Addr → Nat → Nat → Int → Option Addr → World → Prop) (h4 : Bool → Option Addr → Nat → Nat → Int → Option Addr → World → Prop) (z0 : Bool) (z1p : Option Addr) (z1n z1c : Nat) (z2 : Int) (z6 : Option Addr) (w : World) : Prop := br (decide (((z1n : Nat) : Int) > 0)) (ptrSome z1p fun q1 => (0 : Int) ≤ (IntKind.i64.wrap (((z1n : Nat) : Int) - 1)) ∧ (IntKind.i64.wrap (((z1n : Nat) : Int) - 1)) < ((z1n : Nat) : Int) ∧ ∃ i2 : Int, w.cell? (q1.add (Int.toNat (IntKind.i64.wrap (((z1n : Nat) : Int) - 1)))) = some (.int .i64 i2) ∧ br (i2 == 0) ((0 : Int) ≤ (IntKind.i64.wrap (((z1n : Nat) : Int) - 1)) ∧ (IntKind.i64.wrap (((z1n : Nat) : Int) - 1)) ≤ ((z1c : Nat) : Int) ∧ h4 z0 (if z1c = 0 then z1p else z1p.map (·.add (0 * 1))) ((Int.toNat (IntKind.i64.wrap (((z1n : Nat) : Int) - 1))) - 0) (z1c - 0) z2 z6 w) (br (((z1n : Nat) : Int) == 0) (ptrSome z6 fun q3 => (w.cell? q3).isSome = true ∧ w.frozen? q3 = false ∧ ((w.setCell q3 (.bool false)).cell? (q3.add 1)).isSome = true ∧ (w.setCell q3 (.bool false)).frozen? (q3.add 1) = false ∧ (((w.setCell q3 (.bool false)).setCell (q3.add 1) (.slice none 0 0)).cell? (q3.add 2)).isSome = true ∧ ((w.setCell q3 (.bool false)).setCell (q3.add 1) (.slice none 0 0)).frozen? (q3.add 2) = false ∧ ptrSome z6 fun q4 => ∃ b5 : Bool, ∃ (a6 : Option Addr) (n7 c8 : Nat), ∃ i9 : Int, (((w.setCell q3 (.bool false)).setCell (q3.add 1) (.slice none 0 0)).setCell (q3.add 2) (.int .i64 0)).cell? q4 = some (.bool b5) ∧ (((w.setCell q3 (.bool false)).setCell (q3.add 1) (.slice none 0 0)).setCell (q3.add 2) (.int .i64 0)).cell? (q4.add 1) = some (.slice a6 n7 c8) ∧ (((w.setCell q3 (.bool false)).setCell (q3.add 1) (.slice none 0 0)).setCell (q3.add 2) (.int .i64 0)).cell? (q4.add 2) = some (.int .i64 i9) ∧ K (.agg ⟨[(.bool b5), (.slice a6 n7 c8), (.int .i64 i9)]⟩) (((w.setCell q3 (.bool false)).setCell (q3.add 1) (.slice none 0 0)).setCell (q3.add 2) (.int .i64 0))) (ptrSome z6 fun q10 => (w.cell? q10).isSome = true ∧ w.frozen? q10 = false ∧ ((w.setCell q10 (.bool z0)).cell? (q10.add 1)).isSome = true ∧ (w.setCell q10 (.bool z0)).frozen? (q10.add 1) = false ∧ (((w.setCell q10 (.bool z0)).setCell (q10.add 1) (.slice z1p z1n z1c)).cell? (q10.add 2)).isSome = true ∧ ((w.setCell q10 (.bool z0)).setCell (q10.add 1) (.slice z1p z1n z1c)).frozen? (q10.add 2) = false ∧ ptrSome z6 fun q11 => ∃ b12 : Bool, ∃ (a13 : Option Addr) (n14 c15 : Nat), ∃ i16 : Int, (((w.setCell q10 (.bool z0)).setCell (q10.add 1) (.slice z1p z1n z1c)).setCell (q10.add 2) (.int .i64 z2)).cell? q11 = some (.bool b12) ∧ (((w.setCell q10 (.bool z0)).setCell (q10.add 1) (.slice z1p z1n z1c)).setCell (q10.add 2) (.int .i64 z2)).cell? (q11.add 1) = some (.slice a13 n14 c15) ∧ (((w.setCell q10 (.bool z0)).setCell (q10.add 1) (.slice z1p z1n z1c)).setCell (q10.add 2) (.int .i64 z2)).cell? (q11.add 2) = some (.int .i64 i16) ∧ K (.agg ⟨[(.bool b12), (.slice a13 n14 c15), (.int .i64 i16)]⟩) (((w.setCell q10 (.bool z0)).setCell (q10.add 1) (.slice z1p z1n z1c)).setCell (q10.add 2) (.int .i64 z2))))) (br (((z1n : Nat) : Int) == 0) (ptrSome z6 fun q17 => (w.cell? q17).isSome = true ∧ w.frozen? q17 = false ∧ ((w.setCell q17 (.bool false)).cell? (q17.add 1)).isSome = true ∧ (w.setCell q17 (.bool false)).frozen? (q17.add 1) = false ∧ (((w.setCell q17 (.bool false)).setCell (q17.add 1) (.slice none 0 0)).cell? (q17.add 2)).isSome = true ∧ ((w.setCell q17 (.bool false)).setCell (q17.add 1) (.slice none 0 0)).frozen? (q17.add 2) = false ∧ ptrSome z6 fun q18 => ∃ b19 : Bool, ∃ (a20 : Option Addr) (n21 c22 : Nat), ∃ i23 : Int, (((w.setCell q17 (.bool false)).setCell (q17.add 1) (.slice none 0 0)).setCell (q17.add 2) (.int .i64 0)).cell? q18 = some (.bool b19) ∧ (((w.setCell q17 (.bool false)).setCell (q17.add 1) (.slice none 0 0)).setCell (q17.add 2) (.int .i64 0)).cell? (q18.add 1) = some (.slice a20 n21 c22) ∧ (((w.setCell q17 (.bool false)).setCell (q17.add 1) (.slice none 0 0)).setCell (q17.add 2) (.int .i64 0)).cell? (q18.add 2) = some (.int .i64 i23) ∧ K (.agg ⟨[(.bool b19), (.slice a20 n21 c22), (.int .i64 i23)]⟩) (((w.setCell q17 (.bool false)).setCell (q17.add 1) (.slice none 0 0)).setCell (q17.add 2) (.int .i64 0))) (ptrSome z6 fun q24 => (w.cell? q24).isSome = true ∧ w.frozen? q24 = false ∧ ((w.setCell q24 (.bool z0)).cell? (q24.add 1)).isSome = true ∧ (w.setCell q24 (.bool z0)).frozen? (q24.add 1) = false ∧ (((w.setCell q24 (.bool z0)).setCell (q24.add 1) (.slice z1p z1n z1c)).cell? (q24.add 2)).isSome = true ∧ ((w.setCell q24 (.bool z0)).setCell (q24.add 1) (.slice z1p z1n z1c)).frozen? (q24.add 2) = false ∧ ptrSome z6 fun q25 => ∃ b26 : Bool, ∃ (a27 : Option Addr) (n28 c29 : Nat), ∃ i30 : Int, (((w.setCell q24 (.bool z0)).setCell (q24.add 1) (.slice z1p z1n z1c)).setCell (q24.add 2) (.int .i64 z2)).cell? q25 = some (.bool b26) ∧ (((w.setCell q24 (.bool z0)).setCell (q24.add 1) (.slice z1p z1n z1c)).setCell (q24.add 2) (.int .i64 z2)).cell? (q25.add 1) = some (.slice a27 n28 c29) ∧ (((w.setCell q24 (.bool z0)).setCell (q24.add 1) (.slice z1p z1n z1c)).setCell (q24.add 2) (.int .i64 z2)).cell? (q25.add 2) = some (.int .i64 i30) ∧ K (.agg ⟨[(.bool b26), (.slice a27 n28 c29), (.int .i64 i30)]⟩) (((w.setCell q24 (.bool z0)).setCell (q24.add 1) (.slice z1p z1n z1c)).setCell (q24.add 2) (.int .i64 z2))))
def straightedgeref02_Made.H (K : Value → World → Prop) : Nat → (Bool → Option Addr → Nat → Nat → Int → Option Addr → World → Prop) × (Bool → Option Addr → Nat → Nat → Int → Option Addr → World → Prop)
  | 0 => (fun _ _ _ _ _ _ _ => False, fun _ _ _ _ _ _ _ => False)
  | fu + 1 => (straightedgeref02_Made.b1 K (straightedgeref02_Made.H K fu).1 (straightedgeref02_Made.H K fu).2, straightedgeref02_Made.b4 K (straightedgeref02_Made.H K fu).1 (straightedgeref02_Made.H K fu).2)
def straightedgeref02_Made.x (fu : Nat) (A0 : Bool) (A1p : Option Addr) (A1n A1c : Nat) (A2 : Int) (w : World) (K : Value → World → Prop) : Prop := newB [(.bool false), (.slice none 0 0), (.int .i64 0)] 45 w fun q1 w2 => (straightedgeref02_Made.H K fu).1 A0 A1p A1n A1c A2 (some q1) w2
def straightedgeref02_Made.hd (K : Value → World → Prop) (n id : Nat) (t : List Value) (w : World) : Prop :=
  match id with
  | 1 => asB (t.getD 0 undef) fun z0 => asL (t.getD 1 undef) fun z1p z1n z1c => asI .i64 (t.getD 2 undef) fun z2 => asP (t.getD 6 undef) fun z6 => (straightedgeref02_Made.H K n).1 z0 z1p z1n z1c z2 z6 w
  | 4 => asB (t.getD 0 undef) fun z0 => asL (t.getD 1 undef) fun z1p z1n z1c => asI .i64 (t.getD 2 undef) fun z2 => asP (t.getD 6 undef) fun z6 => (straightedgeref02_Made.H K n).2 z0 z1p z1n z1c z2 z6 w
  | _ => False
theorem straightedgeref02_Made.t1 (K : Value → World → Prop) (n : Nat) (z0 : Bool) (z1p : Option Addr) (z1n z1c : Nat) (z2 : Int) (z6 : Option Addr) (u : Nat → Value) (w : World) (h : (straightedgeref02_Made.H K (n + 1)).1 z0 z1p z1n z1c z2 z6 w) :
    exT prog [1, 4] (straightedgeref02_Made.hd K n) Try.f48 1 45 [(0, (.bool z0)), (1, (.slice z1p z1n z1c)), (2, (.int .i64 z2)), (6, (.pointer z6))] u w K := Eq.mp (by kernel_rfl) h
theorem straightedgeref02_Made.t4 (K : Value → World → Prop) (n : Nat) (z0 : Bool) (z1p : Option Addr) (z1n z1c : Nat) (z2 : Int) (z6 : Option Addr) (u : Nat → Value) (w : World) (h : (straightedgeref02_Made.H K (n + 1)).2 z0 z1p z1n z1c z2 z6 w) :
    exT prog [1, 4] (straightedgeref02_Made.hd K n) Try.f48 4 45 [(0, (.bool z0)), (1, (.slice z1p z1n z1c)), (2, (.int .i64 z2)), (6, (.pointer z6))] u w K := Eq.mp (by kernel_rfl) h
theorem straightedgeref02_Made.ok (fu : Nat) {A0 : Bool} {A1p : Option Addr} {A1n A1c : Nat} {A2 : Int} {w : World} {K : Value → World → Prop} (h : straightedgeref02_Made.x fu A0 A1p A1n A1c A2 w K) : straightedgeref02_Made.call [(.bool A0), (.slice A1p A1n A1c), (.int .i64 A2)] w K := by
  refine callF_of_ex (cuts := [1, 4]) (H := straightedgeref02_Made.hd K) (N := 45) Try.func48 rfl mixed (by kernel_rfl) ?_ ?_ ?_ rfl (n := fu) (Eq.mp (by kernel_rfl) h)
  · intro id hid; simp only [List.mem_cons, List.not_mem_nil, or_false] at hid; rcases hid with rfl | rfl
    · exact (by kernel_rfl : (stacks (bodyOf Try.f48) []).filter (headIs 1) = [at_ (bodyOf Try.f48) 1])
    · exact (by kernel_rfl : (stacks (bodyOf Try.f48) []).filter (headIs 4) = [at_ (bodyOf Try.f48) 4])
  · intro id t w h
    unfold straightedgeref02_Made.hd at h
    split at h
    · obtain ⟨z0, _, h⟩ := asB_elim h
      obtain ⟨z1p, z1n, z1c, _, h⟩ := asL_elim h
      obtain ⟨z2, _, h⟩ := asI_elim h
      obtain ⟨z6, _, h⟩ := asP_elim h
      exact h
    · obtain ⟨z0, _, h⟩ := asB_elim h
      obtain ⟨z1p, z1n, z1c, _, h⟩ := asL_elim h
      obtain ⟨z2, _, h⟩ := asI_elim h
      obtain ⟨z6, _, h⟩ := asP_elim h
      exact h
    · exact h
  · intro n id hid t w hl h; simp only [List.mem_cons, List.not_mem_nil, or_false] at hid; rcases hid with rfl | rfl
    · replace h : asB (t.getD 0 undef) fun z0 => asL (t.getD 1 undef) fun z1p z1n z1c => asI .i64 (t.getD 2 undef) fun z2 => asP (t.getD 6 undef) fun z6 => (straightedgeref02_Made.H K (n + 1)).1 z0 z1p z1n z1c z2 z6 w := h
      obtain ⟨z0, e0, h⟩ := asB_elim h
      obtain ⟨z1p, z1n, z1c, e1, h⟩ := asL_elim h
      obtain ⟨z2, e2, h⟩ := asI_elim h
      obtain ⟨z6, e6, h⟩ := asP_elim h
      rw [mk_of hl [(0, (.bool z0)), (1, (.slice z1p z1n z1c)), (2, (.int .i64 z2)), (6, (.pointer z6))] (by simp only [List.forall_mem_cons, List.not_mem_nil, false_implies, implies_true, and_true]; exact ⟨e0, e1, e2, e6⟩)]
      exact straightedgeref02_Made.t1 K n z0 z1p z1n z1c z2 z6 _ w h
    · replace h : asB (t.getD 0 undef) fun z0 => asL (t.getD 1 undef) fun z1p z1n z1c => asI .i64 (t.getD 2 undef) fun z2 => asP (t.getD 6 undef) fun z6 => (straightedgeref02_Made.H K (n + 1)).2 z0 z1p z1n z1c z2 z6 w := h
      obtain ⟨z0, e0, h⟩ := asB_elim h
      obtain ⟨z1p, z1n, z1c, e1, h⟩ := asL_elim h
      obtain ⟨z2, e2, h⟩ := asI_elim h
      obtain ⟨z6, e6, h⟩ := asP_elim h
      rw [mk_of hl [(0, (.bool z0)), (1, (.slice z1p z1n z1c)), (2, (.int .i64 z2)), (6, (.pointer z6))] (by simp only [List.forall_mem_cons, List.not_mem_nil, false_implies, implies_true, and_true]; exact ⟨e0, e1, e2, e6⟩)]
      exact straightedgeref02_Made.t4 K n z0 z1p z1n z1c z2 z6 _ w h

/-! ### (straightedge/straightedgeref02.D).Minus: function 49 -/
def straightedgeref02_D_Minus.x (A0_0 : Bool) (A0_1p : Option Addr) (A0_1n A0_1c : Nat) (A0_2 : Int) (w : World) (K : Value → World → Prop) : Prop := newB [(.bool A0_0), (.slice A0_1p A0_1n A0_1c), (.int .i64 A0_2)] 45 w fun q1 w2 => newB [(.bool false), (.slice none 0 0), (.int .i64 0)] 45 w2 fun q3 w4 => ∃ (a5 : Option Addr) (n6 c7 : Nat), w4.cell? (q1.add 1) = some (.slice a5 n6 c7) ∧ br (decide (((n6 : Nat) : Int) > 0)) (∃ b8 : Bool, w4.cell? q1 = some (.bool b8) ∧ (w4.cell? q1).isSome = true ∧ w4.frozen? q1 = false ∧ ∃ b9 : Bool, ∃ (a10 : Option Addr) (n11 c12 : Nat), ∃ i13 : Int, (w4.setCell q1 (.bool (!b8))).cell? q1 = some (.bool b9) ∧ (w4.setCell q1 (.bool (!b8))).cell? (q1.add 1) = some (.slice a10 n11 c12) ∧ (w4.setCell q1 (.bool (!b8))).cell? (q1.add 2) = some (.int .i64 i13) ∧ ((w4.setCell q1 (.bool (!b8))).cell? q3).isSome = true ∧ (w4.setCell q1 (.bool (!b8))).frozen? q3 = false ∧ (((w4.setCell q1 (.bool (!b8))).setCell q3 (.bool b9)).cell? (q3.add 1)).isSome = true ∧ ((w4.setCell q1 (.bool (!b8))).setCell q3 (.bool b9)).frozen? (q3.add 1) = false ∧ ((((w4.setCell q1 (.bool (!b8))).setCell q3 (.bool b9)).setCell (q3.add 1) (.slice a10 n11 c12)).cell? (q3.add 2)).isSome = true ∧ (((w4.setCell q1 (.bool (!b8))).setCell q3 (.bool b9)).setCell (q3.add 1) (.slice a10 n11 c12)).frozen? (q3.add 2) = false ∧ ∃ b14 : Bool, ∃ (a15 : Option Addr) (n16 c17 : Nat), ∃ i18 : Int, ((((w4.setCell q1 (.bool (!b8))).setCell q3 (.bool b9)).setCell (q3.add 1) (.slice a10 n11 c12)).setCell (q3.add 2) (.int .i64 i13)).cell? q3 = some (.bool b14) ∧ ((((w4.setCell q1 (.bool (!b8))).setCell q3 (.bool b9)).setCell (q3.add 1) (.slice a10 n11 c12)).setCell (q3.add 2) (.int .i64 i13)).cell? (q3.add 1) = some (.slice a15 n16 c17) ∧ ((((w4.setCell q1 (.bool (!b8))).setCell q3 (.bool b9)).setCell (q3.add 1) (.slice a10 n11 c12)).setCell (q3.add 2) (.int .i64 i13)).cell? (q3.add 2) = some (.int .i64 i18) ∧ K (.agg ⟨[(.bool b14), (.slice a15 n16 c17), (.int .i64 i18)]⟩) ((((w4.setCell q1 (.bool (!b8))).setCell q3 (.bool b9)).setCell (q3.add 1) (.slice a10 n11 c12)).setCell (q3.add 2) (.int .i64 i13))) (∃ b19 : Bool, ∃ (a20 : Option Addr) (n21 c22 : Nat), ∃ i23 : Int, w4.cell? q1 = some (.bool b19) ∧ w4.cell? (q1.add 1) = some (.slice a20 n21 c22) ∧ w4.cell? (q1.add 2) = some (.int .i64 i23) ∧ (w4.cell? q3).isSome = true ∧ w4.frozen? q3 = false ∧ ((w4.setCell q3 (.bool b19)).cell? (q3.add 1)).isSome = true ∧ (w4.setCell q3 (.bool b19)).frozen? (q3.add 1) = false ∧ (((w4.setCell q3 (.bool b19)).setCell (q3.add 1) (.slice a20 n21 c22)).cell? (q3.add 2)).isSome = true ∧ ((w4.setCell q3 (.bool b19)).setCell (q3.add 1) (.slice a20 n21 c22)).frozen? (q3.add 2) = false ∧ ∃ b24 : Bool, ∃ (a25 : Option Addr) (n26 c27 : Nat), ∃ i28 : Int, (((w4.setCell q3 (.bool b19)).setCell (q3.add 1) (.slice a20 n21 c22)).setCell (q3.add 2) (.int .i64 i23)).cell? q3 = some (.bool b24) ∧ (((w4.setCell q3 (.bool b19)).setCell (q3.add 1) (.slice a20 n21 c22)).setCell (q3.add 2) (.int .i64 i23)).cell? (q3.add 1) = some (.slice a25 n26 c27) ∧ (((w4.setCell q3 (.bool b19)).setCell (q3.add 1) (.slice a20 n21 c22)).setCell (q3.add 2) (.int .i64 i23)).cell? (q3.add 2) = some (.int .i64 i28) ∧ K (.agg ⟨[(.bool b24), (.slice a25 n26 c27), (.int .i64 i28)]⟩) (((w4.setCell q3 (.bool b19)).setCell (q3.add 1) (.slice a20 n21 c22)).setCell (q3.add 2) (.int .i64 i23)))
theorem straightedgeref02_D_Minus.ok {A0_0 : Bool} {A0_1p : Option Addr} {A0_1n A0_1c : Nat} {A0_2 : Int} {w : World} {K : Value → World → Prop} (h : straightedgeref02_D_Minus.x A0_0 A0_1p A0_1n A0_1c A0_2 w K) : straightedgeref02_D_Minus.call [(.agg ⟨[(.bool A0_0), (.slice A0_1p A0_1n A0_1c), (.int .i64 A0_2)]⟩)] w K :=
  callF_of_ex0 (f := Try.f49) Try.func49 rfl mixed (by kernel_rfl) (Eq.mp (by kernel_rfl) h)

/-! ### (straightedge/straightedgeref02.D).Sign: function 50 -/
def straightedgeref02_D_Sign.x (A0_0 : Bool) (A0_1p : Option Addr) (A0_1n A0_1c : Nat) (A0_2 : Int) (w : World) (K : Value → World → Prop) : Prop := newB [(.bool A0_0), (.slice A0_1p A0_1n A0_1c), (.int .i64 A0_2)] 45 w fun q1 w2 => ∃ (a3 : Option Addr) (n4 c5 : Nat), w2.cell? (q1.add 1) = some (.slice a3 n4 c5) ∧ br (((n4 : Nat) : Int) == 0) (K (.int .i64 0) w2) (∃ b6 : Bool, w2.cell? q1 = some (.bool b6) ∧ br b6 (K (.int .i64 (-1)) w2) (K (.int .i64 1) w2))
theorem straightedgeref02_D_Sign.ok {A0_0 : Bool} {A0_1p : Option Addr} {A0_1n A0_1c : Nat} {A0_2 : Int} {w : World} {K : Value → World → Prop} (h : straightedgeref02_D_Sign.x A0_0 A0_1p A0_1n A0_1c A0_2 w K) : straightedgeref02_D_Sign.call [(.agg ⟨[(.bool A0_0), (.slice A0_1p A0_1n A0_1c), (.int .i64 A0_2)]⟩)] w K :=
  callF_of_ex0 (f := Try.f50) Try.func50 rfl mixed (by kernel_rfl) (Eq.mp (by kernel_rfl) h)

/-! ### straightedge/straightedgeref02.floor: function 51 -/
def straightedgeref02_floor.x (A0 : Int) (w : World) (K : Value → World → Prop) : Prop := K (.tuple ⟨[(.int .i64 (IntKind.i64.wrap (Int.tdiv (IntKind.i64.wrap (A0 - (Int.tmod (IntKind.i64.wrap ((Int.tmod A0 16) + 16)) 16))) 16))), (.int .i64 (Int.tmod (IntKind.i64.wrap ((Int.tmod A0 16) + 16)) 16))]⟩) w
theorem straightedgeref02_floor.ok {A0 : Int} {w : World} {K : Value → World → Prop} (h : straightedgeref02_floor.x A0 w K) : straightedgeref02_floor.call [(.int .i64 A0)] w K :=
  callF_of_ex0 (f := Try.f51) Try.func51 rfl mixed (by kernel_rfl) (Eq.mp (by kernel_rfl) h)

/-! ### straightedge/straightedgeref02.power: function 52 -/
def straightedgeref02_power.c3 (K : Value → World → Prop) : Nat → Int → Int → Int → World → Prop
  | 0, _, _, _, _ => False
  | fu + 1, z0, z3, z4, w => br (decide (z4 < z0)) (straightedgeref02_power.c3 K fu z0 (IntKind.i64.wrap (z3 * 2)) (IntKind.i64.wrap (z4 + 1)) w) (K (.int .i64 z3) w)
def straightedgeref02_power.x (fu : Nat) (A0 : Int) (w : World) (K : Value → World → Prop) : Prop := straightedgeref02_power.c3 K fu A0 1 0 w
def straightedgeref02_power.hd (K : Value → World → Prop) (n id : Nat) (t : List Value) (w : World) : Prop :=
  match id with
  | 3 => asI .i64 (t.getD 0 undef) fun z0 => asI .i64 (t.getD 3 undef) fun z3 => asI .i64 (t.getD 4 undef) fun z4 => straightedgeref02_power.c3 K n z0 z3 z4 w
  | _ => False
theorem straightedgeref02_power.t3 (K : Value → World → Prop) (n : Nat) (z0 : Int) (z3 : Int) (z4 : Int) (u : Nat → Value) (w : World) (h : straightedgeref02_power.c3 K (n + 1) z0 z3 z4 w) :
    exT prog [3] (straightedgeref02_power.hd K n) Try.f52 3 13 [(0, (.int .i64 z0)), (3, (.int .i64 z3)), (4, (.int .i64 z4))] u w K := Eq.mp (by kernel_rfl) h
theorem straightedgeref02_power.ok (fu : Nat) {A0 : Int} {w : World} {K : Value → World → Prop} (h : straightedgeref02_power.x fu A0 w K) : straightedgeref02_power.call [(.int .i64 A0)] w K := by
  refine callF_of_ex (cuts := [3]) (H := straightedgeref02_power.hd K) (N := 13) Try.func52 rfl mixed (by kernel_rfl) ?_ ?_ ?_ rfl (n := fu) (Eq.mp (by kernel_rfl) h)
  · intro id hid; simp only [List.mem_cons, List.not_mem_nil, or_false] at hid; subst hid
    · exact (by kernel_rfl : (stacks (bodyOf Try.f52) []).filter (headIs 3) = [at_ (bodyOf Try.f52) 3])
  · intro id t w h
    unfold straightedgeref02_power.hd at h
    split at h
    · obtain ⟨z0, _, h⟩ := asI_elim h
      obtain ⟨z3, _, h⟩ := asI_elim h
      obtain ⟨z4, _, h⟩ := asI_elim h
      exact h
    · exact h
  · intro n id hid t w hl h; simp only [List.mem_cons, List.not_mem_nil, or_false] at hid; subst hid
    · replace h : asI .i64 (t.getD 0 undef) fun z0 => asI .i64 (t.getD 3 undef) fun z3 => asI .i64 (t.getD 4 undef) fun z4 => straightedgeref02_power.c3 K (n + 1) z0 z3 z4 w := h
      obtain ⟨z0, e0, h⟩ := asI_elim h
      obtain ⟨z3, e3, h⟩ := asI_elim h
      obtain ⟨z4, e4, h⟩ := asI_elim h
      rw [mk_of hl [(0, (.int .i64 z0)), (3, (.int .i64 z3)), (4, (.int .i64 z4))] (by simp only [List.forall_mem_cons, List.not_mem_nil, false_implies, implies_true, and_true]; exact ⟨e0, e3, e4⟩)]
      exact straightedgeref02_power.t3 K n z0 z3 z4 _ w h

/-! ### straightedge/straightedgeref02.ends: function 53 -/
def straightedgeref02_ends.x (A0_0 : Bool) (A0_1p : Option Addr) (A0_1n A0_1c : Nat) (A0_2 : Int) (A1_0 : Bool) (A1_1p : Option Addr) (A1_1n A1_1c : Nat) (A1_2 : Int) (w : World) (K : Value → World → Prop) : Prop := newB [(.bool A0_0), (.slice A0_1p A0_1n A0_1c), (.int .i64 A0_2)] 45 w fun q1 w2 => newB [(.bool A1_0), (.slice A1_1p A1_1n A1_1c), (.int .i64 A1_2)] 45 w2 fun q3 w4 => ∃ (a5 : Option Addr) (n6 c7 : Nat), w4.cell? (q1.add 1) = some (.slice a5 n6 c7) ∧ br (((n6 : Nat) : Int) == 0) (∃ i8 : Int, w4.drew.cell? (q3.add 2) = some (.int .i64 i8) ∧ ∃ i9 : Int, w4.drew.cell? (q3.add 2) = some (.int .i64 i9) ∧ ∃ (a10 : Option Addr) (n11 c12 : Nat), w4.drew.cell? (q3.add 1) = some (.slice a10 n11 c12) ∧ K (.tuple ⟨[(.int .i64 i8), (.int .i64 (IntKind.i64.wrap (i9 + ((n11 : Nat) : Int))))]⟩) w4.drew) (∃ (a13 : Option Addr) (n14 c15 : Nat), w4.cell? (q3.add 1) = some (.slice a13 n14 c15) ∧ br (((n14 : Nat) : Int) == 0) (∃ i16 : Int, w4.drew.cell? (q1.add 2) = some (.int .i64 i16) ∧ ∃ i17 : Int, w4.drew.cell? (q1.add 2) = some (.int .i64 i17) ∧ ∃ (a18 : Option Addr) (n19 c20 : Nat), w4.drew.cell? (q1.add 1) = some (.slice a18 n19 c20) ∧ K (.tuple ⟨[(.int .i64 i16), (.int .i64 (IntKind.i64.wrap (i17 + ((n19 : Nat) : Int))))]⟩) w4.drew) (∃ i21 : Int, w4.drew.cell? (q1.add 2) = some (.int .i64 i21) ∧ ∃ i22 : Int, w4.drew.cell? (q3.add 2) = some (.int .i64 i22) ∧ ∃ i23 : Int, w4.drew.cell? (q1.add 2) = some (.int .i64 i23) ∧ ∃ (a24 : Option Addr) (n25 c26 : Nat), w4.drew.cell? (q1.add 1) = some (.slice a24 n25 c26) ∧ ∃ i27 : Int, w4.drew.cell? (q3.add 2) = some (.int .i64 i27) ∧ ∃ (a28 : Option Addr) (n29 c30 : Nat), w4.drew.cell? (q3.add 1) = some (.slice a28 n29 c30) ∧ K (.tuple ⟨[(.int .i64 (if i22 < i21 then i22 else i21)), (.int .i64 (if (IntKind.i64.wrap (i27 + ((n29 : Nat) : Int))) > (IntKind.i64.wrap (i23 + ((n25 : Nat) : Int))) then (IntKind.i64.wrap (i27 + ((n29 : Nat) : Int))) else (IntKind.i64.wrap (i23 + ((n25 : Nat) : Int)))))]⟩) w4.drew))
theorem straightedgeref02_ends.ok {A0_0 : Bool} {A0_1p : Option Addr} {A0_1n A0_1c : Nat} {A0_2 : Int} {A1_0 : Bool} {A1_1p : Option Addr} {A1_1n A1_1c : Nat} {A1_2 : Int} {w : World} {K : Value → World → Prop} (h : straightedgeref02_ends.x A0_0 A0_1p A0_1n A0_1c A0_2 A1_0 A1_1p A1_1n A1_1c A1_2 w K) : straightedgeref02_ends.call [(.agg ⟨[(.bool A0_0), (.slice A0_1p A0_1n A0_1c), (.int .i64 A0_2)]⟩), (.agg ⟨[(.bool A1_0), (.slice A1_1p A1_1n A1_1c), (.int .i64 A1_2)]⟩)] w K :=
  callF_of_ex0 (f := Try.f53) Try.func53 rfl mixed (by kernel_rfl) (Eq.mp (by kernel_rfl) h)

/-! ### (straightedge/straightedgeref02.D).at: function 54 -/
def straightedgeref02_D_at.x (A0_0 : Bool) (A0_1p : Option Addr) (A0_1n A0_1c : Nat) (A0_2 : Int) (A1 : Int) (w : World) (K : Value → World → Prop) : Prop := newB [(.bool A0_0), (.slice A0_1p A0_1n A0_1c), (.int .i64 A0_2)] 45 w fun q1 w2 => ∃ i3 : Int, w2.cell? (q1.add 2) = some (.int .i64 i3) ∧ br (decide (A1 < i3)) (K (.int .i64 0) w2) (∃ i4 : Int, w2.cell? (q1.add 2) = some (.int .i64 i4) ∧ ∃ (a5 : Option Addr) (n6 c7 : Nat), w2.cell? (q1.add 1) = some (.slice a5 n6 c7) ∧ br (decide (A1 ≥ (IntKind.i64.wrap (i4 + ((n6 : Nat) : Int))))) (K (.int .i64 0) w2) (∃ (a8 : Option Addr) (n9 c10 : Nat), w2.cell? (q1.add 1) = some (.slice a8 n9 c10) ∧ ∃ i11 : Int, w2.cell? (q1.add 2) = some (.int .i64 i11) ∧ ptrSome a8 fun q12 => (0 : Int) ≤ (IntKind.i64.wrap (A1 - i11)) ∧ (IntKind.i64.wrap (A1 - i11)) < ((n9 : Nat) : Int) ∧ ∃ i13 : Int, w2.cell? (q12.add (Int.toNat (IntKind.i64.wrap (A1 - i11)))) = some (.int .i64 i13) ∧ K (.int .i64 i13) w2))
theorem straightedgeref02_D_at.ok {A0_0 : Bool} {A0_1p : Option Addr} {A0_1n A0_1c : Nat} {A0_2 : Int} {A1 : Int} {w : World} {K : Value → World → Prop} (h : straightedgeref02_D_at.x A0_0 A0_1p A0_1n A0_1c A0_2 A1 w K) : straightedgeref02_D_at.call [(.agg ⟨[(.bool A0_0), (.slice A0_1p A0_1n A0_1c), (.int .i64 A0_2)]⟩), (.int .i64 A1)] w K :=
  callF_of_ex0 (f := Try.f54) Try.func54 rfl mixed (by kernel_rfl) (Eq.mp (by kernel_rfl) h)

/-! ### straightedge/straightedgeref02.size: function 55 -/
def straightedgeref02_size.c3 (K : Value → World → Prop) : Nat → Option Addr → Option Addr → Int → Int → World → Prop
  | 0, _, _, _, _, _ => False
  | fu + 1, z2, z3, z5, z7, w => br (decide (z7 ≥ z5)) (ptrSome z2 fun q1 => ∃ b2 : Bool, ∃ (a3 : Option Addr) (n4 c5 : Nat), ∃ i6 : Int, w.drew.cell? q1 = some (.bool b2) ∧ w.drew.cell? (q1.add 1) = some (.slice a3 n4 c5) ∧ w.drew.cell? (q1.add 2) = some (.int .i64 i6) ∧ ptrSome z3 fun q7 => ∃ b8 : Bool, ∃ (a9 : Option Addr) (n10 c11 : Nat), ∃ i12 : Int, w.drew.cell? q7 = some (.bool b8) ∧ w.drew.cell? (q7.add 1) = some (.slice a9 n10 c11) ∧ w.drew.cell? (q7.add 2) = some (.int .i64 i12) ∧ straightedgeref02_D_at.call [(.agg ⟨[(.bool b2), (.slice a3 n4 c5), (.int .i64 i6)]⟩), (.int .i64 z7)] w.drew fun v13 w14 => ∃ i15 : Int, v13 = (.int .i64 i15) ∧ Kept w.drew w14 ∧ straightedgeref02_D_at.call [(.agg ⟨[(.bool b8), (.slice a9 n10 c11), (.int .i64 i12)]⟩), (.int .i64 z7)] w14 fun v16 w17 => ∃ i18 : Int, v16 = (.int .i64 i18) ∧ br (i15 != i18) (ptrSome z2 fun q19 => ∃ b20 : Bool, ∃ (a21 : Option Addr) (n22 c23 : Nat), ∃ i24 : Int, w17.drew.cell? q19 = some (.bool b20) ∧ w17.drew.cell? (q19.add 1) = some (.slice a21 n22 c23) ∧ w17.drew.cell? (q19.add 2) = some (.int .i64 i24) ∧ ptrSome z3 fun q25 => ∃ b26 : Bool, ∃ (a27 : Option Addr) (n28 c29 : Nat), ∃ i30 : Int, w17.drew.cell? q25 = some (.bool b26) ∧ w17.drew.cell? (q25.add 1) = some (.slice a27 n28 c29) ∧ w17.drew.cell? (q25.add 2) = some (.int .i64 i30) ∧ straightedgeref02_D_at.call [(.agg ⟨[(.bool b20), (.slice a21 n22 c23), (.int .i64 i24)]⟩), (.int .i64 z7)] w17.drew fun v31 w32 => ∃ i33 : Int, v31 = (.int .i64 i33) ∧ Kept w17.drew w32 ∧ straightedgeref02_D_at.call [(.agg ⟨[(.bool b26), (.slice a27 n28 c29), (.int .i64 i30)]⟩), (.int .i64 z7)] w32 fun v34 w35 => ∃ i36 : Int, v34 = (.int .i64 i36) ∧ br (decide (i33 < i36)) (K (.int .i64 (-1)) w35) (K (.int .i64 1) w35)) (straightedgeref02_size.c3 K fu z2 z3 z5 (IntKind.i64.wrap (z7 - 1)) w17)) (K (.int .i64 0) w)
def straightedgeref02_size.x (fu : Nat) (A0_0 : Bool) (A0_1p : Option Addr) (A0_1n A0_1c : Nat) (A0_2 : Int) (A1_0 : Bool) (A1_1p : Option Addr) (A1_1n A1_1c : Nat) (A1_2 : Int) (w : World) (K : Value → World → Prop) : Prop := newB [(.bool A0_0), (.slice A0_1p A0_1n A0_1c), (.int .i64 A0_2)] 45 w fun q1 w2 => newB [(.bool A1_0), (.slice A1_1p A1_1n A1_1c), (.int .i64 A1_2)] 45 w2 fun q3 w4 => ∃ b5 : Bool, ∃ (a6 : Option Addr) (n7 c8 : Nat), ∃ i9 : Int, w4.cell? q1 = some (.bool b5) ∧ w4.cell? (q1.add 1) = some (.slice a6 n7 c8) ∧ w4.cell? (q1.add 2) = some (.int .i64 i9) ∧ ∃ b10 : Bool, ∃ (a11 : Option Addr) (n12 c13 : Nat), ∃ i14 : Int, w4.cell? q3 = some (.bool b10) ∧ w4.cell? (q3.add 1) = some (.slice a11 n12 c13) ∧ w4.cell? (q3.add 2) = some (.int .i64 i14) ∧ straightedgeref02_ends.call [(.agg ⟨[(.bool b5), (.slice a6 n7 c8), (.int .i64 i9)]⟩), (.agg ⟨[(.bool b10), (.slice a11 n12 c13), (.int .i64 i14)]⟩)] w4 fun v15 w16 => ∃ i17 : Int, ∃ i18 : Int, v15 = (.tuple ⟨[(.int .i64 i17), (.int .i64 i18)]⟩) ∧ straightedgeref02_size.c3 K fu (some q1) (some q3) i17 (IntKind.i64.wrap (i18 - 1)) w16
def straightedgeref02_size.hd (K : Value → World → Prop) (n id : Nat) (t : List Value) (w : World) : Prop :=
  match id with
  | 3 => asP (t.getD 2 undef) fun z2 => asP (t.getD 3 undef) fun z3 => asI .i64 (t.getD 5 undef) fun z5 => asI .i64 (t.getD 7 undef) fun z7 => straightedgeref02_size.c3 K n z2 z3 z5 z7 w
  | _ => False
theorem straightedgeref02_size.t3 (K : Value → World → Prop) (n : Nat) (z2 : Option Addr) (z3 : Option Addr) (z5 : Int) (z7 : Int) (u : Nat → Value) (w : World) (h : straightedgeref02_size.c3 K (n + 1) z2 z3 z5 z7 w) :
    exT prog [3] (straightedgeref02_size.hd K n) Try.f55 3 35 [(2, (.pointer z2)), (3, (.pointer z3)), (5, (.int .i64 z5)), (7, (.int .i64 z7))] u w K := Eq.mp (by kernel_rfl) h
theorem straightedgeref02_size.ok (fu : Nat) {A0_0 : Bool} {A0_1p : Option Addr} {A0_1n A0_1c : Nat} {A0_2 : Int} {A1_0 : Bool} {A1_1p : Option Addr} {A1_1n A1_1c : Nat} {A1_2 : Int} {w : World} {K : Value → World → Prop} (h : straightedgeref02_size.x fu A0_0 A0_1p A0_1n A0_1c A0_2 A1_0 A1_1p A1_1n A1_1c A1_2 w K) : straightedgeref02_size.call [(.agg ⟨[(.bool A0_0), (.slice A0_1p A0_1n A0_1c), (.int .i64 A0_2)]⟩), (.agg ⟨[(.bool A1_0), (.slice A1_1p A1_1n A1_1c), (.int .i64 A1_2)]⟩)] w K := by
  refine callF_of_ex (cuts := [3]) (H := straightedgeref02_size.hd K) (N := 35) Try.func55 rfl mixed (by kernel_rfl) ?_ ?_ ?_ rfl (n := fu) (Eq.mp (by kernel_rfl) h)
  · intro id hid; simp only [List.mem_cons, List.not_mem_nil, or_false] at hid; subst hid
    · exact (by kernel_rfl : (stacks (bodyOf Try.f55) []).filter (headIs 3) = [at_ (bodyOf Try.f55) 3])
  · intro id t w h
    unfold straightedgeref02_size.hd at h
    split at h
    · obtain ⟨z2, _, h⟩ := asP_elim h
      obtain ⟨z3, _, h⟩ := asP_elim h
      obtain ⟨z5, _, h⟩ := asI_elim h
      obtain ⟨z7, _, h⟩ := asI_elim h
      exact h
    · exact h
  · intro n id hid t w hl h; simp only [List.mem_cons, List.not_mem_nil, or_false] at hid; subst hid
    · replace h : asP (t.getD 2 undef) fun z2 => asP (t.getD 3 undef) fun z3 => asI .i64 (t.getD 5 undef) fun z5 => asI .i64 (t.getD 7 undef) fun z7 => straightedgeref02_size.c3 K (n + 1) z2 z3 z5 z7 w := h
      obtain ⟨z2, e2, h⟩ := asP_elim h
      obtain ⟨z3, e3, h⟩ := asP_elim h
      obtain ⟨z5, e5, h⟩ := asI_elim h
      obtain ⟨z7, e7, h⟩ := asI_elim h
      rw [mk_of hl [(2, (.pointer z2)), (3, (.pointer z3)), (5, (.int .i64 z5)), (7, (.int .i64 z7))] (by simp only [List.forall_mem_cons, List.not_mem_nil, false_implies, implies_true, and_true]; exact ⟨e2, e3, e5, e7⟩)]
      exact straightedgeref02_size.t3 K n z2 z3 z5 z7 _ w h

end Go.Proofs.Ytgdkahbnepafgaa

/-! ### AGlu -/
/- The explicit forms of the functions of one package, and that the calls do what they say. Written by wip/tools/wk2.py. -/
set_option maxHeartbeats 4000000
set_option maxRecDepth 100000
set_option linter.unusedVariables false
namespace Go.Proofs.Ytgdkahbnepafgaa
open Go Go.Wk

/-! ### straightedge/lu.Factor: function 10 -/
def lu_Factor.b7 (K : Value → World → Prop) (h7 : Option Addr → Option Addr → Int → Int → Int → World → Prop) (h20 : Option Addr → Option Addr → Int → Int → Int → Option Addr → Option Addr → Nat → Nat → Int → Int → Int → World → Prop) (z2 : Option Addr) (z5 : Option Addr) (z6 : Int) (z27 : Int) (z28 : Int) (w : World) : Prop := br (decide (z28 < z27)) (ptrSome z5 fun q1 => rd_l_i64_i64_i64_i64 w q1 fun a2 n3 c4 i5 i6 i7 i8 => lu_Pivot.call [(.agg ⟨[(.slice a2 n3 c4), (.int .i64 i5), (.int .i64 i6), (.int .i64 i7), (.int .i64 i8)]⟩), (.int .i64 z28)] w fun v9 w10 => ∃ i11 : Int, ∃ b12 : Bool, v9 = (.tuple ⟨[(.int .i64 i11), (.bool b12)]⟩) ∧ br (!b12) (ptrSome z2 fun q13 => stPT q13 0 [(.slice none 0 0), (.int .i64 0), (.int .i64 0), (.int .i64 0), (.int .i64 0), (.slice none 0 0)] w10 fun w14 => ptrSome z2 fun q15 => rd_l_i64_i64_i64_i64_l w14 q15 fun a16 n17 c18 i19 i20 i21 i22 a23 n24 c25 => K (.tuple ⟨[(.agg ⟨[(.slice a16 n17 c18), (.int .i64 i19), (.int .i64 i20), (.int .i64 i21), (.int .i64 i22), (.slice a23 n24 c25)]⟩), (.int .i64 (IntKind.i64.wrap (z28 + 1))), (.int .i64 4)]⟩) w14) (ptrSome z2 fun q26 => rd_l w10 (q26.add 5) fun a27 n28 c29 => newB [(.int .i64 i11)] 3 w10 fun q30 w31 => Raw prog (Builtin.append_ #[31, 31] 31 ⟨[(.slice a27 n28 c29), (.slice (some q30) 1 1)]⟩) w31 fun v32 w33 => ∃ (a34 : Option Addr) (n35 c36 : Nat), v32 = .slice a34 n35 c36 ∧ ptrSome z2 fun q37 => stPT (q37.add 5) 0 [(.slice a34 n35 c36)] w33 fun w38 => br ((IntKind.i64.wrap ((IntKind.i64.wrap (z6 - z28)) - 1)) == 0) (ptrSome z2 fun q39 => rd_l_i64_i64_i64_i64_l w38 q39 fun a40 n41 c42 i43 i44 i45 i46 a47 n48 c49 => ptrSome z2 fun q50 => stPT q50 0 [(.slice a40 n41 c42), (.int .i64 i43), (.int .i64 i44), (.int .i64 i45), (.int .i64 i46), (.slice a47 n48 c49)] w38 fun w51 => ptrSome z2 fun q52 => rd_l_i64_i64_i64_i64_l w51 q52 fun a53 n54 c55 i56 i57 i58 i59 a60 n61 c62 => K (.tuple ⟨[(.agg ⟨[(.slice a53 n54 c55), (.int .i64 i56), (.int .i64 i57), (.int .i64 i58), (.int .i64 i59), (.slice a60 n61 c62)]⟩), (.int .i64 0), (.int .i64 0)]⟩) w51) (ptrSome z5 fun q63 => rd_l_i64_i64_i64_i64 w38 q63 fun a64 n65 c66 i67 i68 i69 i70 => lu_Column.call [(.agg ⟨[(.slice a64 n65 c66), (.int .i64 i67), (.int .i64 i68), (.int .i64 i69), (.int .i64 i70)]⟩), (.int .i64 z28)] w38 fun v71 w72 => ∃ (a73 : Option Addr) (n74 c75 : Nat), ∃ i76 : Int, ∃ i77 : Int, ∃ i78 : Int, v71 = (.agg ⟨[(.slice a73 n74 c75), (.int .i64 i76), (.int .i64 i77), (.int .i64 i78)]⟩) ∧ newB [(.slice none 0 0), (.int .i64 0), (.int .i64 0), (.int .i64 0)] 66 w72 fun q79 w80 => stPT q79 0 [(.slice a73 n74 c75), (.int .i64 i76), (.int .i64 i77), (.int .i64 i78)] w80 fun w81 => newB [] 38 w81 fun q82 w83 => rd_l w83 q79 fun a84 n85 c86 => rd_i64 w83 (q79.add 1) fun i87 => rd_i64 w83 (q79.add 1) fun i88 => rd_i64 w83 (q79.add 2) fun i89 => (0 : Int) ≤ (IntKind.i64.wrap (i88 + i89)) ∧ (IntKind.i64.wrap (i88 + i89)) ≤ ((c86 : Nat) : Int) ∧ (0 : Int) ≤ i87 ∧ i87 ≤ (((Int.toNat (IntKind.i64.wrap (i88 + i89))) : Nat) : Int) ∧ Raw prog (Builtin.append_ #[22, 22] 22 ⟨[(.slice (some q82) 0 0), (.slice (if c86 = (Int.toNat i87) then a84 else a84.map (·.add ((Int.toNat i87) * 1))) ((Int.toNat (IntKind.i64.wrap (i88 + i89))) - (Int.toNat i87)) (c86 - (Int.toNat i87)))]⟩) w83 fun v90 w91 => ∃ (a92 : Option Addr) (n93 c94 : Nat), v90 = .slice a92 n93 c94 ∧ stPT q79 0 [(.slice a92 n93 c94)] w91 fun w95 => stPT (q79.add 1) 0 [(.int .i64 0)] w95 fun w96 => h20 z2 z5 z6 z28 (IntKind.i64.wrap ((IntKind.i64.wrap (z6 - z28)) - 1)) (some q79) none 0 0 (IntKind.i64.wrap (z28 + 1)) z27 z28 w96))) (ptrSome z2 fun q97 => rd_l_i64_i64_i64_i64_l w q97 fun a98 n99 c100 i101 i102 i103 i104 a105 n106 c107 => ptrSome z2 fun q108 => stPT q108 0 [(.slice a98 n99 c100), (.int .i64 i101), (.int .i64 i102), (.int .i64 i103), (.int .i64 i104), (.slice a105 n106 c107)] w fun w109 => ptrSome z2 fun q110 => rd_l_i64_i64_i64_i64_l w109 q110 fun a111 n112 c113 i114 i115 i116 i117 a118 n119 c120 => K (.tuple ⟨[(.agg ⟨[(.slice a111 n112 c113), (.int .i64 i114), (.int .i64 i115), (.int .i64 i116), (.int .i64 i117), (.slice a118 n119 c120)]⟩), (.int .i64 0), (.int .i64 0)]⟩) w109)
def lu_Factor.b20 (K : Value → World → Prop) (h7 : Option Addr → Option Addr → Int → Int → Int → World → Prop) (h20 : Option Addr → Option Addr → Int → Int → Int → Option Addr → Option Addr → Nat → Nat → Int → Int → Int → World → Prop) (z2 : Option Addr) (z5 : Option Addr) (z6 : Int) (z7 : Int) (z10 : Int) (z11 : Option Addr) (z12p : Option Addr) (z12n z12c : Nat) (z13 : Int) (z27 : Int) (z28 : Int) (w : World) : Prop := br (decide (z13 < z6)) (ptrSome z5 fun q1 => rd_l_i64_i64_i64_i64 w q1 fun a2 n3 c4 i5 i6 i7 i8 => view_At.call [(.agg ⟨[(.slice a2 n3 c4), (.int .i64 i5), (.int .i64 i6), (.int .i64 i7), (.int .i64 i8)]⟩), (.int .i64 z7), (.int .i64 z13)] w fun v9 w10 => ∃ x11 : Nat, v9 = (.float .f64 x11) ∧ newB [(.float .f64 x11)] 38 w10 fun q12 w13 => Raw prog (Builtin.append_ #[22, 22] 22 ⟨[(.slice z12p z12n z12c), (.slice (some q12) 1 1)]⟩) w13 fun v14 w15 => ∃ (a16 : Option Addr) (n17 c18 : Nat), v14 = .slice a16 n17 c18 ∧ h20 z2 z5 z6 z7 z10 z11 a16 n17 c18 (IntKind.i64.wrap (z13 + 1)) z27 z28 w15) (ptrSome z11 fun q20 => rd_l_i64_i64_i64 w.drew q20 fun a21 n22 c23 i24 i25 i26 => ptrSome z5 fun q27 => rd_l_i64_i64_i64_i64 w.drew q27 fun a28 n29 c30 i31 i32 i33 i34 => view_Part.call [(.agg ⟨[(.slice a28 n29 c30), (.int .i64 i31), (.int .i64 i32), (.int .i64 i33), (.int .i64 i34)]⟩), (.int .i64 (IntKind.i64.wrap (z7 + 1))), (.int .i64 (IntKind.i64.wrap (z7 + 1))), (.int .i64 z10), (.int .i64 z10)] w.drew fun v35 w36 => ∃ (a37 : Option Addr) (n38 c39 : Nat), ∃ i40 : Int, ∃ i41 : Int, ∃ i42 : Int, ∃ i43 : Int, v35 = (.agg ⟨[(.slice a37 n38 c39), (.int .i64 i40), (.int .i64 i41), (.int .i64 i42), (.int .i64 i43)]⟩) ∧ Kept w.drew w36 ∧ ger_Ger.call [(.float .f64 13830554455654793216), (.agg ⟨[(.slice a21 n22 c23), (.int .i64 i24), (.int .i64 i25), (.int .i64 i26)]⟩), (.agg ⟨[(.slice z12p z12n z12c), (.int .i64 0), (.int .i64 z10), (.int .i64 1)]⟩), (.agg ⟨[(.slice a37 n38 c39), (.int .i64 i40), (.int .i64 i41), (.int .i64 i42), (.int .i64 i43)]⟩)] w36 fun v44 w45 => ∃ i46 : Int, v44 = (.int .i64 i46) ∧ h7 z2 z5 z6 z27 (IntKind.i64.wrap (z28 + 1)) w45)
def lu_Factor.H (K : Value → World → Prop) : Nat → (Option Addr → Option Addr → Int → Int → Int → World → Prop) × (Option Addr → Option Addr → Int → Int → Int → Option Addr → Option Addr → Nat → Nat → Int → Int → Int → World → Prop)
  | 0 => (fun _ _ _ _ _ _ => False, fun _ _ _ _ _ _ _ _ _ _ _ _ _ => False)
  | fu + 1 => (lu_Factor.b7 K (lu_Factor.H K fu).1 (lu_Factor.H K fu).2, lu_Factor.b20 K (lu_Factor.H K fu).1 (lu_Factor.H K fu).2)
def lu_Factor.x (fu : Nat) (A0_0p : Option Addr) (A0_0n A0_0c : Nat) (A0_1 : Int) (A0_2 : Int) (A0_3 : Int) (A0_4 : Int) (w : World) (K : Value → World → Prop) : Prop := newB [(.slice A0_0p A0_0n A0_0c), (.int .i64 A0_1), (.int .i64 A0_2), (.int .i64 A0_3), (.int .i64 A0_4)] 24 w fun q1 w2 => newB [(.slice none 0 0), (.int .i64 0), (.int .i64 0), (.int .i64 0), (.int .i64 0), (.slice none 0 0)] 33 w2 fun q3 w4 => rd_l_i64_i64_i64_i64 w4 q1 fun a5 n6 c7 i8 i9 i10 i11 => lu_square.call [(.agg ⟨[(.slice a5 n6 c7), (.int .i64 i8), (.int .i64 i9), (.int .i64 i10), (.int .i64 i11)]⟩)] w4 fun v12 w13 => ∃ (a14 : Option Addr) (n15 c16 : Nat), ∃ i17 : Int, ∃ i18 : Int, ∃ i19 : Int, ∃ i20 : Int, ∃ i21 : Int, v12 = (.tuple ⟨[(.agg ⟨[(.slice a14 n15 c16), (.int .i64 i17), (.int .i64 i18), (.int .i64 i19), (.int .i64 i20)]⟩), (.int .i64 i21)]⟩) ∧ newB [(.slice none 0 0), (.int .i64 0), (.int .i64 0), (.int .i64 0), (.int .i64 0)] 24 w13 fun q22 w23 => stPT q22 0 [(.slice a14 n15 c16), (.int .i64 i17), (.int .i64 i18), (.int .i64 i19), (.int .i64 i20)] w23 fun w24 => br (i21 != 0) (stPT q3 0 [(.slice none 0 0), (.int .i64 0), (.int .i64 0), (.int .i64 0), (.int .i64 0), (.slice none 0 0)] w24 fun w25 => rd_l_i64_i64_i64_i64_l w25 q3 fun a26 n27 c28 i29 i30 i31 i32 a33 n34 c35 => K (.tuple ⟨[(.agg ⟨[(.slice a26 n27 c28), (.int .i64 i29), (.int .i64 i30), (.int .i64 i31), (.int .i64 i32), (.slice a33 n34 c35)]⟩), (.int .i64 0), (.int .i64 i21)]⟩) w25) (rd_i64 w24 (q22.add 2) fun i36 => rd_l_i64_i64_i64_i64 w24 q22 fun a37 n38 c39 i40 i41 i42 i43 => stPT q3 0 [(.slice a37 n38 c39), (.int .i64 i40), (.int .i64 i41), (.int .i64 i42), (.int .i64 i43)] w24 fun w44 => (lu_Factor.H K fu).1 (some q3) (some q22) i36 i36 0 w44)
def lu_Factor.hd (K : Value → World → Prop) (n id : Nat) (t : List Value) (w : World) : Prop :=
  match id with
  | 7 => asP (t.getD 2 undef) fun z2 => asP (t.getD 5 undef) fun z5 => asI .i64 (t.getD 6 undef) fun z6 => asI .i64 (t.getD 27 undef) fun z27 => asI .i64 (t.getD 28 undef) fun z28 => (lu_Factor.H K n).1 z2 z5 z6 z27 z28 w
  | 20 => asP (t.getD 2 undef) fun z2 => asP (t.getD 5 undef) fun z5 => asI .i64 (t.getD 6 undef) fun z6 => asI .i64 (t.getD 7 undef) fun z7 => asI .i64 (t.getD 10 undef) fun z10 => asP (t.getD 11 undef) fun z11 => asL (t.getD 12 undef) fun z12p z12n z12c => asI .i64 (t.getD 13 undef) fun z13 => asI .i64 (t.getD 27 undef) fun z27 => asI .i64 (t.getD 28 undef) fun z28 => (lu_Factor.H K n).2 z2 z5 z6 z7 z10 z11 z12p z12n z12c z13 z27 z28 w
  | _ => False
theorem lu_Factor.t7 (K : Value → World → Prop) (n : Nat) (z2 : Option Addr) (z5 : Option Addr) (z6 : Int) (z27 : Int) (z28 : Int) (u : Nat → Value) (w : World) (h : (lu_Factor.H K (n + 1)).1 z2 z5 z6 z27 z28 w) :
    exT prog [7, 20] (lu_Factor.hd K n) Try.f10 7 100 [(2, (.pointer z2)), (5, (.pointer z5)), (6, (.int .i64 z6)), (27, (.int .i64 z27)), (28, (.int .i64 z28))] u w K := Eq.mp (by kernel_rfl) h
theorem lu_Factor.t20 (K : Value → World → Prop) (n : Nat) (z2 : Option Addr) (z5 : Option Addr) (z6 : Int) (z7 : Int) (z10 : Int) (z11 : Option Addr) (z12p : Option Addr) (z12n z12c : Nat) (z13 : Int) (z27 : Int) (z28 : Int) (u : Nat → Value) (w : World) (h : (lu_Factor.H K (n + 1)).2 z2 z5 z6 z7 z10 z11 z12p z12n z12c z13 z27 z28 w) :
    exT prog [7, 20] (lu_Factor.hd K n) Try.f10 20 100 [(2, (.pointer z2)), (5, (.pointer z5)), (6, (.int .i64 z6)), (7, (.int .i64 z7)), (10, (.int .i64 z10)), (11, (.pointer z11)), (12, (.slice z12p z12n z12c)), (13, (.int .i64 z13)), (27, (.int .i64 z27)), (28, (.int .i64 z28))] u w K := Eq.mp (by kernel_rfl) h
theorem lu_Factor.ok (fu : Nat) {A0_0p : Option Addr} {A0_0n A0_0c : Nat} {A0_1 : Int} {A0_2 : Int} {A0_3 : Int} {A0_4 : Int} {w : World} {K : Value → World → Prop} (h : lu_Factor.x fu A0_0p A0_0n A0_0c A0_1 A0_2 A0_3 A0_4 w K) : lu_Factor.call [(.agg ⟨[(.slice A0_0p A0_0n A0_0c), (.int .i64 A0_1), (.int .i64 A0_2), (.int .i64 A0_3), (.int .i64 A0_4)]⟩)] w K := by
  refine callF_of_ex (cuts := [7, 20]) (H := lu_Factor.hd K) (N := 100) Try.func10 rfl mixed (by kernel_rfl) ?_ ?_ ?_ rfl (n := fu) (Eq.mp (by kernel_rfl) h)
  · intro id hid; simp only [List.mem_cons, List.not_mem_nil, or_false] at hid; rcases hid with rfl | rfl
    · exact (by kernel_rfl : (stacks (bodyOf Try.f10) []).filter (headIs 7) = [at_ (bodyOf Try.f10) 7])
    · exact (by kernel_rfl : (stacks (bodyOf Try.f10) []).filter (headIs 20) = [at_ (bodyOf Try.f10) 20])
  · intro id t w h
    unfold lu_Factor.hd at h
    split at h
    · obtain ⟨z2, _, h⟩ := asP_elim h
      obtain ⟨z5, _, h⟩ := asP_elim h
      obtain ⟨z6, _, h⟩ := asI_elim h
      obtain ⟨z27, _, h⟩ := asI_elim h
      obtain ⟨z28, _, h⟩ := asI_elim h
      exact h
    · obtain ⟨z2, _, h⟩ := asP_elim h
      obtain ⟨z5, _, h⟩ := asP_elim h
      obtain ⟨z6, _, h⟩ := asI_elim h
      obtain ⟨z7, _, h⟩ := asI_elim h
      obtain ⟨z10, _, h⟩ := asI_elim h
      obtain ⟨z11, _, h⟩ := asP_elim h
      obtain ⟨z12p, z12n, z12c, _, h⟩ := asL_elim h
      obtain ⟨z13, _, h⟩ := asI_elim h
      obtain ⟨z27, _, h⟩ := asI_elim h
      obtain ⟨z28, _, h⟩ := asI_elim h
      exact h
    · exact h
  · intro n id hid t w hl h; simp only [List.mem_cons, List.not_mem_nil, or_false] at hid; rcases hid with rfl | rfl
    · replace h : asP (t.getD 2 undef) fun z2 => asP (t.getD 5 undef) fun z5 => asI .i64 (t.getD 6 undef) fun z6 => asI .i64 (t.getD 27 undef) fun z27 => asI .i64 (t.getD 28 undef) fun z28 => (lu_Factor.H K (n + 1)).1 z2 z5 z6 z27 z28 w := h
      obtain ⟨z2, e2, h⟩ := asP_elim h
      obtain ⟨z5, e5, h⟩ := asP_elim h
      obtain ⟨z6, e6, h⟩ := asI_elim h
      obtain ⟨z27, e27, h⟩ := asI_elim h
      obtain ⟨z28, e28, h⟩ := asI_elim h
      rw [mk_of hl [(2, (.pointer z2)), (5, (.pointer z5)), (6, (.int .i64 z6)), (27, (.int .i64 z27)), (28, (.int .i64 z28))] (by simp only [List.forall_mem_cons, List.not_mem_nil, false_implies, implies_true, and_true]; exact ⟨e2, e5, e6, e27, e28⟩)]
      exact lu_Factor.t7 K n z2 z5 z6 z27 z28 _ w h
    · replace h : asP (t.getD 2 undef) fun z2 => asP (t.getD 5 undef) fun z5 => asI .i64 (t.getD 6 undef) fun z6 => asI .i64 (t.getD 7 undef) fun z7 => asI .i64 (t.getD 10 undef) fun z10 => asP (t.getD 11 undef) fun z11 => asL (t.getD 12 undef) fun z12p z12n z12c => asI .i64 (t.getD 13 undef) fun z13 => asI .i64 (t.getD 27 undef) fun z27 => asI .i64 (t.getD 28 undef) fun z28 => (lu_Factor.H K (n + 1)).2 z2 z5 z6 z7 z10 z11 z12p z12n z12c z13 z27 z28 w := h
      obtain ⟨z2, e2, h⟩ := asP_elim h
      obtain ⟨z5, e5, h⟩ := asP_elim h
      obtain ⟨z6, e6, h⟩ := asI_elim h
      obtain ⟨z7, e7, h⟩ := asI_elim h
      obtain ⟨z10, e10, h⟩ := asI_elim h
      obtain ⟨z11, e11, h⟩ := asP_elim h
      obtain ⟨z12p, z12n, z12c, e12, h⟩ := asL_elim h
      obtain ⟨z13, e13, h⟩ := asI_elim h
      obtain ⟨z27, e27, h⟩ := asI_elim h
      obtain ⟨z28, e28, h⟩ := asI_elim h
      rw [mk_of hl [(2, (.pointer z2)), (5, (.pointer z5)), (6, (.int .i64 z6)), (7, (.int .i64 z7)), (10, (.int .i64 z10)), (11, (.pointer z11)), (12, (.slice z12p z12n z12c)), (13, (.int .i64 z13)), (27, (.int .i64 z27)), (28, (.int .i64 z28))] (by simp only [List.forall_mem_cons, List.not_mem_nil, false_implies, implies_true, and_true]; exact ⟨e2, e5, e6, e7, e10, e11, e12, e13, e27, e28⟩)]
      exact lu_Factor.t20 K n z2 z5 z6 z7 z10 z11 z12p z12n z12c z13 z27 z28 _ w h
/-! the same, the local variables taken out -/
def lu_Factor.e7 (K : Value → World → Prop) (h7 : Nat → Option Addr → Nat → Nat → Int → Int → Int → Int → Option Addr → Nat → Nat → Nat → Option Addr → Nat → Nat → Int → Int → Int → Int → Int → Int → Int → World → Prop) (h20 : Nat → Option Addr → Nat → Nat → Int → Int → Int → Int → Option Addr → Nat → Nat → Nat → Option Addr → Nat → Nat → Int → Int → Int → Int → Int → Int → Int → Nat → Option Addr → Nat → Nat → Int → Int → Int → Option Addr → Nat → Nat → Int → Int → Int → World → Prop) (k2 : Nat) (y2_0p : Option Addr) (y2_0n y2_0c : Nat) (y2_1 : Int) (y2_2 : Int) (y2_3 : Int) (y2_4 : Int) (y2_5p : Option Addr) (y2_5n y2_5c : Nat) (k5 : Nat) (y5_0p : Option Addr) (y5_0n y5_0c : Nat) (y5_1 : Int) (y5_2 : Int) (y5_3 : Int) (y5_4 : Int) (z6 : Int) (z27 : Int) (z28 : Int) (w : World) : Prop := br (decide (z28 < z27)) (lu_Pivot.call [(.agg ⟨[(.slice y5_0p y5_0n y5_0c), (.int .i64 y5_1), (.int .i64 y5_2), (.int .i64 y5_3), (.int .i64 y5_4)]⟩), (.int .i64 z28)] w fun v9 w10 => Stay [k2, k5] w w10 ∧ ∃ i11 : Int, ∃ b12 : Bool, v9 = (.tuple ⟨[(.int .i64 i11), (.bool b12)]⟩) ∧ br (!b12) (∀ w14 : World, Exc k2 w10 w14 → K (.tuple ⟨[(.agg ⟨[(.slice (none : Option Addr) (0 : Nat) (0 : Nat)), (.int .i64 (0 : Int)), (.int .i64 (0 : Int)), (.int .i64 (0 : Int)), (.int .i64 (0 : Int)), (.slice (none : Option Addr) (0 : Nat) (0 : Nat))]⟩), (.int .i64 (IntKind.i64.wrap (z28 + 1))), (.int .i64 4)]⟩) w14) (newB [(.int .i64 i11)] 3 w10 fun q30 w31 => Raw prog (Builtin.append_ #[31, 31] 31 ⟨[(.slice y2_5p y2_5n y2_5c), (.slice (some q30) 1 1)]⟩) w31 fun v32 w33 => Stay [k2, k5] w31 w33 ∧ ∃ (a34 : Option Addr) (n35 c36 : Nat), v32 = .slice a34 n35 c36 ∧ ∀ w38 : World, Exc k2 w33 w38 → br ((IntKind.i64.wrap ((IntKind.i64.wrap (z6 - z28)) - 1)) == 0) (∀ w51 : World, Exc k2 w38 w51 → K (.tuple ⟨[(.agg ⟨[(.slice y2_0p y2_0n y2_0c), (.int .i64 y2_1), (.int .i64 y2_2), (.int .i64 y2_3), (.int .i64 y2_4), (.slice a34 n35 c36)]⟩), (.int .i64 0), (.int .i64 0)]⟩) w51) (lu_Column.call [(.agg ⟨[(.slice y5_0p y5_0n y5_0c), (.int .i64 y5_1), (.int .i64 y5_2), (.int .i64 y5_3), (.int .i64 y5_4)]⟩), (.int .i64 z28)] w38 fun v71 w72 => Stay [k2, k5] w38 w72 ∧ ∃ (a73 : Option Addr) (n74 c75 : Nat), ∃ i76 : Int, ∃ i77 : Int, ∃ i78 : Int, v71 = (.agg ⟨[(.slice a73 n74 c75), (.int .i64 i76), (.int .i64 i77), (.int .i64 i78)]⟩) ∧ ∀ (k81 : Nat) (w80 : World), k81 = w72.heap.size → k81 < w80.heap.size → Ext w72 w80 → ∀ w83 : World, Exc k81 w80 w83 → newB [] 38 w83 fun q84 w85 => (0 : Int) ≤ (IntKind.i64.wrap (i76 + i77)) ∧ (IntKind.i64.wrap (i76 + i77)) ≤ ((c75 : Nat) : Int) ∧ (0 : Int) ≤ i76 ∧ i76 ≤ (((Int.toNat (IntKind.i64.wrap (i76 + i77))) : Nat) : Int) ∧ Raw prog (Builtin.append_ #[22, 22] 22 ⟨[(.slice (some q84) 0 0), (.slice (if c75 = (Int.toNat i76) then a73 else a73.map (·.add ((Int.toNat i76) * 1))) ((Int.toNat (IntKind.i64.wrap (i76 + i77))) - (Int.toNat i76)) (c75 - (Int.toNat i76)))]⟩) w85 fun v92 w93 => Stay [k81, k2, k5] w85 w93 ∧ ∃ (a94 : Option Addr) (n95 c96 : Nat), v92 = .slice a94 n95 c96 ∧ ∀ w97 : World, Exc k81 w93 w97 → ∀ w98 : World, Exc k81 w97 w98 → h20 k2 y2_0p y2_0n y2_0c y2_1 y2_2 y2_3 y2_4 a34 n35 c36 k5 y5_0p y5_0n y5_0c y5_1 y5_2 y5_3 y5_4 z6 z28 (IntKind.i64.wrap ((IntKind.i64.wrap (z6 - z28)) - 1)) k81 a94 n95 c96 0 i77 i78 none 0 0 (IntKind.i64.wrap (z28 + 1)) z27 z28 w98))) (∀ w111 : World, Exc k2 w w111 → K (.tuple ⟨[(.agg ⟨[(.slice y2_0p y2_0n y2_0c), (.int .i64 y2_1), (.int .i64 y2_2), (.int .i64 y2_3), (.int .i64 y2_4), (.slice y2_5p y2_5n y2_5c)]⟩), (.int .i64 0), (.int .i64 0)]⟩) w111)
def lu_Factor.e20 (K : Value → World → Prop) (h7 : Nat → Option Addr → Nat → Nat → Int → Int → Int → Int → Option Addr → Nat → Nat → Nat → Option Addr → Nat → Nat → Int → Int → Int → Int → Int → Int → Int → World → Prop) (h20 : Nat → Option Addr → Nat → Nat → Int → Int → Int → Int → Option Addr → Nat → Nat → Nat → Option Addr → Nat → Nat → Int → Int → Int → Int → Int → Int → Int → Nat → Option Addr → Nat → Nat → Int → Int → Int → Option Addr → Nat → Nat → Int → Int → Int → World → Prop) (k2 : Nat) (y2_0p : Option Addr) (y2_0n y2_0c : Nat) (y2_1 : Int) (y2_2 : Int) (y2_3 : Int) (y2_4 : Int) (y2_5p : Option Addr) (y2_5n y2_5c : Nat) (k5 : Nat) (y5_0p : Option Addr) (y5_0n y5_0c : Nat) (y5_1 : Int) (y5_2 : Int) (y5_3 : Int) (y5_4 : Int) (z6 : Int) (z7 : Int) (z10 : Int) (k11 : Nat) (y11_0p : Option Addr) (y11_0n y11_0c : Nat) (y11_1 : Int) (y11_2 : Int) (y11_3 : Int) (z12p : Option Addr) (z12n z12c : Nat) (z13 : Int) (z27 : Int) (z28 : Int) (w : World) : Prop := br (decide (z13 < z6)) (view_At.call [(.agg ⟨[(.slice y5_0p y5_0n y5_0c), (.int .i64 y5_1), (.int .i64 y5_2), (.int .i64 y5_3), (.int .i64 y5_4)]⟩), (.int .i64 z7), (.int .i64 z13)] w fun v9 w10 => Stay [k2, k5, k11] w w10 ∧ ∃ x11 : Nat, v9 = (.float .f64 x11) ∧ newB [(.float .f64 x11)] 38 w10 fun q12 w13 => Raw prog (Builtin.append_ #[22, 22] 22 ⟨[(.slice z12p z12n z12c), (.slice (some q12) 1 1)]⟩) w13 fun v14 w15 => Stay [k2, k5, k11] w13 w15 ∧ ∃ (a16 : Option Addr) (n17 c18 : Nat), v14 = .slice a16 n17 c18 ∧ h20 k2 y2_0p y2_0n y2_0c y2_1 y2_2 y2_3 y2_4 y2_5p y2_5n y2_5c k5 y5_0p y5_0n y5_0c y5_1 y5_2 y5_3 y5_4 z6 z7 z10 k11 y11_0p y11_0n y11_0c y11_1 y11_2 y11_3 a16 n17 c18 (IntKind.i64.wrap (z13 + 1)) z27 z28 w15) (view_Part.call [(.agg ⟨[(.slice y5_0p y5_0n y5_0c), (.int .i64 y5_1), (.int .i64 y5_2), (.int .i64 y5_3), (.int .i64 y5_4)]⟩), (.int .i64 (IntKind.i64.wrap (z7 + 1))), (.int .i64 (IntKind.i64.wrap (z7 + 1))), (.int .i64 z10), (.int .i64 z10)] w.drew fun v35 w36 => Stay [k2, k5, k11] w.drew w36 ∧ ∃ (a37 : Option Addr) (n38 c39 : Nat), ∃ i40 : Int, ∃ i41 : Int, ∃ i42 : Int, ∃ i43 : Int, v35 = (.agg ⟨[(.slice a37 n38 c39), (.int .i64 i40), (.int .i64 i41), (.int .i64 i42), (.int .i64 i43)]⟩) ∧ Kept w.drew w36 ∧ ger_Ger.call [(.float .f64 13830554455654793216), (.agg ⟨[(.slice y11_0p y11_0n y11_0c), (.int .i64 y11_1), (.int .i64 y11_2), (.int .i64 y11_3)]⟩), (.agg ⟨[(.slice z12p z12n z12c), (.int .i64 0), (.int .i64 z10), (.int .i64 1)]⟩), (.agg ⟨[(.slice a37 n38 c39), (.int .i64 i40), (.int .i64 i41), (.int .i64 i42), (.int .i64 i43)]⟩)] w36 fun v44 w45 => Stay [k2, k5, k11] w36 w45 ∧ ∃ i46 : Int, v44 = (.int .i64 i46) ∧ h7 k2 y2_0p y2_0n y2_0c y2_1 y2_2 y2_3 y2_4 y2_5p y2_5n y2_5c k5 y5_0p y5_0n y5_0c y5_1 y5_2 y5_3 y5_4 z6 z27 (IntKind.i64.wrap (z28 + 1)) w45)
def lu_Factor.I (K : Value → World → Prop) : Nat → (Nat → Option Addr → Nat → Nat → Int → Int → Int → Int → Option Addr → Nat → Nat → Nat → Option Addr → Nat → Nat → Int → Int → Int → Int → Int → Int → Int → World → Prop) × (Nat → Option Addr → Nat → Nat → Int → Int → Int → Int → Option Addr → Nat → Nat → Nat → Option Addr → Nat → Nat → Int → Int → Int → Int → Int → Int → Int → Nat → Option Addr → Nat → Nat → Int → Int → Int → Option Addr → Nat → Nat → Int → Int → Int → World → Prop)
  | 0 => (fun _ _ _ _ _ _ _ _ _ _ _ _ _ _ _ _ _ _ _ _ _ _ _ => False, fun _ _ _ _ _ _ _ _ _ _ _ _ _ _ _ _ _ _ _ _ _ _ _ _ _ _ _ _ _ _ _ _ _ _ _ _ => False)
  | fu + 1 => (lu_Factor.e7 K (lu_Factor.I K fu).1 (lu_Factor.I K fu).2, lu_Factor.e20 K (lu_Factor.I K fu).1 (lu_Factor.I K fu).2)
def lu_Factor.s (fu : Nat) (A0_0p : Option Addr) (A0_0n A0_0c : Nat) (A0_1 : Int) (A0_2 : Int) (A0_3 : Int) (A0_4 : Int) (w : World) (K : Value → World → Prop) : Prop := ∀ (k3 : Nat) (w2 : World), k3 = w.heap.size → k3 < w2.heap.size → Ext w w2 → ∀ (k7 : Nat) (w6 : World), k7 = w2.heap.size → k7 < w6.heap.size → Ext w2 w6 → lu_square.call [(.agg ⟨[(.slice A0_0p A0_0n A0_0c), (.int .i64 A0_1), (.int .i64 A0_2), (.int .i64 A0_3), (.int .i64 A0_4)]⟩)] w6 fun v16 w17 => Stay [k7, k3] w6 w17 ∧ ∃ (a18 : Option Addr) (n19 c20 : Nat), ∃ i21 : Int, ∃ i22 : Int, ∃ i23 : Int, ∃ i24 : Int, ∃ i25 : Int, v16 = (.tuple ⟨[(.agg ⟨[(.slice a18 n19 c20), (.int .i64 i21), (.int .i64 i22), (.int .i64 i23), (.int .i64 i24)]⟩), (.int .i64 i25)]⟩) ∧ ∀ (k28 : Nat) (w27 : World), k28 = w17.heap.size → k28 < w27.heap.size → Ext w17 w27 → ∀ w30 : World, Exc k28 w27 w30 → br (i25 != 0) (∀ w31 : World, Exc k7 w30 w31 → K (.tuple ⟨[(.agg ⟨[(.slice (none : Option Addr) (0 : Nat) (0 : Nat)), (.int .i64 (0 : Int)), (.int .i64 (0 : Int)), (.int .i64 (0 : Int)), (.int .i64 (0 : Int)), (.slice (none : Option Addr) (0 : Nat) (0 : Nat))]⟩), (.int .i64 0), (.int .i64 i25)]⟩) w31) (∀ w50 : World, Exc k7 w30 w50 → (lu_Factor.I K fu).1 k7 a18 n19 c20 i21 i22 i23 i24 none 0 0 k28 a18 n19 c20 i21 i22 i23 i24 i22 i22 0 w50)
theorem lu_Factor.b7_s {K : Value → World → Prop} {x7 : Option Addr → Option Addr → Int → Int → Int → World → Prop} {x20 : Option Addr → Option Addr → Int → Int → Int → Option Addr → Option Addr → Nat → Nat → Int → Int → Int → World → Prop} {s7 : Nat → Option Addr → Nat → Nat → Int → Int → Int → Int → Option Addr → Nat → Nat → Nat → Option Addr → Nat → Nat → Int → Int → Int → Int → Int → Int → Int → World → Prop} {s20 : Nat → Option Addr → Nat → Nat → Int → Int → Int → Int → Option Addr → Nat → Nat → Nat → Option Addr → Nat → Nat → Int → Int → Int → Int → Int → Int → Int → Nat → Option Addr → Nat → Nat → Int → Int → Int → Option Addr → Nat → Nat → Int → Int → Int → World → Prop} (i7 : ∀ {q2 : Addr} {y2_0p : Option Addr} {y2_0n y2_0c : Nat} {y2_1 : Int} {y2_2 : Int} {y2_3 : Int} {y2_4 : Int} {y2_5p : Option Addr} {y2_5n y2_5c : Nat} {q5 : Addr} {y5_0p : Option Addr} {y5_0n y5_0c : Nat} {y5_1 : Int} {y5_2 : Int} {y5_3 : Int} {y5_4 : Int} {z6 : Int} {z27 : Int} {z28 : Int} {w : World}, s7 q2.block y2_0p y2_0n y2_0c y2_1 y2_2 y2_3 y2_4 y2_5p y2_5n y2_5c q5.block y5_0p y5_0n y5_0c y5_1 y5_2 y5_3 y5_4 z6 z27 z28 w → St w [(q2, [(.slice y2_0p y2_0n y2_0c), (.int .i64 y2_1), (.int .i64 y2_2), (.int .i64 y2_3), (.int .i64 y2_4), (.slice y2_5p y2_5n y2_5c)]), (q5, [(.slice y5_0p y5_0n y5_0c), (.int .i64 y5_1), (.int .i64 y5_2), (.int .i64 y5_3), (.int .i64 y5_4)])] → x7 (some q2) (some q5) z6 z27 z28 w) (i20 : ∀ {q2 : Addr} {y2_0p : Option Addr} {y2_0n y2_0c : Nat} {y2_1 : Int} {y2_2 : Int} {y2_3 : Int} {y2_4 : Int} {y2_5p : Option Addr} {y2_5n y2_5c : Nat} {q5 : Addr} {y5_0p : Option Addr} {y5_0n y5_0c : Nat} {y5_1 : Int} {y5_2 : Int} {y5_3 : Int} {y5_4 : Int} {z6 : Int} {z7 : Int} {z10 : Int} {q11 : Addr} {y11_0p : Option Addr} {y11_0n y11_0c : Nat} {y11_1 : Int} {y11_2 : Int} {y11_3 : Int} {z12p : Option Addr} {z12n z12c : Nat} {z13 : Int} {z27 : Int} {z28 : Int} {w : World}, s20 q2.block y2_0p y2_0n y2_0c y2_1 y2_2 y2_3 y2_4 y2_5p y2_5n y2_5c q5.block y5_0p y5_0n y5_0c y5_1 y5_2 y5_3 y5_4 z6 z7 z10 q11.block y11_0p y11_0n y11_0c y11_1 y11_2 y11_3 z12p z12n z12c z13 z27 z28 w → St w [(q2, [(.slice y2_0p y2_0n y2_0c), (.int .i64 y2_1), (.int .i64 y2_2), (.int .i64 y2_3), (.int .i64 y2_4), (.slice y2_5p y2_5n y2_5c)]), (q5, [(.slice y5_0p y5_0n y5_0c), (.int .i64 y5_1), (.int .i64 y5_2), (.int .i64 y5_3), (.int .i64 y5_4)]), (q11, [(.slice y11_0p y11_0n y11_0c), (.int .i64 y11_1), (.int .i64 y11_2), (.int .i64 y11_3)])] → x20 (some q2) (some q5) z6 z7 z10 (some q11) z12p z12n z12c z13 z27 z28 w) {q2 : Addr} {y2_0p : Option Addr} {y2_0n y2_0c : Nat} {y2_1 : Int} {y2_2 : Int} {y2_3 : Int} {y2_4 : Int} {y2_5p : Option Addr} {y2_5n y2_5c : Nat} {q5 : Addr} {y5_0p : Option Addr} {y5_0n y5_0c : Nat} {y5_1 : Int} {y5_2 : Int} {y5_3 : Int} {y5_4 : Int} {z6 : Int} {z27 : Int} {z28 : Int} {w : World} (h : lu_Factor.e7 K s7 s20 q2.block y2_0p y2_0n y2_0c y2_1 y2_2 y2_3 y2_4 y2_5p y2_5n y2_5c q5.block y5_0p y5_0n y5_0c y5_1 y5_2 y5_3 y5_4 z6 z27 z28 w) (st : St w [(q2, [(.slice y2_0p y2_0n y2_0c), (.int .i64 y2_1), (.int .i64 y2_2), (.int .i64 y2_3), (.int .i64 y2_4), (.slice y2_5p y2_5n y2_5c)]), (q5, [(.slice y5_0p y5_0n y5_0c), (.int .i64 y5_1), (.int .i64 y5_2), (.int .i64 y5_3), (.int .i64 y5_4)])]) : lu_Factor.b7 K x7 x20 (some q2) (some q5) z6 z27 z28 w := by
  unfold lu_Factor.b7
  unfold lu_Factor.e7 at h
  refine br_mono (fun h => ?_) (fun h => ?_) h
  · refine ptrSome_intro rfl ?_
    refine rd_l_i64_i64_i64_i64.bx 1 0 st rfl rfl rfl rfl rfl rfl rfl ?_
    refine CallF.mono h (fun v9 w10 h => ?_)
    obtain ⟨hK, h⟩ := h
    replace st := st.stay hK
    obtain ⟨i11, b12, h⟩ := h
    refine ⟨i11, b12, ?_⟩
    refine And.imp_right (fun h => ?_) h
    refine br_mono (fun h => ?_) (fun h => ?_) h
    · refine ptrSome_intro rfl ?_
      refine St.put 0 0 st rfl rfl rfl rfl (fun w14 he st => ?_)
      replace h := h w14 he
      refine ptrSome_intro rfl ?_
      refine rd_l_i64_i64_i64_i64_l.bx 0 0 st rfl rfl rfl rfl rfl rfl rfl rfl ?_
      exact h
    · refine ptrSome_intro rfl ?_
      refine rd_l.bx 0 5 st rfl rfl rfl ?_
      refine newB_mono st h (fun q30 w31 st h => ?_)
      refine Raw.mono h (fun v32 w33 h => ?_)
      obtain ⟨hK, h⟩ := h
      replace st := st.stay hK
      obtain ⟨a34, n35, c36, h⟩ := h
      refine ⟨a34, n35, c36, ?_⟩
      refine And.imp_right (fun h => ?_) h
      refine ptrSome_intro rfl ?_
      refine St.put 0 5 st rfl rfl rfl rfl (fun w38 he st => ?_)
      replace h := h w38 he
      refine br_mono (fun h => ?_) (fun h => ?_) h
      · refine ptrSome_intro rfl ?_
        refine rd_l_i64_i64_i64_i64_l.bx 0 0 st rfl rfl rfl rfl rfl rfl rfl rfl ?_
        refine ptrSome_intro rfl ?_
        refine St.put 0 0 st rfl rfl rfl rfl (fun w51 he st => ?_)
        replace h := h w51 he
        refine ptrSome_intro rfl ?_
        refine rd_l_i64_i64_i64_i64_l.bx 0 0 st rfl rfl rfl rfl rfl rfl rfl rfl ?_
        exact h
      · refine ptrSome_intro rfl ?_
        refine rd_l_i64_i64_i64_i64.bx 1 0 st rfl rfl rfl rfl rfl rfl rfl ?_
        refine CallF.mono h (fun v71 w72 h => ?_)
        obtain ⟨hK, h⟩ := h
        replace st := st.stay hK
        obtain ⟨a73, n74, c75, i76, i77, i78, h⟩ := h
        refine ⟨a73, n74, c75, i76, i77, i78, ?_⟩
        refine And.imp_right (fun h => ?_) h
        refine St.new st (fun q79 w80 hk hlt he st => ?_)
        replace h := h q79.block w80 hk hlt he
        refine St.put 0 0 st rfl rfl rfl rfl (fun w83 he st => ?_)
        replace h := h w83 he
        refine newB_mono st h (fun q84 w85 st h => ?_)
        refine rd_l.bx 0 0 st rfl rfl rfl ?_
        refine rd_i64.bx 0 1 st rfl rfl rfl ?_
        refine rd_i64.bx 0 1 st rfl rfl rfl ?_
        refine rd_i64.bx 0 2 st rfl rfl rfl ?_
        refine And.imp_right (fun h => ?_) h
        refine And.imp_right (fun h => ?_) h
        refine And.imp_right (fun h => ?_) h
        refine And.imp_right (fun h => ?_) h
        refine Raw.mono h (fun v92 w93 h => ?_)
        obtain ⟨hK, h⟩ := h
        replace st := st.stay hK
        obtain ⟨a94, n95, c96, h⟩ := h
        refine ⟨a94, n95, c96, ?_⟩
        refine And.imp_right (fun h => ?_) h
        refine St.put 0 0 st rfl rfl rfl rfl (fun w97 he st => ?_)
        replace h := h w97 he
        refine St.put 0 1 st rfl rfl rfl rfl (fun w98 he st => ?_)
        replace h := h w98 he
        exact i20 h (st.pick [1, 2, 0] (by decide))
  · refine ptrSome_intro rfl ?_
    refine rd_l_i64_i64_i64_i64_l.bx 0 0 st rfl rfl rfl rfl rfl rfl rfl rfl ?_
    refine ptrSome_intro rfl ?_
    refine St.put 0 0 st rfl rfl rfl rfl (fun w111 he st => ?_)
    replace h := h w111 he
    refine ptrSome_intro rfl ?_
    refine rd_l_i64_i64_i64_i64_l.bx 0 0 st rfl rfl rfl rfl rfl rfl rfl rfl ?_
    exact h
theorem lu_Factor.b20_s {K : Value → World → Prop} {x7 : Option Addr → Option Addr → Int → Int → Int → World → Prop} {x20 : Option Addr → Option Addr → Int → Int → Int → Option Addr → Option Addr → Nat → Nat → Int → Int → Int → World → Prop} {s7 : Nat → Option Addr → Nat → Nat → Int → Int → Int → Int → Option Addr → Nat → Nat → Nat → Option Addr → Nat → Nat → Int → Int → Int → Int → Int → Int → Int → World → Prop} {s20 : Nat → Option Addr → Nat → Nat → Int → Int → Int → Int → Option Addr → Nat → Nat → Nat → Option Addr → Nat → Nat → Int → Int → Int → Int → Int → Int → Int → Nat → Option Addr → Nat → Nat → Int → Int → Int → Option Addr → Nat → Nat → Int → Int → Int → World → Prop} (i7 : ∀ {q2 : Addr} {y2_0p : Option Addr} {y2_0n y2_0c : Nat} {y2_1 : Int} {y2_2 : Int} {y2_3 : Int} {y2_4 : Int} {y2_5p : Option Addr} {y2_5n y2_5c : Nat} {q5 : Addr} {y5_0p : Option Addr} {y5_0n y5_0c : Nat} {y5_1 : Int} {y5_2 : Int} {y5_3 : Int} {y5_4 : Int} {z6 : Int} {z27 : Int} {z28 : Int} {w : World}, s7 q2.block y2_0p y2_0n y2_0c y2_1 y2_2 y2_3 y2_4 y2_5p y2_5n y2_5c q5.block y5_0p y5_0n y5_0c y5_1 y5_2 y5_3 y5_4 z6 z27 z28 w → St w [(q2, [(.slice y2_0p y2_0n y2_0c), (.int .i64 y2_1), (.int .i64 y2_2), (.int .i64 y2_3), (.int .i64 y2_4), (.slice y2_5p y2_5n y2_5c)]), (q5, [(.slice y5_0p y5_0n y5_0c), (.int .i64 y5_1), (.int .i64 y5_2), (.int .i64 y5_3), (.int .i64 y5_4)])] → x7 (some q2) (some q5) z6 z27 z28 w) (i20 : ∀ {q2 : Addr} {y2_0p : Option Addr} {y2_0n y2_0c : Nat} {y2_1 : Int} {y2_2 : Int} {y2_3 : Int} {y2_4 : Int} {y2_5p : Option Addr} {y2_5n y2_5c : Nat} {q5 : Addr} {y5_0p : Option Addr} {y5_0n y5_0c : Nat} {y5_1 : Int} {y5_2 : Int} {y5_3 : Int} {y5_4 : Int} {z6 : Int} {z7 : Int} {z10 : Int} {q11 : Addr} {y11_0p : Option Addr} {y11_0n y11_0c : Nat} {y11_1 : Int} {y11_2 : Int} {y11_3 : Int} {z12p : Option Addr} {z12n z12c : Nat} {z13 : Int} {z27 : Int} {z28 : Int} {w : World}, s20 q2.block y2_0p y2_0n y2_0c y2_1 y2_2 y2_3 y2_4 y2_5p y2_5n y2_5c q5.block y5_0p y5_0n y5_0c y5_1 y5_2 y5_3 y5_4 z6 z7 z10 q11.block y11_0p y11_0n y11_0c y11_1 y11_2 y11_3 z12p z12n z12c z13 z27 z28 w → St w [(q2, [(.slice y2_0p y2_0n y2_0c), (.int .i64 y2_1), (.int .i64 y2_2), (.int .i64 y2_3), (.int .i64 y2_4), (.slice y2_5p y2_5n y2_5c)]), (q5, [(.slice y5_0p y5_0n y5_0c), (.int .i64 y5_1), (.int .i64 y5_2), (.int .i64 y5_3), (.int .i64 y5_4)]), (q11, [(.slice y11_0p y11_0n y11_0c), (.int .i64 y11_1), (.int .i64 y11_2), (.int .i64 y11_3)])] → x20 (some q2) (some q5) z6 z7 z10 (some q11) z12p z12n z12c z13 z27 z28 w) {q2 : Addr} {y2_0p : Option Addr} {y2_0n y2_0c : Nat} {y2_1 : Int} {y2_2 : Int} {y2_3 : Int} {y2_4 : Int} {y2_5p : Option Addr} {y2_5n y2_5c : Nat} {q5 : Addr} {y5_0p : Option Addr} {y5_0n y5_0c : Nat} {y5_1 : Int} {y5_2 : Int} {y5_3 : Int} {y5_4 : Int} {z6 : Int} {z7 : Int} {z10 : Int} {q11 : Addr} {y11_0p : Option Addr} {y11_0n y11_0c : Nat} {y11_1 : Int} {y11_2 : Int} {y11_3 : Int} {z12p : Option Addr} {z12n z12c : Nat} {z13 : Int} {z27 : Int} {z28 : Int} {w : World} (h : lu_Factor.e20 K s7 s20 q2.block y2_0p y2_0n y2_0c y2_1 y2_2 y2_3 y2_4 y2_5p y2_5n y2_5c q5.block y5_0p y5_0n y5_0c y5_1 y5_2 y5_3 y5_4 z6 z7 z10 q11.block y11_0p y11_0n y11_0c y11_1 y11_2 y11_3 z12p z12n z12c z13 z27 z28 w) (st : St w [(q2, [(.slice y2_0p y2_0n y2_0c), (.int .i64 y2_1), (.int .i64 y2_2), (.int .i64 y2_3), (.int .i64 y2_4), (.slice y2_5p y2_5n y2_5c)]), (q5, [(.slice y5_0p y5_0n y5_0c), (.int .i64 y5_1), (.int .i64 y5_2), (.int .i64 y5_3), (.int .i64 y5_4)]), (q11, [(.slice y11_0p y11_0n y11_0c), (.int .i64 y11_1), (.int .i64 y11_2), (.int .i64 y11_3)])]) : lu_Factor.b20 K x7 x20 (some q2) (some q5) z6 z7 z10 (some q11) z12p z12n z12c z13 z27 z28 w := by
  unfold lu_Factor.b20
  unfold lu_Factor.e20 at h
  refine br_mono (fun h => ?_) (fun h => ?_) h
  · refine ptrSome_intro rfl ?_
    refine rd_l_i64_i64_i64_i64.bx 1 0 st rfl rfl rfl rfl rfl rfl rfl ?_
    refine CallF.mono h (fun v9 w10 h => ?_)
    obtain ⟨hK, h⟩ := h
    replace st := st.stay hK
    obtain ⟨x11, h⟩ := h
    refine ⟨x11, ?_⟩
    refine And.imp_right (fun h => ?_) h
    refine newB_mono st h (fun q12 w13 st h => ?_)
    refine Raw.mono h (fun v14 w15 h => ?_)
    obtain ⟨hK, h⟩ := h
    replace st := st.stay hK
    obtain ⟨a16, n17, c18, h⟩ := h
    refine ⟨a16, n17, c18, ?_⟩
    refine And.imp_right (fun h => ?_) h
    exact i20 h (st.pick [0, 1, 2] (by decide))
  · replace st := st.drew
    have st19 := st
    refine ptrSome_intro rfl ?_
    refine rd_l_i64_i64_i64.bx 2 0 st19 rfl rfl rfl rfl rfl rfl ?_
    refine ptrSome_intro rfl ?_
    refine rd_l_i64_i64_i64_i64.bx 1 0 st19 rfl rfl rfl rfl rfl rfl rfl ?_
    refine CallF.mono h (fun v35 w36 h => ?_)
    obtain ⟨hK, h⟩ := h
    replace st := st.stay hK
    obtain ⟨a37, n38, c39, i40, i41, i42, i43, h⟩ := h
    refine ⟨a37, n38, c39, i40, i41, i42, i43, ?_⟩
    refine And.imp_right (fun h => ?_) h
    refine And.imp_right (fun h => ?_) h
    refine CallF.mono h (fun v44 w45 h => ?_)
    obtain ⟨hK, h⟩ := h
    replace st := st.stay hK
    obtain ⟨i46, h⟩ := h
    refine ⟨i46, ?_⟩
    refine And.imp_right (fun h => ?_) h
    exact i7 h (st.pick [0, 1] (by decide))
theorem lu_Factor.H_s {K : Value → World → Prop} (fu : Nat) : (∀ {q2 : Addr} {y2_0p : Option Addr} {y2_0n y2_0c : Nat} {y2_1 : Int} {y2_2 : Int} {y2_3 : Int} {y2_4 : Int} {y2_5p : Option Addr} {y2_5n y2_5c : Nat} {q5 : Addr} {y5_0p : Option Addr} {y5_0n y5_0c : Nat} {y5_1 : Int} {y5_2 : Int} {y5_3 : Int} {y5_4 : Int} {z6 : Int} {z27 : Int} {z28 : Int} {w : World}, (lu_Factor.I K fu).1 q2.block y2_0p y2_0n y2_0c y2_1 y2_2 y2_3 y2_4 y2_5p y2_5n y2_5c q5.block y5_0p y5_0n y5_0c y5_1 y5_2 y5_3 y5_4 z6 z27 z28 w → St w [(q2, [(.slice y2_0p y2_0n y2_0c), (.int .i64 y2_1), (.int .i64 y2_2), (.int .i64 y2_3), (.int .i64 y2_4), (.slice y2_5p y2_5n y2_5c)]), (q5, [(.slice y5_0p y5_0n y5_0c), (.int .i64 y5_1), (.int .i64 y5_2), (.int .i64 y5_3), (.int .i64 y5_4)])] → (lu_Factor.H K fu).1 (some q2) (some q5) z6 z27 z28 w) ∧ (∀ {q2 : Addr} {y2_0p : Option Addr} {y2_0n y2_0c : Nat} {y2_1 : Int} {y2_2 : Int} {y2_3 : Int} {y2_4 : Int} {y2_5p : Option Addr} {y2_5n y2_5c : Nat} {q5 : Addr} {y5_0p : Option Addr} {y5_0n y5_0c : Nat} {y5_1 : Int} {y5_2 : Int} {y5_3 : Int} {y5_4 : Int} {z6 : Int} {z7 : Int} {z10 : Int} {q11 : Addr} {y11_0p : Option Addr} {y11_0n y11_0c : Nat} {y11_1 : Int} {y11_2 : Int} {y11_3 : Int} {z12p : Option Addr} {z12n z12c : Nat} {z13 : Int} {z27 : Int} {z28 : Int} {w : World}, (lu_Factor.I K fu).2 q2.block y2_0p y2_0n y2_0c y2_1 y2_2 y2_3 y2_4 y2_5p y2_5n y2_5c q5.block y5_0p y5_0n y5_0c y5_1 y5_2 y5_3 y5_4 z6 z7 z10 q11.block y11_0p y11_0n y11_0c y11_1 y11_2 y11_3 z12p z12n z12c z13 z27 z28 w → St w [(q2, [(.slice y2_0p y2_0n y2_0c), (.int .i64 y2_1), (.int .i64 y2_2), (.int .i64 y2_3), (.int .i64 y2_4), (.slice y2_5p y2_5n y2_5c)]), (q5, [(.slice y5_0p y5_0n y5_0c), (.int .i64 y5_1), (.int .i64 y5_2), (.int .i64 y5_3), (.int .i64 y5_4)]), (q11, [(.slice y11_0p y11_0n y11_0c), (.int .i64 y11_1), (.int .i64 y11_2), (.int .i64 y11_3)])] → (lu_Factor.H K fu).2 (some q2) (some q5) z6 z7 z10 (some q11) z12p z12n z12c z13 z27 z28 w) := by
  induction fu with
  | zero => exact ⟨fun h _ => False.elim h, fun h _ => False.elim h⟩
  | succ fu ih => exact ⟨fun h st => lu_Factor.b7_s (K := K) (x7 := (lu_Factor.H K fu).1) (s7 := (lu_Factor.I K fu).1) (x20 := (lu_Factor.H K fu).2) (s20 := (lu_Factor.I K fu).2) ih.1 ih.2 h st, fun h st => lu_Factor.b20_s (K := K) (x7 := (lu_Factor.H K fu).1) (s7 := (lu_Factor.I K fu).1) (x20 := (lu_Factor.H K fu).2) (s20 := (lu_Factor.I K fu).2) ih.1 ih.2 h st⟩
theorem lu_Factor.os (fu : Nat) {A0_0p : Option Addr} {A0_0n A0_0c : Nat} {A0_1 : Int} {A0_2 : Int} {A0_3 : Int} {A0_4 : Int} {w : World} {K : Value → World → Prop} (h : lu_Factor.s fu A0_0p A0_0n A0_0c A0_1 A0_2 A0_3 A0_4 w K) : lu_Factor.call [(.agg ⟨[(.slice A0_0p A0_0n A0_0c), (.int .i64 A0_1), (.int .i64 A0_2), (.int .i64 A0_3), (.int .i64 A0_4)]⟩)] w K := by
  refine lu_Factor.ok fu ?_
  have st := St.nil w
  unfold lu_Factor.x
  unfold lu_Factor.s at h
  refine St.new (St.nil _) (fun q1 w2 hk hlt he st => ?_)
  replace h := h q1.block w2 hk hlt he
  refine St.new st (fun q5 w6 hk hlt he st => ?_)
  replace h := h q5.block w6 hk hlt he
  refine rd_l_i64_i64_i64_i64.bx 1 0 st rfl rfl rfl rfl rfl rfl rfl ?_
  refine CallF.mono h (fun v16 w17 h => ?_)
  obtain ⟨hK, h⟩ := h
  replace st := st.stay hK
  obtain ⟨a18, n19, c20, i21, i22, i23, i24, i25, h⟩ := h
  refine ⟨a18, n19, c20, i21, i22, i23, i24, i25, ?_⟩
  refine And.imp_right (fun h => ?_) h
  refine St.new st (fun q26 w27 hk hlt he st => ?_)
  replace h := h q26.block w27 hk hlt he
  refine St.put 0 0 st rfl rfl rfl rfl (fun w30 he st => ?_)
  replace h := h w30 he
  refine br_mono (fun h => ?_) (fun h => ?_) h
  · refine St.put 1 0 st rfl rfl rfl rfl (fun w31 he st => ?_)
    replace h := h w31 he
    refine rd_l_i64_i64_i64_i64_l.bx 1 0 st rfl rfl rfl rfl rfl rfl rfl rfl ?_
    exact h
  · refine rd_i64.bx 0 2 st rfl rfl rfl ?_
    refine rd_l_i64_i64_i64_i64.bx 0 0 st rfl rfl rfl rfl rfl rfl rfl ?_
    refine St.put 1 0 st rfl rfl rfl rfl (fun w50 he st => ?_)
    replace h := h w50 he
    exact (lu_Factor.H_s fu).1 h (st.pick [1, 0] (by decide))

/-! ### straightedge/lu.square: function 32 -/
def lu_square.x (A0_0p : Option Addr) (A0_0n A0_0c : Nat) (A0_1 : Int) (A0_2 : Int) (A0_3 : Int) (A0_4 : Int) (w : World) (K : Value → World → Prop) : Prop := newB [(.slice A0_0p A0_0n A0_0c), (.int .i64 A0_1), (.int .i64 A0_2), (.int .i64 A0_3), (.int .i64 A0_4)] 24 w fun q1 w2 => newB [(.slice none 0 0), (.int .i64 0), (.int .i64 0), (.int .i64 0), (.int .i64 0)] 24 w2 fun q3 w4 => rd_l_i64_i64_i64_i64 w4 q1 fun a5 n6 c7 i8 i9 i10 i11 => view_Good.call [(.agg ⟨[(.slice a5 n6 c7), (.int .i64 i8), (.int .i64 i9), (.int .i64 i10), (.int .i64 i11)]⟩)] w4 fun v12 w13 => ∃ b14 : Bool, v12 = (.bool b14) ∧ br (!b14) (stPT q3 0 [(.slice none 0 0), (.int .i64 0), (.int .i64 0), (.int .i64 0), (.int .i64 0)] w13 fun w15 => rd_l_i64_i64_i64_i64 w15 q3 fun a16 n17 c18 i19 i20 i21 i22 => K (.tuple ⟨[(.agg ⟨[(.slice a16 n17 c18), (.int .i64 i19), (.int .i64 i20), (.int .i64 i21), (.int .i64 i22)]⟩), (.int .i64 1)]⟩) w15) (rd_i64 w13 (q1.add 2) fun i23 => rd_i64 w13 (q1.add 3) fun i24 => br (i23 != i24) (stPT q3 0 [(.slice none 0 0), (.int .i64 0), (.int .i64 0), (.int .i64 0), (.int .i64 0)] w13 fun w25 => rd_l_i64_i64_i64_i64 w25 q3 fun a26 n27 c28 i29 i30 i31 i32 => K (.tuple ⟨[(.agg ⟨[(.slice a26 n27 c28), (.int .i64 i29), (.int .i64 i30), (.int .i64 i31), (.int .i64 i32)]⟩), (.int .i64 3)]⟩) w25) (rd_l_i64_i64_i64_i64 w13 q1 fun a33 n34 c35 i36 i37 i38 i39 => move_Clone.call [(.agg ⟨[(.slice a33 n34 c35), (.int .i64 i36), (.int .i64 i37), (.int .i64 i38), (.int .i64 i39)]⟩)] w13 fun v40 w41 => ∃ (a42 : Option Addr) (n43 c44 : Nat), ∃ i45 : Int, ∃ i46 : Int, ∃ i47 : Int, ∃ i48 : Int, ∃ i49 : Int, v40 = (.tuple ⟨[(.agg ⟨[(.slice a42 n43 c44), (.int .i64 i45), (.int .i64 i46), (.int .i64 i47), (.int .i64 i48)]⟩), (.int .i64 i49)]⟩) ∧ stPT q3 0 [(.slice a42 n43 c44), (.int .i64 i45), (.int .i64 i46), (.int .i64 i47), (.int .i64 i48)] w41 fun w50 => rd_l_i64_i64_i64_i64 w50 q3 fun a51 n52 c53 i54 i55 i56 i57 => K (.tuple ⟨[(.agg ⟨[(.slice a51 n52 c53), (.int .i64 i54), (.int .i64 i55), (.int .i64 i56), (.int .i64 i57)]⟩), (.int .i64 i49)]⟩) w50))
theorem lu_square.ok {A0_0p : Option Addr} {A0_0n A0_0c : Nat} {A0_1 : Int} {A0_2 : Int} {A0_3 : Int} {A0_4 : Int} {w : World} {K : Value → World → Prop} (h : lu_square.x A0_0p A0_0n A0_0c A0_1 A0_2 A0_3 A0_4 w K) : lu_square.call [(.agg ⟨[(.slice A0_0p A0_0n A0_0c), (.int .i64 A0_1), (.int .i64 A0_2), (.int .i64 A0_3), (.int .i64 A0_4)]⟩)] w K :=
  callF_of_ex0 (f := Try.f32) Try.func32 rfl mixed (by kernel_rfl) (Eq.mp (by kernel_rfl) h)
/-! the same, the local variables taken out -/
def lu_square.s (A0_0p : Option Addr) (A0_0n A0_0c : Nat) (A0_1 : Int) (A0_2 : Int) (A0_3 : Int) (A0_4 : Int) (w : World) (K : Value → World → Prop) : Prop := ∀ (k3 : Nat) (w2 : World), k3 = w.heap.size → k3 < w2.heap.size → Ext w w2 → ∀ (k7 : Nat) (w6 : World), k7 = w2.heap.size → k7 < w6.heap.size → Ext w2 w6 → view_Good.call [(.agg ⟨[(.slice A0_0p A0_0n A0_0c), (.int .i64 A0_1), (.int .i64 A0_2), (.int .i64 A0_3), (.int .i64 A0_4)]⟩)] w6 fun v16 w17 => Stay [k7, k3] w6 w17 ∧ ∃ b18 : Bool, v16 = (.bool b18) ∧ br (!b18) (∀ w19 : World, Exc k7 w17 w19 → K (.tuple ⟨[(.agg ⟨[(.slice (none : Option Addr) (0 : Nat) (0 : Nat)), (.int .i64 (0 : Int)), (.int .i64 (0 : Int)), (.int .i64 (0 : Int)), (.int .i64 (0 : Int))]⟩), (.int .i64 1)]⟩) w19) (br (A0_2 != A0_3) (∀ w29 : World, Exc k7 w17 w29 → K (.tuple ⟨[(.agg ⟨[(.slice (none : Option Addr) (0 : Nat) (0 : Nat)), (.int .i64 (0 : Int)), (.int .i64 (0 : Int)), (.int .i64 (0 : Int)), (.int .i64 (0 : Int))]⟩), (.int .i64 3)]⟩) w29) (move_Clone.call [(.agg ⟨[(.slice A0_0p A0_0n A0_0c), (.int .i64 A0_1), (.int .i64 A0_2), (.int .i64 A0_3), (.int .i64 A0_4)]⟩)] w17 fun v44 w45 => Stay [k7, k3] w17 w45 ∧ ∃ (a46 : Option Addr) (n47 c48 : Nat), ∃ i49 : Int, ∃ i50 : Int, ∃ i51 : Int, ∃ i52 : Int, ∃ i53 : Int, v44 = (.tuple ⟨[(.agg ⟨[(.slice a46 n47 c48), (.int .i64 i49), (.int .i64 i50), (.int .i64 i51), (.int .i64 i52)]⟩), (.int .i64 i53)]⟩) ∧ ∀ w54 : World, Exc k7 w45 w54 → K (.tuple ⟨[(.agg ⟨[(.slice a46 n47 c48), (.int .i64 i49), (.int .i64 i50), (.int .i64 i51), (.int .i64 i52)]⟩), (.int .i64 i53)]⟩) w54))
theorem lu_square.os {A0_0p : Option Addr} {A0_0n A0_0c : Nat} {A0_1 : Int} {A0_2 : Int} {A0_3 : Int} {A0_4 : Int} {w : World} {K : Value → World → Prop} (h : lu_square.s A0_0p A0_0n A0_0c A0_1 A0_2 A0_3 A0_4 w K) : lu_square.call [(.agg ⟨[(.slice A0_0p A0_0n A0_0c), (.int .i64 A0_1), (.int .i64 A0_2), (.int .i64 A0_3), (.int .i64 A0_4)]⟩)] w K := by
  refine lu_square.ok ?_
  have st := St.nil w
  unfold lu_square.x
  unfold lu_square.s at h
  refine St.new (St.nil _) (fun q1 w2 hk hlt he st => ?_)
  replace h := h q1.block w2 hk hlt he
  refine St.new st (fun q5 w6 hk hlt he st => ?_)
  replace h := h q5.block w6 hk hlt he
  refine rd_l_i64_i64_i64_i64.bx 1 0 st rfl rfl rfl rfl rfl rfl rfl ?_
  refine CallF.mono h (fun v16 w17 h => ?_)
  obtain ⟨hK, h⟩ := h
  replace st := st.stay hK
  obtain ⟨b18, h⟩ := h
  refine ⟨b18, ?_⟩
  refine And.imp_right (fun h => ?_) h
  refine br_mono (fun h => ?_) (fun h => ?_) h
  · refine St.put 0 0 st rfl rfl rfl rfl (fun w19 he st => ?_)
    replace h := h w19 he
    refine rd_l_i64_i64_i64_i64.bx 0 0 st rfl rfl rfl rfl rfl rfl rfl ?_
    exact h
  · refine rd_i64.bx 1 2 st rfl rfl rfl ?_
    refine rd_i64.bx 1 3 st rfl rfl rfl ?_
    refine br_mono (fun h => ?_) (fun h => ?_) h
    · refine St.put 0 0 st rfl rfl rfl rfl (fun w29 he st => ?_)
      replace h := h w29 he
      refine rd_l_i64_i64_i64_i64.bx 0 0 st rfl rfl rfl rfl rfl rfl rfl ?_
      exact h
    · refine rd_l_i64_i64_i64_i64.bx 1 0 st rfl rfl rfl rfl rfl rfl rfl ?_
      refine CallF.mono h (fun v44 w45 h => ?_)
      obtain ⟨hK, h⟩ := h
      replace st := st.stay hK
      obtain ⟨a46, n47, c48, i49, i50, i51, i52, i53, h⟩ := h
      refine ⟨a46, n47, c48, i49, i50, i51, i52, i53, ?_⟩
      refine And.imp_right (fun h => ?_) h
      refine St.put 0 0 st rfl rfl rfl rfl (fun w54 he st => ?_)
      replace h := h w54 he
      refine rd_l_i64_i64_i64_i64.bx 0 0 st rfl rfl rfl rfl rfl rfl rfl ?_
      exact h

/-! ### straightedge/lu.Pivot: function 33 -/
def lu_Pivot.x (A0_0p : Option Addr) (A0_0n A0_0c : Nat) (A0_1 : Int) (A0_2 : Int) (A0_3 : Int) (A0_4 : Int) (A1 : Int) (w : World) (K : Value → World → Prop) : Prop := newB [(.slice A0_0p A0_0n A0_0c), (.int .i64 A0_1), (.int .i64 A0_2), (.int .i64 A0_3), (.int .i64 A0_4)] 24 w fun q1 w2 => rd_l_i64_i64_i64_i64 w2 q1 fun a3 n4 c5 i6 i7 i8 i9 => view_Col.call [(.agg ⟨[(.slice a3 n4 c5), (.int .i64 i6), (.int .i64 i7), (.int .i64 i8), (.int .i64 i9)]⟩), (.int .i64 A1)] w2 fun v10 w11 => ∃ (a12 : Option Addr) (n13 c14 : Nat), ∃ i15 : Int, ∃ i16 : Int, ∃ i17 : Int, v10 = (.agg ⟨[(.slice a12 n13 c14), (.int .i64 i15), (.int .i64 i16), (.int .i64 i17)]⟩) ∧ newB [(.slice none 0 0), (.int .i64 0), (.int .i64 0), (.int .i64 0)] 66 w11 fun q18 w19 => stPT q18 0 [(.slice a12 n13 c14), (.int .i64 i15), (.int .i64 i16), (.int .i64 i17)] w19 fun w20 => rd_i64 w20 (q18.add 1) fun i21 => stPT (q18.add 1) 0 [(.int .i64 (IntKind.i64.wrap (i21 + A1)))] w20 fun w22 => rd_i64 w22 (q18.add 2) fun i23 => stPT (q18.add 2) 0 [(.int .i64 (IntKind.i64.wrap (i23 - A1)))] w22 fun w24 => rd_l_i64_i64_i64 w24 q18 fun a25 n26 c27 i28 i29 i30 => sums_Most.call [(.agg ⟨[(.slice a25 n26 c27), (.int .i64 i28), (.int .i64 i29), (.int .i64 i30)]⟩)] w24 fun v31 w32 => ∃ i33 : Int, ∃ i34 : Int, v31 = (.tuple ⟨[(.int .i64 i33), (.int .i64 i34)]⟩) ∧ rd_l_i64_i64_i64_i64 w32 q1 fun a35 n36 c37 i38 i39 i40 i41 => move_Rows.call [(.agg ⟨[(.slice a35 n36 c37), (.int .i64 i38), (.int .i64 i39), (.int .i64 i40), (.int .i64 i41)]⟩), (.int .i64 A1), (.int .i64 (IntKind.i64.wrap (A1 + i33)))] w32 fun v42 w43 => ∃ i44 : Int, v42 = (.int .i64 i44) ∧ rd_l_i64_i64_i64_i64 w43 q1 fun a45 n46 c47 i48 i49 i50 i51 => view_At.call [(.agg ⟨[(.slice a45 n46 c47), (.int .i64 i48), (.int .i64 i49), (.int .i64 i50), (.int .i64 i51)]⟩), (.int .i64 A1), (.int .i64 A1)] w43 fun v52 w53 => ∃ x54 : Nat, v52 = (.float .f64 x54) ∧ K (.tuple ⟨[(.int .i64 (IntKind.i64.wrap (A1 + i33))), (.bool (fne .f64 x54 0))]⟩) w53
theorem lu_Pivot.ok {A0_0p : Option Addr} {A0_0n A0_0c : Nat} {A0_1 : Int} {A0_2 : Int} {A0_3 : Int} {A0_4 : Int} {A1 : Int} {w : World} {K : Value → World → Prop} (h : lu_Pivot.x A0_0p A0_0n A0_0c A0_1 A0_2 A0_3 A0_4 A1 w K) : lu_Pivot.call [(.agg ⟨[(.slice A0_0p A0_0n A0_0c), (.int .i64 A0_1), (.int .i64 A0_2), (.int .i64 A0_3), (.int .i64 A0_4)]⟩), (.int .i64 A1)] w K :=
  callF_of_ex0 (f := Try.f33) Try.func33 rfl mixed (by kernel_rfl) (Eq.mp (by kernel_rfl) h)
/-! the same, the local variables taken out -/
def lu_Pivot.s (A0_0p : Option Addr) (A0_0n A0_0c : Nat) (A0_1 : Int) (A0_2 : Int) (A0_3 : Int) (A0_4 : Int) (A1 : Int) (w : World) (K : Value → World → Prop) : Prop := ∀ (k3 : Nat) (w2 : World), k3 = w.heap.size → k3 < w2.heap.size → Ext w w2 → view_Col.call [(.agg ⟨[(.slice A0_0p A0_0n A0_0c), (.int .i64 A0_1), (.int .i64 A0_2), (.int .i64 A0_3), (.int .i64 A0_4)]⟩), (.int .i64 A1)] w2 fun v12 w13 => Stay [k3] w2 w13 ∧ ∃ (a14 : Option Addr) (n15 c16 : Nat), ∃ i17 : Int, ∃ i18 : Int, ∃ i19 : Int, v12 = (.agg ⟨[(.slice a14 n15 c16), (.int .i64 i17), (.int .i64 i18), (.int .i64 i19)]⟩) ∧ ∀ (k22 : Nat) (w21 : World), k22 = w13.heap.size → k22 < w21.heap.size → Ext w13 w21 → ∀ w24 : World, Exc k22 w21 w24 → ∀ w26 : World, Exc k22 w24 w26 → ∀ w28 : World, Exc k22 w26 w28 → sums_Most.call [(.agg ⟨[(.slice a14 n15 c16), (.int .i64 (IntKind.i64.wrap (i17 + A1))), (.int .i64 (IntKind.i64.wrap (i18 - A1))), (.int .i64 i19)]⟩)] w28 fun v35 w36 => Stay [k22, k3] w28 w36 ∧ ∃ i37 : Int, ∃ i38 : Int, v35 = (.tuple ⟨[(.int .i64 i37), (.int .i64 i38)]⟩) ∧ move_Rows.call [(.agg ⟨[(.slice A0_0p A0_0n A0_0c), (.int .i64 A0_1), (.int .i64 A0_2), (.int .i64 A0_3), (.int .i64 A0_4)]⟩), (.int .i64 A1), (.int .i64 (IntKind.i64.wrap (A1 + i37)))] w36 fun v46 w47 => Stay [k22, k3] w36 w47 ∧ ∃ i48 : Int, v46 = (.int .i64 i48) ∧ view_At.call [(.agg ⟨[(.slice A0_0p A0_0n A0_0c), (.int .i64 A0_1), (.int .i64 A0_2), (.int .i64 A0_3), (.int .i64 A0_4)]⟩), (.int .i64 A1), (.int .i64 A1)] w47 fun v56 w57 => Stay [k22, k3] w47 w57 ∧ ∃ x58 : Nat, v56 = (.float .f64 x58) ∧ K (.tuple ⟨[(.int .i64 (IntKind.i64.wrap (A1 + i37))), (.bool (fne .f64 x58 0))]⟩) w57
theorem lu_Pivot.os {A0_0p : Option Addr} {A0_0n A0_0c : Nat} {A0_1 : Int} {A0_2 : Int} {A0_3 : Int} {A0_4 : Int} {A1 : Int} {w : World} {K : Value → World → Prop} (h : lu_Pivot.s A0_0p A0_0n A0_0c A0_1 A0_2 A0_3 A0_4 A1 w K) : lu_Pivot.call [(.agg ⟨[(.slice A0_0p A0_0n A0_0c), (.int .i64 A0_1), (.int .i64 A0_2), (.int .i64 A0_3), (.int .i64 A0_4)]⟩), (.int .i64 A1)] w K := by
  refine lu_Pivot.ok ?_
  have st := St.nil w
  unfold lu_Pivot.x
  unfold lu_Pivot.s at h
  refine St.new (St.nil _) (fun q1 w2 hk hlt he st => ?_)
  replace h := h q1.block w2 hk hlt he
  refine rd_l_i64_i64_i64_i64.bx 0 0 st rfl rfl rfl rfl rfl rfl rfl ?_
  refine CallF.mono h (fun v12 w13 h => ?_)
  obtain ⟨hK, h⟩ := h
  replace st := st.stay hK
  obtain ⟨a14, n15, c16, i17, i18, i19, h⟩ := h
  refine ⟨a14, n15, c16, i17, i18, i19, ?_⟩
  refine And.imp_right (fun h => ?_) h
  refine St.new st (fun q20 w21 hk hlt he st => ?_)
  replace h := h q20.block w21 hk hlt he
  refine St.put 0 0 st rfl rfl rfl rfl (fun w24 he st => ?_)
  replace h := h w24 he
  refine rd_i64.bx 0 1 st rfl rfl rfl ?_
  refine St.put 0 1 st rfl rfl rfl rfl (fun w26 he st => ?_)
  replace h := h w26 he
  refine rd_i64.bx 0 2 st rfl rfl rfl ?_
  refine St.put 0 2 st rfl rfl rfl rfl (fun w28 he st => ?_)
  replace h := h w28 he
  refine rd_l_i64_i64_i64.bx 0 0 st rfl rfl rfl rfl rfl rfl ?_
  refine CallF.mono h (fun v35 w36 h => ?_)
  obtain ⟨hK, h⟩ := h
  replace st := st.stay hK
  obtain ⟨i37, i38, h⟩ := h
  refine ⟨i37, i38, ?_⟩
  refine And.imp_right (fun h => ?_) h
  refine rd_l_i64_i64_i64_i64.bx 1 0 st rfl rfl rfl rfl rfl rfl rfl ?_
  refine CallF.mono h (fun v46 w47 h => ?_)
  obtain ⟨hK, h⟩ := h
  replace st := st.stay hK
  obtain ⟨i48, h⟩ := h
  refine ⟨i48, ?_⟩
  refine And.imp_right (fun h => ?_) h
  refine rd_l_i64_i64_i64_i64.bx 1 0 st rfl rfl rfl rfl rfl rfl rfl ?_
  refine CallF.mono h (fun v56 w57 h => ?_)
  obtain ⟨hK, h⟩ := h
  replace st := st.stay hK
  exact h

/-! ### straightedge/lu.Column: function 34 -/
def lu_Column.b6 (K : Value → World → Prop) (h6 : Option Addr → Nat → Option Addr → Int → Int → World → Prop) (z4 : Option Addr) (z5 : Nat) (z6 : Option Addr) (z28 : Int) (z29 : Int) (w : World) : Prop := br (decide (z29 < z28)) (ptrSome z6 fun q1 => rd_l w q1 fun a2 n3 c4 => ptrSome z6 fun q5 => rd_i64 w (q5.add 1) fun i6 => ptrSome a2 fun q7 => (0 : Int) ≤ (IntKind.i64.wrap (i6 + z29)) ∧ (IntKind.i64.wrap (i6 + z29)) < ((n3 : Nat) : Int) ∧ rd_f64 w (q7.add (Int.toNat (IntKind.i64.wrap (i6 + z29)))) fun x8 => fop .quo .f64 x8 z5 w fun x9 w10 => ptrSome a2 fun q11 => (0 : Int) ≤ (IntKind.i64.wrap (i6 + z29)) ∧ (IntKind.i64.wrap (i6 + z29)) < ((n3 : Nat) : Int) ∧ stPT (q11.add (Int.toNat (IntKind.i64.wrap (i6 + z29)))) 0 [(.float .f64 x9)] w10 fun w12 => h6 z4 z5 z6 z28 (IntKind.i64.wrap (z29 + 1)) w12) (ptrSome z6 fun q13 => rd_l_i64_i64_i64 w q13 fun a14 n15 c16 i17 i18 i19 => ptrSome z4 fun q20 => stPT q20 0 [(.slice a14 n15 c16), (.int .i64 i17), (.int .i64 i18), (.int .i64 i19)] w fun w21 => ptrSome z4 fun q22 => rd_l_i64_i64_i64 w21 q22 fun a23 n24 c25 i26 i27 i28 => K (.agg ⟨[(.slice a23 n24 c25), (.int .i64 i26), (.int .i64 i27), (.int .i64 i28)]⟩) w21)
def lu_Column.c6 (K : Value → World → Prop) : Nat → Option Addr → Nat → Option Addr → Int → Int → World → Prop
  | 0 => fun _ _ _ _ _ _ => False
  | fu + 1 => lu_Column.b6 K (lu_Column.c6 K fu)
def lu_Column.x (fu : Nat) (A0_0p : Option Addr) (A0_0n A0_0c : Nat) (A0_1 : Int) (A0_2 : Int) (A0_3 : Int) (A0_4 : Int) (A1 : Int) (w : World) (K : Value → World → Prop) : Prop := newB [(.slice A0_0p A0_0n A0_0c), (.int .i64 A0_1), (.int .i64 A0_2), (.int .i64 A0_3), (.int .i64 A0_4)] 24 w fun q1 w2 => newB [(.slice none 0 0), (.int .i64 0), (.int .i64 0), (.int .i64 0)] 66 w2 fun q3 w4 => rd_l_i64_i64_i64_i64 w4 q1 fun a5 n6 c7 i8 i9 i10 i11 => view_At.call [(.agg ⟨[(.slice a5 n6 c7), (.int .i64 i8), (.int .i64 i9), (.int .i64 i10), (.int .i64 i11)]⟩), (.int .i64 A1), (.int .i64 A1)] w4 fun v12 w13 => ∃ x14 : Nat, v12 = (.float .f64 x14) ∧ rd_l_i64_i64_i64_i64 w13 q1 fun a15 n16 c17 i18 i19 i20 i21 => view_Col.call [(.agg ⟨[(.slice a15 n16 c17), (.int .i64 i18), (.int .i64 i19), (.int .i64 i20), (.int .i64 i21)]⟩), (.int .i64 A1)] w13 fun v22 w23 => ∃ (a24 : Option Addr) (n25 c26 : Nat), ∃ i27 : Int, ∃ i28 : Int, ∃ i29 : Int, v22 = (.agg ⟨[(.slice a24 n25 c26), (.int .i64 i27), (.int .i64 i28), (.int .i64 i29)]⟩) ∧ newB [(.slice none 0 0), (.int .i64 0), (.int .i64 0), (.int .i64 0)] 66 w23 fun q30 w31 => stPT q30 0 [(.slice a24 n25 c26), (.int .i64 i27), (.int .i64 i28), (.int .i64 i29)] w31 fun w32 => rd_i64 w32 (q30.add 1) fun i33 => stPT (q30.add 1) 0 [(.int .i64 (IntKind.i64.wrap (i33 + (IntKind.i64.wrap (A1 + 1)))))] w32 fun w34 => rd_i64 w34 (q30.add 2) fun i35 => stPT (q30.add 2) 0 [(.int .i64 (IntKind.i64.wrap (i35 - (IntKind.i64.wrap (A1 + 1)))))] w34 fun w36 => rd_i64 w36 (q30.add 2) fun i37 => lu_Column.c6 K fu (some q3) x14 (some q30) i37 0 w36
def lu_Column.hd (K : Value → World → Prop) (n id : Nat) (t : List Value) (w : World) : Prop :=
  match id with
  | 6 => asP (t.getD 4 undef) fun z4 => asF .f64 (t.getD 5 undef) fun z5 => asP (t.getD 6 undef) fun z6 => asI .i64 (t.getD 28 undef) fun z28 => asI .i64 (t.getD 29 undef) fun z29 => lu_Column.c6 K n z4 z5 z6 z28 z29 w
  | _ => False
theorem lu_Column.t6 (K : Value → World → Prop) (n : Nat) (z4 : Option Addr) (z5 : Nat) (z6 : Option Addr) (z28 : Int) (z29 : Int) (u : Nat → Value) (w : World) (h : lu_Column.c6 K (n + 1) z4 z5 z6 z28 z29 w) :
    exT prog [6] (lu_Column.hd K n) Try.f34 6 45 [(4, (.pointer z4)), (5, (.float .f64 z5)), (6, (.pointer z6)), (28, (.int .i64 z28)), (29, (.int .i64 z29))] u w K := Eq.mp (by kernel_rfl) h
theorem lu_Column.ok (fu : Nat) {A0_0p : Option Addr} {A0_0n A0_0c : Nat} {A0_1 : Int} {A0_2 : Int} {A0_3 : Int} {A0_4 : Int} {A1 : Int} {w : World} {K : Value → World → Prop} (h : lu_Column.x fu A0_0p A0_0n A0_0c A0_1 A0_2 A0_3 A0_4 A1 w K) : lu_Column.call [(.agg ⟨[(.slice A0_0p A0_0n A0_0c), (.int .i64 A0_1), (.int .i64 A0_2), (.int .i64 A0_3), (.int .i64 A0_4)]⟩), (.int .i64 A1)] w K := by
  refine callF_of_ex (cuts := [6]) (H := lu_Column.hd K) (N := 45) Try.func34 rfl mixed (by kernel_rfl) ?_ ?_ ?_ rfl (n := fu) (Eq.mp (by kernel_rfl) h)
  · intro id hid; simp only [List.mem_cons, List.not_mem_nil, or_false] at hid; subst hid
    · exact (by kernel_rfl : (stacks (bodyOf Try.f34) []).filter (headIs 6) = [at_ (bodyOf Try.f34) 6])
  · intro id t w h
    unfold lu_Column.hd at h
    split at h
    · obtain ⟨z4, _, h⟩ := asP_elim h
      obtain ⟨z5, _, h⟩ := asF_elim h
      obtain ⟨z6, _, h⟩ := asP_elim h
      obtain ⟨z28, _, h⟩ := asI_elim h
      obtain ⟨z29, _, h⟩ := asI_elim h
      exact h
    · exact h
  · intro n id hid t w hl h; simp only [List.mem_cons, List.not_mem_nil, or_false] at hid; subst hid
    · replace h : asP (t.getD 4 undef) fun z4 => asF .f64 (t.getD 5 undef) fun z5 => asP (t.getD 6 undef) fun z6 => asI .i64 (t.getD 28 undef) fun z28 => asI .i64 (t.getD 29 undef) fun z29 => lu_Column.c6 K (n + 1) z4 z5 z6 z28 z29 w := h
      obtain ⟨z4, e4, h⟩ := asP_elim h
      obtain ⟨z5, e5, h⟩ := asF_elim h
      obtain ⟨z6, e6, h⟩ := asP_elim h
      obtain ⟨z28, e28, h⟩ := asI_elim h
      obtain ⟨z29, e29, h⟩ := asI_elim h
      rw [mk_of hl [(4, (.pointer z4)), (5, (.float .f64 z5)), (6, (.pointer z6)), (28, (.int .i64 z28)), (29, (.int .i64 z29))] (by simp only [List.forall_mem_cons, List.not_mem_nil, false_implies, implies_true, and_true]; exact ⟨e4, e5, e6, e28, e29⟩)]
      exact lu_Column.t6 K n z4 z5 z6 z28 z29 _ w h
/-! the same, the local variables taken out -/
def lu_Column.e6 (K : Value → World → Prop) (h6 : Nat → Option Addr → Nat → Nat → Int → Int → Int → Nat → Nat → Option Addr → Nat → Nat → Int → Int → Int → Int → Int → World → Prop) (k4 : Nat) (y4_0p : Option Addr) (y4_0n y4_0c : Nat) (y4_1 : Int) (y4_2 : Int) (y4_3 : Int) (z5 : Nat) (k6 : Nat) (y6_0p : Option Addr) (y6_0n y6_0c : Nat) (y6_1 : Int) (y6_2 : Int) (y6_3 : Int) (z28 : Int) (z29 : Int) (w : World) : Prop := br (decide (z29 < z28)) (ptrSome y6_0p fun q7 => (0 : Int) ≤ (IntKind.i64.wrap (y6_1 + z29)) ∧ (IntKind.i64.wrap (y6_1 + z29)) < ((y6_0n : Nat) : Int) ∧ rd_f64 w (q7.add (Int.toNat (IntKind.i64.wrap (y6_1 + z29)))) fun x8 => fop .quo .f64 x8 z5 w fun x9 w10 => ptrSome y6_0p fun q11 => (0 : Int) ≤ (IntKind.i64.wrap (y6_1 + z29)) ∧ (IntKind.i64.wrap (y6_1 + z29)) < ((y6_0n : Nat) : Int) ∧ stPT (q11.add (Int.toNat (IntKind.i64.wrap (y6_1 + z29)))) 0 [(.float .f64 x9)] w10 fun w12 => Keep [k4, k6] w10 w12 ∧ h6 k4 y4_0p y4_0n y4_0c y4_1 y4_2 y4_3 z5 k6 y6_0p y6_0n y6_0c y6_1 y6_2 y6_3 z28 (IntKind.i64.wrap (z29 + 1)) w12) (∀ w21 : World, Exc k4 w w21 → K (.agg ⟨[(.slice y6_0p y6_0n y6_0c), (.int .i64 y6_1), (.int .i64 y6_2), (.int .i64 y6_3)]⟩) w21)
def lu_Column.d6 (K : Value → World → Prop) : Nat → Nat → Option Addr → Nat → Nat → Int → Int → Int → Nat → Nat → Option Addr → Nat → Nat → Int → Int → Int → Int → Int → World → Prop
  | 0 => fun _ _ _ _ _ _ _ _ _ _ _ _ _ _ _ _ _ _ => False
  | fu + 1 => lu_Column.e6 K (lu_Column.d6 K fu)
def lu_Column.s (fu : Nat) (A0_0p : Option Addr) (A0_0n A0_0c : Nat) (A0_1 : Int) (A0_2 : Int) (A0_3 : Int) (A0_4 : Int) (A1 : Int) (w : World) (K : Value → World → Prop) : Prop := ∀ (k3 : Nat) (w2 : World), k3 = w.heap.size → k3 < w2.heap.size → Ext w w2 → ∀ (k7 : Nat) (w6 : World), k7 = w2.heap.size → k7 < w6.heap.size → Ext w2 w6 → view_At.call [(.agg ⟨[(.slice A0_0p A0_0n A0_0c), (.int .i64 A0_1), (.int .i64 A0_2), (.int .i64 A0_3), (.int .i64 A0_4)]⟩), (.int .i64 A1), (.int .i64 A1)] w6 fun v16 w17 => Stay [k7, k3] w6 w17 ∧ ∃ x18 : Nat, v16 = (.float .f64 x18) ∧ view_Col.call [(.agg ⟨[(.slice A0_0p A0_0n A0_0c), (.int .i64 A0_1), (.int .i64 A0_2), (.int .i64 A0_3), (.int .i64 A0_4)]⟩), (.int .i64 A1)] w17 fun v26 w27 => Stay [k7, k3] w17 w27 ∧ ∃ (a28 : Option Addr) (n29 c30 : Nat), ∃ i31 : Int, ∃ i32 : Int, ∃ i33 : Int, v26 = (.agg ⟨[(.slice a28 n29 c30), (.int .i64 i31), (.int .i64 i32), (.int .i64 i33)]⟩) ∧ ∀ (k36 : Nat) (w35 : World), k36 = w27.heap.size → k36 < w35.heap.size → Ext w27 w35 → ∀ w38 : World, Exc k36 w35 w38 → ∀ w40 : World, Exc k36 w38 w40 → ∀ w42 : World, Exc k36 w40 w42 → lu_Column.d6 K fu k7 none 0 0 0 0 0 x18 k36 a28 n29 c30 (IntKind.i64.wrap (i31 + (IntKind.i64.wrap (A1 + 1)))) (IntKind.i64.wrap (i32 - (IntKind.i64.wrap (A1 + 1)))) i33 (IntKind.i64.wrap (i32 - (IntKind.i64.wrap (A1 + 1)))) 0 w42
theorem lu_Column.b6_s {K : Value → World → Prop} {x6 : Option Addr → Nat → Option Addr → Int → Int → World → Prop} {s6 : Nat → Option Addr → Nat → Nat → Int → Int → Int → Nat → Nat → Option Addr → Nat → Nat → Int → Int → Int → Int → Int → World → Prop} (i6 : ∀ {q4 : Addr} {y4_0p : Option Addr} {y4_0n y4_0c : Nat} {y4_1 : Int} {y4_2 : Int} {y4_3 : Int} {z5 : Nat} {q6 : Addr} {y6_0p : Option Addr} {y6_0n y6_0c : Nat} {y6_1 : Int} {y6_2 : Int} {y6_3 : Int} {z28 : Int} {z29 : Int} {w : World}, s6 q4.block y4_0p y4_0n y4_0c y4_1 y4_2 y4_3 z5 q6.block y6_0p y6_0n y6_0c y6_1 y6_2 y6_3 z28 z29 w → St w [(q4, [(.slice y4_0p y4_0n y4_0c), (.int .i64 y4_1), (.int .i64 y4_2), (.int .i64 y4_3)]), (q6, [(.slice y6_0p y6_0n y6_0c), (.int .i64 y6_1), (.int .i64 y6_2), (.int .i64 y6_3)])] → x6 (some q4) z5 (some q6) z28 z29 w) {q4 : Addr} {y4_0p : Option Addr} {y4_0n y4_0c : Nat} {y4_1 : Int} {y4_2 : Int} {y4_3 : Int} {z5 : Nat} {q6 : Addr} {y6_0p : Option Addr} {y6_0n y6_0c : Nat} {y6_1 : Int} {y6_2 : Int} {y6_3 : Int} {z28 : Int} {z29 : Int} {w : World} (h : lu_Column.e6 K s6 q4.block y4_0p y4_0n y4_0c y4_1 y4_2 y4_3 z5 q6.block y6_0p y6_0n y6_0c y6_1 y6_2 y6_3 z28 z29 w) (st : St w [(q4, [(.slice y4_0p y4_0n y4_0c), (.int .i64 y4_1), (.int .i64 y4_2), (.int .i64 y4_3)]), (q6, [(.slice y6_0p y6_0n y6_0c), (.int .i64 y6_1), (.int .i64 y6_2), (.int .i64 y6_3)])]) : lu_Column.b6 K x6 (some q4) z5 (some q6) z28 z29 w := by
  unfold lu_Column.b6
  unfold lu_Column.e6 at h
  refine br_mono (fun h => ?_) (fun h => ?_) h
  · refine ptrSome_intro rfl ?_
    refine rd_l.bx 1 0 st rfl rfl rfl ?_
    refine ptrSome_intro rfl ?_
    refine rd_i64.bx 1 1 st rfl rfl rfl ?_
    refine ptrSome_mono (fun q7 h => ?_) h
    refine And.imp_right (fun h => ?_) h
    refine And.imp_right (fun h => ?_) h
    refine rd_f64.mono (fun x8 h => ?_) h
    refine fop_mono st h (fun x9 w10 st h => ?_)
    refine ptrSome_mono (fun q11 h => ?_) h
    refine And.imp_right (fun h => ?_) h
    refine And.imp_right (fun h => ?_) h
    refine stPT_mono (fun w12 h => ?_) h
    obtain ⟨hK, h⟩ := h
    replace st := st.keep hK
    exact i6 h (st.pick [0, 1] (by decide))
  · refine ptrSome_intro rfl ?_
    refine rd_l_i64_i64_i64.bx 1 0 st rfl rfl rfl rfl rfl rfl ?_
    refine ptrSome_intro rfl ?_
    refine St.put 0 0 st rfl rfl rfl rfl (fun w21 he st => ?_)
    replace h := h w21 he
    refine ptrSome_intro rfl ?_
    refine rd_l_i64_i64_i64.bx 0 0 st rfl rfl rfl rfl rfl rfl ?_
    exact h
theorem lu_Column.c6_s {K : Value → World → Prop} (fu : Nat) : ∀ {q4 : Addr} {y4_0p : Option Addr} {y4_0n y4_0c : Nat} {y4_1 : Int} {y4_2 : Int} {y4_3 : Int} {z5 : Nat} {q6 : Addr} {y6_0p : Option Addr} {y6_0n y6_0c : Nat} {y6_1 : Int} {y6_2 : Int} {y6_3 : Int} {z28 : Int} {z29 : Int} {w : World}, lu_Column.d6 K fu q4.block y4_0p y4_0n y4_0c y4_1 y4_2 y4_3 z5 q6.block y6_0p y6_0n y6_0c y6_1 y6_2 y6_3 z28 z29 w → St w [(q4, [(.slice y4_0p y4_0n y4_0c), (.int .i64 y4_1), (.int .i64 y4_2), (.int .i64 y4_3)]), (q6, [(.slice y6_0p y6_0n y6_0c), (.int .i64 y6_1), (.int .i64 y6_2), (.int .i64 y6_3)])] → lu_Column.c6 K fu (some q4) z5 (some q6) z28 z29 w := by
  induction fu with
  | zero => exact fun h _ => False.elim h
  | succ fu ih => exact fun h st => lu_Column.b6_s (K := K) (x6 := lu_Column.c6 K fu) (s6 := lu_Column.d6 K fu) ih h st
theorem lu_Column.os (fu : Nat) {A0_0p : Option Addr} {A0_0n A0_0c : Nat} {A0_1 : Int} {A0_2 : Int} {A0_3 : Int} {A0_4 : Int} {A1 : Int} {w : World} {K : Value → World → Prop} (h : lu_Column.s fu A0_0p A0_0n A0_0c A0_1 A0_2 A0_3 A0_4 A1 w K) : lu_Column.call [(.agg ⟨[(.slice A0_0p A0_0n A0_0c), (.int .i64 A0_1), (.int .i64 A0_2), (.int .i64 A0_3), (.int .i64 A0_4)]⟩), (.int .i64 A1)] w K := by
  refine lu_Column.ok fu ?_
  have st := St.nil w
  unfold lu_Column.x
  unfold lu_Column.s at h
  refine St.new (St.nil _) (fun q1 w2 hk hlt he st => ?_)
  replace h := h q1.block w2 hk hlt he
  refine St.new st (fun q5 w6 hk hlt he st => ?_)
  replace h := h q5.block w6 hk hlt he
  refine rd_l_i64_i64_i64_i64.bx 1 0 st rfl rfl rfl rfl rfl rfl rfl ?_
  refine CallF.mono h (fun v16 w17 h => ?_)
  obtain ⟨hK, h⟩ := h
  replace st := st.stay hK
  obtain ⟨x18, h⟩ := h
  refine ⟨x18, ?_⟩
  refine And.imp_right (fun h => ?_) h
  refine rd_l_i64_i64_i64_i64.bx 1 0 st rfl rfl rfl rfl rfl rfl rfl ?_
  refine CallF.mono h (fun v26 w27 h => ?_)
  obtain ⟨hK, h⟩ := h
  replace st := st.stay hK
  obtain ⟨a28, n29, c30, i31, i32, i33, h⟩ := h
  refine ⟨a28, n29, c30, i31, i32, i33, ?_⟩
  refine And.imp_right (fun h => ?_) h
  refine St.new st (fun q34 w35 hk hlt he st => ?_)
  replace h := h q34.block w35 hk hlt he
  refine St.put 0 0 st rfl rfl rfl rfl (fun w38 he st => ?_)
  replace h := h w38 he
  refine rd_i64.bx 0 1 st rfl rfl rfl ?_
  refine St.put 0 1 st rfl rfl rfl rfl (fun w40 he st => ?_)
  replace h := h w40 he
  refine rd_i64.bx 0 2 st rfl rfl rfl ?_
  refine St.put 0 2 st rfl rfl rfl rfl (fun w42 he st => ?_)
  replace h := h w42 he
  refine rd_i64.bx 0 2 st rfl rfl rfl ?_
  exact lu_Column.c6_s fu h (st.pick [1, 0] (by decide))

/-! ### straightedge/lu.Right: function 69 -/
def lu_Right.b5 (K : Value → World → Prop) (h5 : Int → Option Addr → Nat → Nat → Int → Int → World → Prop) (z3 : Int) (z30p : Option Addr) (z30n z30c : Nat) (z31 : Int) (z32 : Int) (w : World) : Prop := br (decide (z32 < z31)) (ptrSome z30p fun q1 => (0 : Int) ≤ z32 ∧ z32 < ((z30n : Nat) : Int) ∧ rd_i64 w (q1.add (Int.toNat z32)) fun i2 => br (decide (i2 < z32)) (K (.bool false) w) (br (decide (i2 ≥ z3)) (K (.bool false) w) (h5 z3 z30p z30n z30c z31 (IntKind.i64.wrap (z32 + 1)) w))) (K (.bool true) w)
def lu_Right.c5 (K : Value → World → Prop) : Nat → Int → Option Addr → Nat → Nat → Int → Int → World → Prop
  | 0 => fun _ _ _ _ _ _ _ => False
  | fu + 1 => lu_Right.b5 K (lu_Right.c5 K fu)
def lu_Right.x (fu : Nat) (A0_0p : Option Addr) (A0_0n A0_0c : Nat) (A0_1 : Int) (A0_2 : Int) (A0_3 : Int) (A0_4 : Int) (A0_5p : Option Addr) (A0_5n A0_5c : Nat) (w : World) (K : Value → World → Prop) : Prop := newB [(.slice A0_0p A0_0n A0_0c), (.int .i64 A0_1), (.int .i64 A0_2), (.int .i64 A0_3), (.int .i64 A0_4), (.slice A0_5p A0_5n A0_5c)] 33 w fun q1 w2 => rd_l w2 (q1.add 5) fun a3 n4 c5 => rd_l_i64_i64_i64_i64 w2 q1 fun a6 n7 c8 i9 i10 i11 i12 => view_Good.call [(.agg ⟨[(.slice a6 n7 c8), (.int .i64 i9), (.int .i64 i10), (.int .i64 i11), (.int .i64 i12)]⟩)] w2 fun v13 w14 => ∃ b15 : Bool, v13 = (.bool b15) ∧ br (!b15) (K (.bool false) w14) (rd_i64 w14 (q1.add 2) fun i16 => rd_i64 w14 (q1.add 3) fun i17 => br (i16 != i17) (K (.bool false) w14) (rd_i64 w14 (q1.add 2) fun i18 => br (i18 != ((n4 : Nat) : Int)) (K (.bool false) w14) (rd_l w14 (q1.add 5) fun a19 n20 c21 => lu_Right.c5 K fu ((n4 : Nat) : Int) a19 n20 c21 ((n20 : Nat) : Int) 0 w14)))
def lu_Right.hd (K : Value → World → Prop) (n id : Nat) (t : List Value) (w : World) : Prop :=
  match id with
  | 5 => asI .i64 (t.getD 3 undef) fun z3 => asL (t.getD 30 undef) fun z30p z30n z30c => asI .i64 (t.getD 31 undef) fun z31 => asI .i64 (t.getD 32 undef) fun z32 => lu_Right.c5 K n z3 z30p z30n z30c z31 z32 w
  | _ => False
theorem lu_Right.t5 (K : Value → World → Prop) (n : Nat) (z3 : Int) (z30p : Option Addr) (z30n z30c : Nat) (z31 : Int) (z32 : Int) (u : Nat → Value) (w : World) (h : lu_Right.c5 K (n + 1) z3 z30p z30n z30c z31 z32 w) :
    exT prog [5] (lu_Right.hd K n) Try.f69 5 46 [(3, (.int .i64 z3)), (30, (.slice z30p z30n z30c)), (31, (.int .i64 z31)), (32, (.int .i64 z32))] u w K := Eq.mp (by kernel_rfl) h
theorem lu_Right.ok (fu : Nat) {A0_0p : Option Addr} {A0_0n A0_0c : Nat} {A0_1 : Int} {A0_2 : Int} {A0_3 : Int} {A0_4 : Int} {A0_5p : Option Addr} {A0_5n A0_5c : Nat} {w : World} {K : Value → World → Prop} (h : lu_Right.x fu A0_0p A0_0n A0_0c A0_1 A0_2 A0_3 A0_4 A0_5p A0_5n A0_5c w K) : lu_Right.call [(.agg ⟨[(.slice A0_0p A0_0n A0_0c), (.int .i64 A0_1), (.int .i64 A0_2), (.int .i64 A0_3), (.int .i64 A0_4), (.slice A0_5p A0_5n A0_5c)]⟩)] w K := by
  refine callF_of_ex (cuts := [5]) (H := lu_Right.hd K) (N := 46) Try.func69 rfl mixed (by kernel_rfl) ?_ ?_ ?_ rfl (n := fu) (Eq.mp (by kernel_rfl) h)
  · intro id hid; simp only [List.mem_cons, List.not_mem_nil, or_false] at hid; subst hid
    · exact (by kernel_rfl : (stacks (bodyOf Try.f69) []).filter (headIs 5) = [at_ (bodyOf Try.f69) 5])
  · intro id t w h
    unfold lu_Right.hd at h
    split at h
    · obtain ⟨z3, _, h⟩ := asI_elim h
      obtain ⟨z30p, z30n, z30c, _, h⟩ := asL_elim h
      obtain ⟨z31, _, h⟩ := asI_elim h
      obtain ⟨z32, _, h⟩ := asI_elim h
      exact h
    · exact h
  · intro n id hid t w hl h; simp only [List.mem_cons, List.not_mem_nil, or_false] at hid; subst hid
    · replace h : asI .i64 (t.getD 3 undef) fun z3 => asL (t.getD 30 undef) fun z30p z30n z30c => asI .i64 (t.getD 31 undef) fun z31 => asI .i64 (t.getD 32 undef) fun z32 => lu_Right.c5 K (n + 1) z3 z30p z30n z30c z31 z32 w := h
      obtain ⟨z3, e3, h⟩ := asI_elim h
      obtain ⟨z30p, z30n, z30c, e30, h⟩ := asL_elim h
      obtain ⟨z31, e31, h⟩ := asI_elim h
      obtain ⟨z32, e32, h⟩ := asI_elim h
      rw [mk_of hl [(3, (.int .i64 z3)), (30, (.slice z30p z30n z30c)), (31, (.int .i64 z31)), (32, (.int .i64 z32))] (by simp only [List.forall_mem_cons, List.not_mem_nil, false_implies, implies_true, and_true]; exact ⟨e3, e30, e31, e32⟩)]
      exact lu_Right.t5 K n z3 z30p z30n z30c z31 z32 _ w h
/-! the same, the local variables taken out -/
def lu_Right.e5 (K : Value → World → Prop) (h5 : Int → Option Addr → Nat → Nat → Int → Int → World → Prop) (z3 : Int) (z30p : Option Addr) (z30n z30c : Nat) (z31 : Int) (z32 : Int) (w : World) : Prop := br (decide (z32 < z31)) (ptrSome z30p fun q1 => (0 : Int) ≤ z32 ∧ z32 < ((z30n : Nat) : Int) ∧ rd_i64 w (q1.add (Int.toNat z32)) fun i2 => br (decide (i2 < z32)) (K (.bool false) w) (br (decide (i2 ≥ z3)) (K (.bool false) w) (h5 z3 z30p z30n z30c z31 (IntKind.i64.wrap (z32 + 1)) w))) (K (.bool true) w)
def lu_Right.d5 (K : Value → World → Prop) : Nat → Int → Option Addr → Nat → Nat → Int → Int → World → Prop
  | 0 => fun _ _ _ _ _ _ _ => False
  | fu + 1 => lu_Right.e5 K (lu_Right.d5 K fu)
def lu_Right.s (fu : Nat) (A0_0p : Option Addr) (A0_0n A0_0c : Nat) (A0_1 : Int) (A0_2 : Int) (A0_3 : Int) (A0_4 : Int) (A0_5p : Option Addr) (A0_5n A0_5c : Nat) (w : World) (K : Value → World → Prop) : Prop := ∀ (k3 : Nat) (w2 : World), k3 = w.heap.size → k3 < w2.heap.size → Ext w w2 → view_Good.call [(.agg ⟨[(.slice A0_0p A0_0n A0_0c), (.int .i64 A0_1), (.int .i64 A0_2), (.int .i64 A0_3), (.int .i64 A0_4)]⟩)] w2 fun v15 w16 => Stay [k3] w2 w16 ∧ ∃ b17 : Bool, v15 = (.bool b17) ∧ br (!b17) (K (.bool false) w16) (br (A0_2 != A0_3) (K (.bool false) w16) (br (A0_2 != ((A0_5n : Nat) : Int)) (K (.bool false) w16) (lu_Right.d5 K fu ((A0_5n : Nat) : Int) A0_5p A0_5n A0_5c ((A0_5n : Nat) : Int) 0 w16)))
theorem lu_Right.b5_s {K : Value → World → Prop} {x5 : Int → Option Addr → Nat → Nat → Int → Int → World → Prop} {s5 : Int → Option Addr → Nat → Nat → Int → Int → World → Prop} (i5 : ∀ {z3 : Int} {z30p : Option Addr} {z30n z30c : Nat} {z31 : Int} {z32 : Int} {w : World}, s5 z3 z30p z30n z30c z31 z32 w → St w [] → x5 z3 z30p z30n z30c z31 z32 w) {z3 : Int} {z30p : Option Addr} {z30n z30c : Nat} {z31 : Int} {z32 : Int} {w : World} (h : lu_Right.e5 K s5 z3 z30p z30n z30c z31 z32 w) (st : St w []) : lu_Right.b5 K x5 z3 z30p z30n z30c z31 z32 w := by
  unfold lu_Right.b5
  unfold lu_Right.e5 at h
  refine br_mono (fun h => ?_) (fun h => ?_) h
  · refine ptrSome_mono (fun q1 h => ?_) h
    refine And.imp_right (fun h => ?_) h
    refine And.imp_right (fun h => ?_) h
    refine rd_i64.mono (fun i2 h => ?_) h
    refine br_mono (fun h => ?_) (fun h => ?_) h
    · exact h
    · refine br_mono (fun h => ?_) (fun h => ?_) h
      · exact h
      · exact i5 h ((St.nil _).pick [] (by decide))
  · exact h
theorem lu_Right.c5_s {K : Value → World → Prop} (fu : Nat) : ∀ {z3 : Int} {z30p : Option Addr} {z30n z30c : Nat} {z31 : Int} {z32 : Int} {w : World}, lu_Right.d5 K fu z3 z30p z30n z30c z31 z32 w → St w [] → lu_Right.c5 K fu z3 z30p z30n z30c z31 z32 w := by
  induction fu with
  | zero => exact fun h _ => False.elim h
  | succ fu ih => exact fun h st => lu_Right.b5_s (K := K) (x5 := lu_Right.c5 K fu) (s5 := lu_Right.d5 K fu) ih h st
theorem lu_Right.os (fu : Nat) {A0_0p : Option Addr} {A0_0n A0_0c : Nat} {A0_1 : Int} {A0_2 : Int} {A0_3 : Int} {A0_4 : Int} {A0_5p : Option Addr} {A0_5n A0_5c : Nat} {w : World} {K : Value → World → Prop} (h : lu_Right.s fu A0_0p A0_0n A0_0c A0_1 A0_2 A0_3 A0_4 A0_5p A0_5n A0_5c w K) : lu_Right.call [(.agg ⟨[(.slice A0_0p A0_0n A0_0c), (.int .i64 A0_1), (.int .i64 A0_2), (.int .i64 A0_3), (.int .i64 A0_4), (.slice A0_5p A0_5n A0_5c)]⟩)] w K := by
  refine lu_Right.ok fu ?_
  have st := St.nil w
  unfold lu_Right.x
  unfold lu_Right.s at h
  refine St.new (St.nil _) (fun q1 w2 hk hlt he st => ?_)
  replace h := h q1.block w2 hk hlt he
  refine rd_l.bx 0 5 st rfl rfl rfl ?_
  refine rd_l_i64_i64_i64_i64.bx 0 0 st rfl rfl rfl rfl rfl rfl rfl ?_
  refine CallF.mono h (fun v15 w16 h => ?_)
  obtain ⟨hK, h⟩ := h
  replace st := st.stay hK
  obtain ⟨b17, h⟩ := h
  refine ⟨b17, ?_⟩
  refine And.imp_right (fun h => ?_) h
  refine br_mono (fun h => ?_) (fun h => ?_) h
  · exact h
  · refine rd_i64.bx 0 2 st rfl rfl rfl ?_
    refine rd_i64.bx 0 3 st rfl rfl rfl ?_
    refine br_mono (fun h => ?_) (fun h => ?_) h
    · exact h
    · refine rd_i64.bx 0 2 st rfl rfl rfl ?_
      refine br_mono (fun h => ?_) (fun h => ?_) h
      · exact h
      · refine rd_l.bx 0 5 st rfl rfl rfl ?_
        exact lu_Right.c5_s fu h (st.pick [] (by decide))

end Go.Proofs.Ytgdkahbnepafgaa

/-! ### AGger -/
/- The explicit forms of the functions of one package, and that the calls do what they say. Written by wip/tools/wk2.py. -/
set_option maxHeartbeats 4000000
set_option maxRecDepth 100000
set_option linter.unusedVariables false
namespace Go.Proofs.Ytgdkahbnepafgaa
open Go Go.Wk

/-! ### straightedge/ger.Ger: function 36 -/
def ger_Ger.x (A0 : Nat) (A1_0p : Option Addr) (A1_0n A1_0c : Nat) (A1_1 : Int) (A1_2 : Int) (A1_3 : Int) (A2_0p : Option Addr) (A2_0n A2_0c : Nat) (A2_1 : Int) (A2_2 : Int) (A2_3 : Int) (A3_0p : Option Addr) (A3_0n A3_0c : Nat) (A3_1 : Int) (A3_2 : Int) (A3_3 : Int) (A3_4 : Int) (w : World) (K : Value → World → Prop) : Prop := newB [(.float .f64 A0)] 38 w fun q1 w2 => newB [(.slice A1_0p A1_0n A1_0c), (.int .i64 A1_1), (.int .i64 A1_2), (.int .i64 A1_3)] 66 w2 fun q3 w4 => newB [(.slice A2_0p A2_0n A2_0c), (.int .i64 A2_1), (.int .i64 A2_2), (.int .i64 A2_3)] 66 w4 fun q5 w6 => newB [(.slice A3_0p A3_0n A3_0c), (.int .i64 A3_1), (.int .i64 A3_2), (.int .i64 A3_3), (.int .i64 A3_4)] 24 w6 fun q7 w8 => rd_l_i64_i64_i64 w8 q3 fun a9 n10 c11 i12 i13 i14 => view_Right.call [(.agg ⟨[(.slice a9 n10 c11), (.int .i64 i12), (.int .i64 i13), (.int .i64 i14)]⟩)] w8 fun v15 w16 => ∃ b17 : Bool, v15 = (.bool b17) ∧ br (!b17) (K (.int .i64 1) w16) (rd_l_i64_i64_i64 w16 q5 fun a18 n19 c20 i21 i22 i23 => view_Right.call [(.agg ⟨[(.slice a18 n19 c20), (.int .i64 i21), (.int .i64 i22), (.int .i64 i23)]⟩)] w16 fun v24 w25 => ∃ b26 : Bool, v24 = (.bool b26) ∧ br (!b26) (K (.int .i64 1) w25) (rd_l_i64_i64_i64_i64 w25 q7 fun a27 n28 c29 i30 i31 i32 i33 => view_Good.call [(.agg ⟨[(.slice a27 n28 c29), (.int .i64 i30), (.int .i64 i31), (.int .i64 i32), (.int .i64 i33)]⟩)] w25 fun v34 w35 => ∃ b36 : Bool, v34 = (.bool b36) ∧ br (!b36) (K (.int .i64 1) w35) (rd_i64 w35 (q3.add 2) fun i37 => rd_i64 w35 (q7.add 2) fun i38 => br (i37 != i38) (K (.int .i64 3) w35) (rd_i64 w35 (q5.add 2) fun i39 => rd_i64 w35 (q7.add 3) fun i40 => br (i39 != i40) (K (.int .i64 3) w35) (rd_l_i64_i64_i64 w35.drew q3 fun a42 n43 c44 i45 i46 i47 => rd_l_i64_i64_i64_i64 w35.drew q7 fun a48 n49 c50 i51 i52 i53 i54 => ger_row.call [(.agg ⟨[(.slice a42 n43 c44), (.int .i64 i45), (.int .i64 i46), (.int .i64 i47)]⟩)] w35.drew fun v55 w56 => ∃ (a57 : Option Addr) (n58 c59 : Nat), ∃ i60 : Int, ∃ i61 : Int, ∃ i62 : Int, ∃ i63 : Int, v55 = (.agg ⟨[(.slice a57 n58 c59), (.int .i64 i60), (.int .i64 i61), (.int .i64 i62), (.int .i64 i63)]⟩) ∧ Kept w35.drew w56 ∧ view_Meet.call [(.agg ⟨[(.slice a57 n58 c59), (.int .i64 i60), (.int .i64 i61), (.int .i64 i62), (.int .i64 i63)]⟩), (.agg ⟨[(.slice a48 n49 c50), (.int .i64 i51), (.int .i64 i52), (.int .i64 i53), (.int .i64 i54)]⟩)] w56 fun v64 w65 => ∃ b66 : Bool, v64 = (.bool b66) ∧ Kept w56 w65 ∧ br b66 (K (.int .i64 2) w65) (rd_l_i64_i64_i64 w35.drew q5 fun a67 n68 c69 i70 i71 i72 => rd_l_i64_i64_i64_i64 w35.drew q7 fun a73 n74 c75 i76 i77 i78 i79 => ger_row.call [(.agg ⟨[(.slice a67 n68 c69), (.int .i64 i70), (.int .i64 i71), (.int .i64 i72)]⟩)] w65 fun v80 w81 => ∃ (a82 : Option Addr) (n83 c84 : Nat), ∃ i85 : Int, ∃ i86 : Int, ∃ i87 : Int, ∃ i88 : Int, v80 = (.agg ⟨[(.slice a82 n83 c84), (.int .i64 i85), (.int .i64 i86), (.int .i64 i87), (.int .i64 i88)]⟩) ∧ Kept w65 w81 ∧ view_Meet.call [(.agg ⟨[(.slice a82 n83 c84), (.int .i64 i85), (.int .i64 i86), (.int .i64 i87), (.int .i64 i88)]⟩), (.agg ⟨[(.slice a73 n74 c75), (.int .i64 i76), (.int .i64 i77), (.int .i64 i78), (.int .i64 i79)]⟩)] w81 fun v89 w90 => ∃ b91 : Bool, v89 = (.bool b91) ∧ br b91 (K (.int .i64 2) w90) (rd_l_i64_i64_i64_i64 w90 q7 fun a92 n93 c94 i95 i96 i97 i98 => ger_each.call [(.agg ⟨[(.slice a92 n93 c94), (.int .i64 i95), (.int .i64 i96), (.int .i64 i97), (.int .i64 i98)]⟩), (.func (.func 67) ⟨[]⟩ ⟨[(.pointer (some q1)), (.pointer (some q5)), (.pointer (some q3))]⟩)] w90 fun v99 w100 => v99 = (.tuple ⟨[]⟩) ∧ K (.int .i64 0) w100)))))))
theorem ger_Ger.ok {A0 : Nat} {A1_0p : Option Addr} {A1_0n A1_0c : Nat} {A1_1 : Int} {A1_2 : Int} {A1_3 : Int} {A2_0p : Option Addr} {A2_0n A2_0c : Nat} {A2_1 : Int} {A2_2 : Int} {A2_3 : Int} {A3_0p : Option Addr} {A3_0n A3_0c : Nat} {A3_1 : Int} {A3_2 : Int} {A3_3 : Int} {A3_4 : Int} {w : World} {K : Value → World → Prop} (h : ger_Ger.x A0 A1_0p A1_0n A1_0c A1_1 A1_2 A1_3 A2_0p A2_0n A2_0c A2_1 A2_2 A2_3 A3_0p A3_0n A3_0c A3_1 A3_2 A3_3 A3_4 w K) : ger_Ger.call [(.float .f64 A0), (.agg ⟨[(.slice A1_0p A1_0n A1_0c), (.int .i64 A1_1), (.int .i64 A1_2), (.int .i64 A1_3)]⟩), (.agg ⟨[(.slice A2_0p A2_0n A2_0c), (.int .i64 A2_1), (.int .i64 A2_2), (.int .i64 A2_3)]⟩), (.agg ⟨[(.slice A3_0p A3_0n A3_0c), (.int .i64 A3_1), (.int .i64 A3_2), (.int .i64 A3_3), (.int .i64 A3_4)]⟩)] w K :=
  callF_of_ex0 (f := Try.f36) Try.func36 rfl mixed (by kernel_rfl) (Eq.mp (by kernel_rfl) h)
/-! the same, the local variables taken out -/
def ger_Ger.s (A0 : Nat) (A1_0p : Option Addr) (A1_0n A1_0c : Nat) (A1_1 : Int) (A1_2 : Int) (A1_3 : Int) (A2_0p : Option Addr) (A2_0n A2_0c : Nat) (A2_1 : Int) (A2_2 : Int) (A2_3 : Int) (A3_0p : Option Addr) (A3_0n A3_0c : Nat) (A3_1 : Int) (A3_2 : Int) (A3_3 : Int) (A3_4 : Int) (w : World) (K : Value → World → Prop) : Prop := newB [(.float .f64 A0)] 38 w fun q1 w2 => newB [(.slice A1_0p A1_0n A1_0c), (.int .i64 A1_1), (.int .i64 A1_2), (.int .i64 A1_3)] 66 w2 fun q3 w4 => newB [(.slice A2_0p A2_0n A2_0c), (.int .i64 A2_1), (.int .i64 A2_2), (.int .i64 A2_3)] 66 w4 fun q5 w6 => ∀ (k9 : Nat) (w8 : World), k9 = w6.heap.size → k9 < w8.heap.size → Ext w6 w8 → rd_l_i64_i64_i64 w8 q3 fun a11 n12 c13 i14 i15 i16 => view_Right.call [(.agg ⟨[(.slice a11 n12 c13), (.int .i64 i14), (.int .i64 i15), (.int .i64 i16)]⟩)] w8 fun v17 w18 => Stay [k9] w8 w18 ∧ ∃ b19 : Bool, v17 = (.bool b19) ∧ br (!b19) (K (.int .i64 1) w18) (rd_l_i64_i64_i64 w18 q5 fun a20 n21 c22 i23 i24 i25 => view_Right.call [(.agg ⟨[(.slice a20 n21 c22), (.int .i64 i23), (.int .i64 i24), (.int .i64 i25)]⟩)] w18 fun v26 w27 => Stay [k9] w18 w27 ∧ ∃ b28 : Bool, v26 = (.bool b28) ∧ br (!b28) (K (.int .i64 1) w27) (view_Good.call [(.agg ⟨[(.slice A3_0p A3_0n A3_0c), (.int .i64 A3_1), (.int .i64 A3_2), (.int .i64 A3_3), (.int .i64 A3_4)]⟩)] w27 fun v36 w37 => Stay [k9] w27 w37 ∧ ∃ b38 : Bool, v36 = (.bool b38) ∧ br (!b38) (K (.int .i64 1) w37) (rd_i64 w37 (q3.add 2) fun i39 => br (i39 != A3_2) (K (.int .i64 3) w37) (rd_i64 w37 (q5.add 2) fun i41 => br (i41 != A3_3) (K (.int .i64 3) w37) (rd_l_i64_i64_i64 w37.drew q3 fun a44 n45 c46 i47 i48 i49 => ger_row.call [(.agg ⟨[(.slice a44 n45 c46), (.int .i64 i47), (.int .i64 i48), (.int .i64 i49)]⟩)] w37.drew fun v57 w58 => Stay [k9] w37.drew w58 ∧ ∃ (a59 : Option Addr) (n60 c61 : Nat), ∃ i62 : Int, ∃ i63 : Int, ∃ i64 : Int, ∃ i65 : Int, v57 = (.agg ⟨[(.slice a59 n60 c61), (.int .i64 i62), (.int .i64 i63), (.int .i64 i64), (.int .i64 i65)]⟩) ∧ Kept w37.drew w58 ∧ view_Meet.call [(.agg ⟨[(.slice a59 n60 c61), (.int .i64 i62), (.int .i64 i63), (.int .i64 i64), (.int .i64 i65)]⟩), (.agg ⟨[(.slice A3_0p A3_0n A3_0c), (.int .i64 A3_1), (.int .i64 A3_2), (.int .i64 A3_3), (.int .i64 A3_4)]⟩)] w58 fun v66 w67 => Stay [k9] w58 w67 ∧ ∃ b68 : Bool, v66 = (.bool b68) ∧ Kept w58 w67 ∧ br b68 (K (.int .i64 2) w67) (rd_l_i64_i64_i64 w37.drew q5 fun a69 n70 c71 i72 i73 i74 => ger_row.call [(.agg ⟨[(.slice a69 n70 c71), (.int .i64 i72), (.int .i64 i73), (.int .i64 i74)]⟩)] w67 fun v82 w83 => Stay [k9] w67 w83 ∧ ∃ (a84 : Option Addr) (n85 c86 : Nat), ∃ i87 : Int, ∃ i88 : Int, ∃ i89 : Int, ∃ i90 : Int, v82 = (.agg ⟨[(.slice a84 n85 c86), (.int .i64 i87), (.int .i64 i88), (.int .i64 i89), (.int .i64 i90)]⟩) ∧ Kept w67 w83 ∧ view_Meet.call [(.agg ⟨[(.slice a84 n85 c86), (.int .i64 i87), (.int .i64 i88), (.int .i64 i89), (.int .i64 i90)]⟩), (.agg ⟨[(.slice A3_0p A3_0n A3_0c), (.int .i64 A3_1), (.int .i64 A3_2), (.int .i64 A3_3), (.int .i64 A3_4)]⟩)] w83 fun v91 w92 => Stay [k9] w83 w92 ∧ ∃ b93 : Bool, v91 = (.bool b93) ∧ br b93 (K (.int .i64 2) w92) (ger_each.call [(.agg ⟨[(.slice A3_0p A3_0n A3_0c), (.int .i64 A3_1), (.int .i64 A3_2), (.int .i64 A3_3), (.int .i64 A3_4)]⟩), (.func (.func 67) ⟨[]⟩ ⟨[(.pointer (some q1)), (.pointer (some q5)), (.pointer (some q3))]⟩)] w92 fun v101 w102 => Stay [k9] w92 w102 ∧ v101 = (.tuple ⟨[]⟩) ∧ K (.int .i64 0) w102)))))))
theorem ger_Ger.os {A0 : Nat} {A1_0p : Option Addr} {A1_0n A1_0c : Nat} {A1_1 : Int} {A1_2 : Int} {A1_3 : Int} {A2_0p : Option Addr} {A2_0n A2_0c : Nat} {A2_1 : Int} {A2_2 : Int} {A2_3 : Int} {A3_0p : Option Addr} {A3_0n A3_0c : Nat} {A3_1 : Int} {A3_2 : Int} {A3_3 : Int} {A3_4 : Int} {w : World} {K : Value → World → Prop} (h : ger_Ger.s A0 A1_0p A1_0n A1_0c A1_1 A1_2 A1_3 A2_0p A2_0n A2_0c A2_1 A2_2 A2_3 A3_0p A3_0n A3_0c A3_1 A3_2 A3_3 A3_4 w K) : ger_Ger.call [(.float .f64 A0), (.agg ⟨[(.slice A1_0p A1_0n A1_0c), (.int .i64 A1_1), (.int .i64 A1_2), (.int .i64 A1_3)]⟩), (.agg ⟨[(.slice A2_0p A2_0n A2_0c), (.int .i64 A2_1), (.int .i64 A2_2), (.int .i64 A2_3)]⟩), (.agg ⟨[(.slice A3_0p A3_0n A3_0c), (.int .i64 A3_1), (.int .i64 A3_2), (.int .i64 A3_3), (.int .i64 A3_4)]⟩)] w K := by
  refine ger_Ger.ok ?_
  have st := St.nil w
  unfold ger_Ger.x
  unfold ger_Ger.s at h
  refine newB_mono (St.nil _) h (fun q1 w2 st h => ?_)
  refine newB_mono (St.nil _) h (fun q3 w4 st h => ?_)
  refine newB_mono (St.nil _) h (fun q5 w6 st h => ?_)
  refine St.new (St.nil _) (fun q7 w8 hk hlt he st => ?_)
  replace h := h q7.block w8 hk hlt he
  refine rd_l_i64_i64_i64.mono (fun a11 n12 c13 i14 i15 i16 h => ?_) h
  refine CallF.mono h (fun v17 w18 h => ?_)
  obtain ⟨hK, h⟩ := h
  replace st := st.stay hK
  obtain ⟨b19, h⟩ := h
  refine ⟨b19, ?_⟩
  refine And.imp_right (fun h => ?_) h
  refine br_mono (fun h => ?_) (fun h => ?_) h
  · exact h
  · refine rd_l_i64_i64_i64.mono (fun a20 n21 c22 i23 i24 i25 h => ?_) h
    refine CallF.mono h (fun v26 w27 h => ?_)
    obtain ⟨hK, h⟩ := h
    replace st := st.stay hK
    obtain ⟨b28, h⟩ := h
    refine ⟨b28, ?_⟩
    refine And.imp_right (fun h => ?_) h
    refine br_mono (fun h => ?_) (fun h => ?_) h
    · exact h
    · refine rd_l_i64_i64_i64_i64.bx 0 0 st rfl rfl rfl rfl rfl rfl rfl ?_
      refine CallF.mono h (fun v36 w37 h => ?_)
      obtain ⟨hK, h⟩ := h
      replace st := st.stay hK
      obtain ⟨b38, h⟩ := h
      refine ⟨b38, ?_⟩
      refine And.imp_right (fun h => ?_) h
      refine br_mono (fun h => ?_) (fun h => ?_) h
      · exact h
      · refine rd_i64.mono (fun i39 h => ?_) h
        refine rd_i64.bx 0 2 st rfl rfl rfl ?_
        refine br_mono (fun h => ?_) (fun h => ?_) h
        · exact h
        · refine rd_i64.mono (fun i41 h => ?_) h
          refine rd_i64.bx 0 3 st rfl rfl rfl ?_
          refine br_mono (fun h => ?_) (fun h => ?_) h
          · exact h
          · replace st := st.drew
            have st43 := st
            refine rd_l_i64_i64_i64.mono (fun a44 n45 c46 i47 i48 i49 h => ?_) h
            refine rd_l_i64_i64_i64_i64.bx 0 0 st43 rfl rfl rfl rfl rfl rfl rfl ?_
            refine CallF.mono h (fun v57 w58 h => ?_)
            obtain ⟨hK, h⟩ := h
            replace st := st.stay hK
            obtain ⟨a59, n60, c61, i62, i63, i64, i65, h⟩ := h
            refine ⟨a59, n60, c61, i62, i63, i64, i65, ?_⟩
            refine And.imp_right (fun h => ?_) h
            refine And.imp_right (fun h => ?_) h
            refine CallF.mono h (fun v66 w67 h => ?_)
            obtain ⟨hK, h⟩ := h
            replace st := st.stay hK
            obtain ⟨b68, h⟩ := h
            refine ⟨b68, ?_⟩
            refine And.imp_right (fun h => ?_) h
            refine And.imp_right (fun h => ?_) h
            refine br_mono (fun h => ?_) (fun h => ?_) h
            · exact h
            · refine rd_l_i64_i64_i64.mono (fun a69 n70 c71 i72 i73 i74 h => ?_) h
              refine rd_l_i64_i64_i64_i64.bx 0 0 st43 rfl rfl rfl rfl rfl rfl rfl ?_
              refine CallF.mono h (fun v82 w83 h => ?_)
              obtain ⟨hK, h⟩ := h
              replace st := st.stay hK
              obtain ⟨a84, n85, c86, i87, i88, i89, i90, h⟩ := h
              refine ⟨a84, n85, c86, i87, i88, i89, i90, ?_⟩
              refine And.imp_right (fun h => ?_) h
              refine And.imp_right (fun h => ?_) h
              refine CallF.mono h (fun v91 w92 h => ?_)
              obtain ⟨hK, h⟩ := h
              replace st := st.stay hK
              obtain ⟨b93, h⟩ := h
              refine ⟨b93, ?_⟩
              refine And.imp_right (fun h => ?_) h
              refine br_mono (fun h => ?_) (fun h => ?_) h
              · exact h
              · refine rd_l_i64_i64_i64_i64.bx 0 0 st rfl rfl rfl rfl rfl rfl rfl ?_
                refine CallF.mono h (fun v101 w102 h => ?_)
                obtain ⟨hK, h⟩ := h
                replace st := st.stay hK
                exact h

/-! ### straightedge/ger.row: function 65 -/
def ger_row.x (A0_0p : Option Addr) (A0_0n A0_0c : Nat) (A0_1 : Int) (A0_2 : Int) (A0_3 : Int) (w : World) (K : Value → World → Prop) : Prop := newB [(.slice A0_0p A0_0n A0_0c), (.int .i64 A0_1), (.int .i64 A0_2), (.int .i64 A0_3)] 66 w fun q1 w2 => newB [(.slice none 0 0), (.int .i64 0), (.int .i64 0), (.int .i64 0), (.int .i64 0)] 24 w2 fun q3 w4 => rd_l w4 q1 fun a5 n6 c7 => rd_i64 w4 (q1.add 1) fun i8 => rd_i64 w4 (q1.add 2) fun i9 => rd_i64 w4 (q1.add 3) fun i10 => stPT q3 0 [(.slice a5 n6 c7), (.int .i64 i8), (.int .i64 1), (.int .i64 i9), (.int .i64 i10)] w4 fun w11 => rd_l_i64_i64_i64_i64 w11 q3 fun a12 n13 c14 i15 i16 i17 i18 => K (.agg ⟨[(.slice a12 n13 c14), (.int .i64 i15), (.int .i64 i16), (.int .i64 i17), (.int .i64 i18)]⟩) w11
theorem ger_row.ok {A0_0p : Option Addr} {A0_0n A0_0c : Nat} {A0_1 : Int} {A0_2 : Int} {A0_3 : Int} {w : World} {K : Value → World → Prop} (h : ger_row.x A0_0p A0_0n A0_0c A0_1 A0_2 A0_3 w K) : ger_row.call [(.agg ⟨[(.slice A0_0p A0_0n A0_0c), (.int .i64 A0_1), (.int .i64 A0_2), (.int .i64 A0_3)]⟩)] w K :=
  callF_of_ex0 (f := Try.f65) Try.func65 rfl mixed (by kernel_rfl) (Eq.mp (by kernel_rfl) h)
/-! the same, the local variables taken out -/
def ger_row.s (A0_0p : Option Addr) (A0_0n A0_0c : Nat) (A0_1 : Int) (A0_2 : Int) (A0_3 : Int) (w : World) (K : Value → World → Prop) : Prop := ∀ (k3 : Nat) (w2 : World), k3 = w.heap.size → k3 < w2.heap.size → Ext w w2 → ∀ (k7 : Nat) (w6 : World), k7 = w2.heap.size → k7 < w6.heap.size → Ext w2 w6 → ∀ w15 : World, Exc k7 w6 w15 → K (.agg ⟨[(.slice A0_0p A0_0n A0_0c), (.int .i64 A0_1), (.int .i64 (1 : Int)), (.int .i64 A0_2), (.int .i64 A0_3)]⟩) w15
theorem ger_row.os {A0_0p : Option Addr} {A0_0n A0_0c : Nat} {A0_1 : Int} {A0_2 : Int} {A0_3 : Int} {w : World} {K : Value → World → Prop} (h : ger_row.s A0_0p A0_0n A0_0c A0_1 A0_2 A0_3 w K) : ger_row.call [(.agg ⟨[(.slice A0_0p A0_0n A0_0c), (.int .i64 A0_1), (.int .i64 A0_2), (.int .i64 A0_3)]⟩)] w K := by
  refine ger_row.ok ?_
  have st := St.nil w
  unfold ger_row.x
  unfold ger_row.s at h
  refine St.new (St.nil _) (fun q1 w2 hk hlt he st => ?_)
  replace h := h q1.block w2 hk hlt he
  refine St.new st (fun q5 w6 hk hlt he st => ?_)
  replace h := h q5.block w6 hk hlt he
  refine rd_l.bx 1 0 st rfl rfl rfl ?_
  refine rd_i64.bx 1 1 st rfl rfl rfl ?_
  refine rd_i64.bx 1 2 st rfl rfl rfl ?_
  refine rd_i64.bx 1 3 st rfl rfl rfl ?_
  refine St.put 0 0 st rfl rfl rfl rfl (fun w15 he st => ?_)
  replace h := h w15 he
  refine rd_l_i64_i64_i64_i64.bx 0 0 st rfl rfl rfl rfl rfl rfl rfl ?_
  exact h

/-! ### straightedge/ger.each: function 66 -/
def ger_each.b3 (K : Value → World → Prop) (h3 : FuncId → List Value → List Value → Option Addr → Int → Int → World → Prop) (h7 : FuncId → List Value → List Value → Option Addr → Int → Option Addr → Int → Int → Int → Int → World → Prop) (z1g : FuncId) (z1f z1k : List Value) (z2 : Option Addr) (z11 : Int) (z12 : Int) (w : World) : Prop := br (decide (z12 < z11)) (ptrSome z2 fun q1 => rd_l_i64_i64_i64_i64 w q1 fun a2 n3 c4 i5 i6 i7 i8 => view_Col.call [(.agg ⟨[(.slice a2 n3 c4), (.int .i64 i5), (.int .i64 i6), (.int .i64 i7), (.int .i64 i8)]⟩), (.int .i64 z12)] w fun v9 w10 => ∃ (a11 : Option Addr) (n12 c13 : Nat), ∃ i14 : Int, ∃ i15 : Int, ∃ i16 : Int, v9 = (.agg ⟨[(.slice a11 n12 c13), (.int .i64 i14), (.int .i64 i15), (.int .i64 i16)]⟩) ∧ newB [(.slice none 0 0), (.int .i64 0), (.int .i64 0), (.int .i64 0)] 66 w10 fun q17 w18 => stPT q17 0 [(.slice a11 n12 c13), (.int .i64 i14), (.int .i64 i15), (.int .i64 i16)] w18 fun w19 => rd_i64 w19 (q17.add 2) fun i20 => h7 z1g z1f z1k z2 z12 (some q17) z11 z12 i20 0 w19) (K (.tuple ⟨[]⟩) w)
def ger_each.b7 (K : Value → World → Prop) (h3 : FuncId → List Value → List Value → Option Addr → Int → Int → World → Prop) (h7 : FuncId → List Value → List Value → Option Addr → Int → Option Addr → Int → Int → Int → Int → World → Prop) (z1g : FuncId) (z1f z1k : List Value) (z2 : Option Addr) (z4 : Int) (z5 : Option Addr) (z11 : Int) (z12 : Int) (z19 : Int) (z20 : Int) (w : World) : Prop := br (decide (z20 < z19)) (ptrSome z5 fun q1 => rd_l w q1 fun a2 n3 c4 => ptrSome z5 fun q5 => rd_i64 w (q5.add 1) fun i6 => ptrSome a2 fun q7 => (0 : Int) ≤ (IntKind.i64.wrap (i6 + z20)) ∧ (IntKind.i64.wrap (i6 + z20)) < ((n3 : Nat) : Int) ∧ CallF prog z1g (z1f ++ [(.int .i64 z20), (.int .i64 z4), (.pointer (some (q7.add (Int.toNat (IntKind.i64.wrap (i6 + z20))))))] ++ z1k) w fun v8 w9 => v8 = (.tuple ⟨[]⟩) ∧ h7 z1g z1f z1k z2 z4 z5 z11 z12 z19 (IntKind.i64.wrap (z20 + 1)) w9) (h3 z1g z1f z1k z2 z11 (IntKind.i64.wrap (z12 + 1)) w)
def ger_each.H (K : Value → World → Prop) : Nat → (FuncId → List Value → List Value → Option Addr → Int → Int → World → Prop) × (FuncId → List Value → List Value → Option Addr → Int → Option Addr → Int → Int → Int → Int → World → Prop)
  | 0 => (fun _ _ _ _ _ _ _ => False, fun _ _ _ _ _ _ _ _ _ _ _ => False)
  | fu + 1 => (ger_each.b3 K (ger_each.H K fu).1 (ger_each.H K fu).2, ger_each.b7 K (ger_each.H K fu).1 (ger_each.H K fu).2)
def ger_each.x (fu : Nat) (A0_0p : Option Addr) (A0_0n A0_0c : Nat) (A0_1 : Int) (A0_2 : Int) (A0_3 : Int) (A0_4 : Int) (A1g : FuncId) (A1f A1k : List Value) (w : World) (K : Value → World → Prop) : Prop := newB [(.slice A0_0p A0_0n A0_0c), (.int .i64 A0_1), (.int .i64 A0_2), (.int .i64 A0_3), (.int .i64 A0_4)] 24 w fun q1 w2 => rd_i64 w2 (q1.add 2) fun i3 => br (i3 == 0) (K (.tuple ⟨[]⟩) w2) (rd_i64 w2 (q1.add 3) fun i4 => (ger_each.H K fu).1 A1g A1f A1k (some q1) i4 0 w2)
def ger_each.hd (K : Value → World → Prop) (n id : Nat) (t : List Value) (w : World) : Prop :=
  match id with
  | 3 => asV (t.getD 1 undef) fun z1g z1f z1k => asP (t.getD 2 undef) fun z2 => asI .i64 (t.getD 11 undef) fun z11 => asI .i64 (t.getD 12 undef) fun z12 => (ger_each.H K n).1 z1g z1f z1k z2 z11 z12 w
  | 7 => asV (t.getD 1 undef) fun z1g z1f z1k => asP (t.getD 2 undef) fun z2 => asI .i64 (t.getD 4 undef) fun z4 => asP (t.getD 5 undef) fun z5 => asI .i64 (t.getD 11 undef) fun z11 => asI .i64 (t.getD 12 undef) fun z12 => asI .i64 (t.getD 19 undef) fun z19 => asI .i64 (t.getD 20 undef) fun z20 => (ger_each.H K n).2 z1g z1f z1k z2 z4 z5 z11 z12 z19 z20 w
  | _ => False
theorem ger_each.t3 (K : Value → World → Prop) (n : Nat) (z1g : FuncId) (z1f z1k : List Value) (z2 : Option Addr) (z11 : Int) (z12 : Int) (u : Nat → Value) (w : World) (h : (ger_each.H K (n + 1)).1 z1g z1f z1k z2 z11 z12 w) :
    exT prog [3, 7] (ger_each.hd K n) Try.f66 3 36 [(1, (.func (.func z1g) ⟨z1f⟩ ⟨z1k⟩)), (2, (.pointer z2)), (11, (.int .i64 z11)), (12, (.int .i64 z12))] u w K := Eq.mp (by kernel_rfl) h
theorem ger_each.t7 (K : Value → World → Prop) (n : Nat) (z1g : FuncId) (z1f z1k : List Value) (z2 : Option Addr) (z4 : Int) (z5 : Option Addr) (z11 : Int) (z12 : Int) (z19 : Int) (z20 : Int) (u : Nat → Value) (w : World) (h : (ger_each.H K (n + 1)).2 z1g z1f z1k z2 z4 z5 z11 z12 z19 z20 w) :
    exT prog [3, 7] (ger_each.hd K n) Try.f66 7 36 [(1, (.func (.func z1g) ⟨z1f⟩ ⟨z1k⟩)), (2, (.pointer z2)), (4, (.int .i64 z4)), (5, (.pointer z5)), (11, (.int .i64 z11)), (12, (.int .i64 z12)), (19, (.int .i64 z19)), (20, (.int .i64 z20))] u w K := Eq.mp (by kernel_rfl) h
theorem ger_each.ok (fu : Nat) {A0_0p : Option Addr} {A0_0n A0_0c : Nat} {A0_1 : Int} {A0_2 : Int} {A0_3 : Int} {A0_4 : Int} {A1g : FuncId} {A1f A1k : List Value} {w : World} {K : Value → World → Prop} (h : ger_each.x fu A0_0p A0_0n A0_0c A0_1 A0_2 A0_3 A0_4 A1g A1f A1k w K) : ger_each.call [(.agg ⟨[(.slice A0_0p A0_0n A0_0c), (.int .i64 A0_1), (.int .i64 A0_2), (.int .i64 A0_3), (.int .i64 A0_4)]⟩), (.func (.func A1g) ⟨A1f⟩ ⟨A1k⟩)] w K := by
  refine callF_of_ex (cuts := [3, 7]) (H := ger_each.hd K) (N := 36) Try.func66 rfl mixed (by kernel_rfl) ?_ ?_ ?_ rfl (n := fu) (Eq.mp (by kernel_rfl) h)
  · intro id hid; simp only [List.mem_cons, List.not_mem_nil, or_false] at hid; rcases hid with rfl | rfl
    · exact (by kernel_rfl : (stacks (bodyOf Try.f66) []).filter (headIs 3) = [at_ (bodyOf Try.f66) 3])
    · exact (by kernel_rfl : (stacks (bodyOf Try.f66) []).filter (headIs 7) = [at_ (bodyOf Try.f66) 7])
  · intro id t w h
    unfold ger_each.hd at h
    split at h
    · obtain ⟨z1g, z1f, z1k, _, h⟩ := asV_elim h
      obtain ⟨z2, _, h⟩ := asP_elim h
      obtain ⟨z11, _, h⟩ := asI_elim h
      obtain ⟨z12, _, h⟩ := asI_elim h
      exact h
    · obtain ⟨z1g, z1f, z1k, _, h⟩ := asV_elim h
      obtain ⟨z2, _, h⟩ := asP_elim h
      obtain ⟨z4, _, h⟩ := asI_elim h
      obtain ⟨z5, _, h⟩ := asP_elim h
      obtain ⟨z11, _, h⟩ := asI_elim h
      obtain ⟨z12, _, h⟩ := asI_elim h
      obtain ⟨z19, _, h⟩ := asI_elim h
      obtain ⟨z20, _, h⟩ := asI_elim h
      exact h
    · exact h
  · intro n id hid t w hl h; simp only [List.mem_cons, List.not_mem_nil, or_false] at hid; rcases hid with rfl | rfl
    · replace h : asV (t.getD 1 undef) fun z1g z1f z1k => asP (t.getD 2 undef) fun z2 => asI .i64 (t.getD 11 undef) fun z11 => asI .i64 (t.getD 12 undef) fun z12 => (ger_each.H K (n + 1)).1 z1g z1f z1k z2 z11 z12 w := h
      obtain ⟨z1g, z1f, z1k, e1, h⟩ := asV_elim h
      obtain ⟨z2, e2, h⟩ := asP_elim h
      obtain ⟨z11, e11, h⟩ := asI_elim h
      obtain ⟨z12, e12, h⟩ := asI_elim h
      rw [mk_of hl [(1, (.func (.func z1g) ⟨z1f⟩ ⟨z1k⟩)), (2, (.pointer z2)), (11, (.int .i64 z11)), (12, (.int .i64 z12))] (by simp only [List.forall_mem_cons, List.not_mem_nil, false_implies, implies_true, and_true]; exact ⟨e1, e2, e11, e12⟩)]
      exact ger_each.t3 K n z1g z1f z1k z2 z11 z12 _ w h
    · replace h : asV (t.getD 1 undef) fun z1g z1f z1k => asP (t.getD 2 undef) fun z2 => asI .i64 (t.getD 4 undef) fun z4 => asP (t.getD 5 undef) fun z5 => asI .i64 (t.getD 11 undef) fun z11 => asI .i64 (t.getD 12 undef) fun z12 => asI .i64 (t.getD 19 undef) fun z19 => asI .i64 (t.getD 20 undef) fun z20 => (ger_each.H K (n + 1)).2 z1g z1f z1k z2 z4 z5 z11 z12 z19 z20 w := h
      obtain ⟨z1g, z1f, z1k, e1, h⟩ := asV_elim h
      obtain ⟨z2, e2, h⟩ := asP_elim h
      obtain ⟨z4, e4, h⟩ := asI_elim h
      obtain ⟨z5, e5, h⟩ := asP_elim h
      obtain ⟨z11, e11, h⟩ := asI_elim h
      obtain ⟨z12, e12, h⟩ := asI_elim h
      obtain ⟨z19, e19, h⟩ := asI_elim h
      obtain ⟨z20, e20, h⟩ := asI_elim h
      rw [mk_of hl [(1, (.func (.func z1g) ⟨z1f⟩ ⟨z1k⟩)), (2, (.pointer z2)), (4, (.int .i64 z4)), (5, (.pointer z5)), (11, (.int .i64 z11)), (12, (.int .i64 z12)), (19, (.int .i64 z19)), (20, (.int .i64 z20))] (by simp only [List.forall_mem_cons, List.not_mem_nil, false_implies, implies_true, and_true]; exact ⟨e1, e2, e4, e5, e11, e12, e19, e20⟩)]
      exact ger_each.t7 K n z1g z1f z1k z2 z4 z5 z11 z12 z19 z20 _ w h
/-! the same, the local variables taken out -/
def ger_each.e3 (K : Value → World → Prop) (h3 : FuncId → List Value → List Value → Nat → Option Addr → Nat → Nat → Int → Int → Int → Int → Int → Int → World → Prop) (h7 : FuncId → List Value → List Value → Nat → Option Addr → Nat → Nat → Int → Int → Int → Int → Int → Nat → Option Addr → Nat → Nat → Int → Int → Int → Int → Int → Int → Int → World → Prop) (z1g : FuncId) (z1f z1k : List Value) (k2 : Nat) (y2_0p : Option Addr) (y2_0n y2_0c : Nat) (y2_1 : Int) (y2_2 : Int) (y2_3 : Int) (y2_4 : Int) (z11 : Int) (z12 : Int) (w : World) : Prop := br (decide (z12 < z11)) (view_Col.call [(.agg ⟨[(.slice y2_0p y2_0n y2_0c), (.int .i64 y2_1), (.int .i64 y2_2), (.int .i64 y2_3), (.int .i64 y2_4)]⟩), (.int .i64 z12)] w fun v9 w10 => Stay [k2] w w10 ∧ ∃ (a11 : Option Addr) (n12 c13 : Nat), ∃ i14 : Int, ∃ i15 : Int, ∃ i16 : Int, v9 = (.agg ⟨[(.slice a11 n12 c13), (.int .i64 i14), (.int .i64 i15), (.int .i64 i16)]⟩) ∧ ∀ (k19 : Nat) (w18 : World), k19 = w10.heap.size → k19 < w18.heap.size → Ext w10 w18 → ∀ w21 : World, Exc k19 w18 w21 → h7 z1g z1f z1k k2 y2_0p y2_0n y2_0c y2_1 y2_2 y2_3 y2_4 z12 k19 a11 n12 c13 i14 i15 i16 z11 z12 i15 0 w21) (K (.tuple ⟨[]⟩) w)
def ger_each.e7 (K : Value → World → Prop) (h3 : FuncId → List Value → List Value → Nat → Option Addr → Nat → Nat → Int → Int → Int → Int → Int → Int → World → Prop) (h7 : FuncId → List Value → List Value → Nat → Option Addr → Nat → Nat → Int → Int → Int → Int → Int → Nat → Option Addr → Nat → Nat → Int → Int → Int → Int → Int → Int → Int → World → Prop) (z1g : FuncId) (z1f z1k : List Value) (k2 : Nat) (y2_0p : Option Addr) (y2_0n y2_0c : Nat) (y2_1 : Int) (y2_2 : Int) (y2_3 : Int) (y2_4 : Int) (z4 : Int) (k5 : Nat) (y5_0p : Option Addr) (y5_0n y5_0c : Nat) (y5_1 : Int) (y5_2 : Int) (y5_3 : Int) (z11 : Int) (z12 : Int) (z19 : Int) (z20 : Int) (w : World) : Prop := br (decide (z20 < z19)) (ptrSome y5_0p fun q7 => (0 : Int) ≤ (IntKind.i64.wrap (y5_1 + z20)) ∧ (IntKind.i64.wrap (y5_1 + z20)) < ((y5_0n : Nat) : Int) ∧ CallF prog z1g (z1f ++ [(.int .i64 z20), (.int .i64 z4), (.pointer (some (q7.add (Int.toNat (IntKind.i64.wrap (y5_1 + z20))))))] ++ z1k) w fun v8 w9 => Stay [k2, k5] w w9 ∧ v8 = (.tuple ⟨[]⟩) ∧ h7 z1g z1f z1k k2 y2_0p y2_0n y2_0c y2_1 y2_2 y2_3 y2_4 z4 k5 y5_0p y5_0n y5_0c y5_1 y5_2 y5_3 z11 z12 z19 (IntKind.i64.wrap (z20 + 1)) w9) (h3 z1g z1f z1k k2 y2_0p y2_0n y2_0c y2_1 y2_2 y2_3 y2_4 z11 (IntKind.i64.wrap (z12 + 1)) w)
def ger_each.I (K : Value → World → Prop) : Nat → (FuncId → List Value → List Value → Nat → Option Addr → Nat → Nat → Int → Int → Int → Int → Int → Int → World → Prop) × (FuncId → List Value → List Value → Nat → Option Addr → Nat → Nat → Int → Int → Int → Int → Int → Nat → Option Addr → Nat → Nat → Int → Int → Int → Int → Int → Int → Int → World → Prop)
  | 0 => (fun _ _ _ _ _ _ _ _ _ _ _ _ _ _ => False, fun _ _ _ _ _ _ _ _ _ _ _ _ _ _ _ _ _ _ _ _ _ _ _ _ => False)
  | fu + 1 => (ger_each.e3 K (ger_each.I K fu).1 (ger_each.I K fu).2, ger_each.e7 K (ger_each.I K fu).1 (ger_each.I K fu).2)
def ger_each.s (fu : Nat) (A0_0p : Option Addr) (A0_0n A0_0c : Nat) (A0_1 : Int) (A0_2 : Int) (A0_3 : Int) (A0_4 : Int) (A1g : FuncId) (A1f A1k : List Value) (w : World) (K : Value → World → Prop) : Prop := ∀ (k3 : Nat) (w2 : World), k3 = w.heap.size → k3 < w2.heap.size → Ext w w2 → br (A0_2 == 0) (K (.tuple ⟨[]⟩) w2) ((ger_each.I K fu).1 A1g A1f A1k k3 A0_0p A0_0n A0_0c A0_1 A0_2 A0_3 A0_4 A0_3 0 w2)
theorem ger_each.b3_s {K : Value → World → Prop} {x3 : FuncId → List Value → List Value → Option Addr → Int → Int → World → Prop} {x7 : FuncId → List Value → List Value → Option Addr → Int → Option Addr → Int → Int → Int → Int → World → Prop} {s3 : FuncId → List Value → List Value → Nat → Option Addr → Nat → Nat → Int → Int → Int → Int → Int → Int → World → Prop} {s7 : FuncId → List Value → List Value → Nat → Option Addr → Nat → Nat → Int → Int → Int → Int → Int → Nat → Option Addr → Nat → Nat → Int → Int → Int → Int → Int → Int → Int → World → Prop} (i3 : ∀ {z1g : FuncId} {z1f z1k : List Value} {q2 : Addr} {y2_0p : Option Addr} {y2_0n y2_0c : Nat} {y2_1 : Int} {y2_2 : Int} {y2_3 : Int} {y2_4 : Int} {z11 : Int} {z12 : Int} {w : World}, s3 z1g z1f z1k q2.block y2_0p y2_0n y2_0c y2_1 y2_2 y2_3 y2_4 z11 z12 w → St w [(q2, [(.slice y2_0p y2_0n y2_0c), (.int .i64 y2_1), (.int .i64 y2_2), (.int .i64 y2_3), (.int .i64 y2_4)])] → x3 z1g z1f z1k (some q2) z11 z12 w) (i7 : ∀ {z1g : FuncId} {z1f z1k : List Value} {q2 : Addr} {y2_0p : Option Addr} {y2_0n y2_0c : Nat} {y2_1 : Int} {y2_2 : Int} {y2_3 : Int} {y2_4 : Int} {z4 : Int} {q5 : Addr} {y5_0p : Option Addr} {y5_0n y5_0c : Nat} {y5_1 : Int} {y5_2 : Int} {y5_3 : Int} {z11 : Int} {z12 : Int} {z19 : Int} {z20 : Int} {w : World}, s7 z1g z1f z1k q2.block y2_0p y2_0n y2_0c y2_1 y2_2 y2_3 y2_4 z4 q5.block y5_0p y5_0n y5_0c y5_1 y5_2 y5_3 z11 z12 z19 z20 w → St w [(q2, [(.slice y2_0p y2_0n y2_0c), (.int .i64 y2_1), (.int .i64 y2_2), (.int .i64 y2_3), (.int .i64 y2_4)]), (q5, [(.slice y5_0p y5_0n y5_0c), (.int .i64 y5_1), (.int .i64 y5_2), (.int .i64 y5_3)])] → x7 z1g z1f z1k (some q2) z4 (some q5) z11 z12 z19 z20 w) {z1g : FuncId} {z1f z1k : List Value} {q2 : Addr} {y2_0p : Option Addr} {y2_0n y2_0c : Nat} {y2_1 : Int} {y2_2 : Int} {y2_3 : Int} {y2_4 : Int} {z11 : Int} {z12 : Int} {w : World} (h : ger_each.e3 K s3 s7 z1g z1f z1k q2.block y2_0p y2_0n y2_0c y2_1 y2_2 y2_3 y2_4 z11 z12 w) (st : St w [(q2, [(.slice y2_0p y2_0n y2_0c), (.int .i64 y2_1), (.int .i64 y2_2), (.int .i64 y2_3), (.int .i64 y2_4)])]) : ger_each.b3 K x3 x7 z1g z1f z1k (some q2) z11 z12 w := by
  unfold ger_each.b3
  unfold ger_each.e3 at h
  refine br_mono (fun h => ?_) (fun h => ?_) h
  · refine ptrSome_intro rfl ?_
    refine rd_l_i64_i64_i64_i64.bx 0 0 st rfl rfl rfl rfl rfl rfl rfl ?_
    refine CallF.mono h (fun v9 w10 h => ?_)
    obtain ⟨hK, h⟩ := h
    replace st := st.stay hK
    obtain ⟨a11, n12, c13, i14, i15, i16, h⟩ := h
    refine ⟨a11, n12, c13, i14, i15, i16, ?_⟩
    refine And.imp_right (fun h => ?_) h
    refine St.new st (fun q17 w18 hk hlt he st => ?_)
    replace h := h q17.block w18 hk hlt he
    refine St.put 0 0 st rfl rfl rfl rfl (fun w21 he st => ?_)
    replace h := h w21 he
    refine rd_i64.bx 0 2 st rfl rfl rfl ?_
    exact i7 h (st.pick [1, 0] (by decide))
  · exact h
theorem ger_each.b7_s {K : Value → World → Prop} {x3 : FuncId → List Value → List Value → Option Addr → Int → Int → World → Prop} {x7 : FuncId → List Value → List Value → Option Addr → Int → Option Addr → Int → Int → Int → Int → World → Prop} {s3 : FuncId → List Value → List Value → Nat → Option Addr → Nat → Nat → Int → Int → Int → Int → Int → Int → World → Prop} {s7 : FuncId → List Value → List Value → Nat → Option Addr → Nat → Nat → Int → Int → Int → Int → Int → Nat → Option Addr → Nat → Nat → Int → Int → Int → Int → Int → Int → Int → World → Prop} (i3 : ∀ {z1g : FuncId} {z1f z1k : List Value} {q2 : Addr} {y2_0p : Option Addr} {y2_0n y2_0c : Nat} {y2_1 : Int} {y2_2 : Int} {y2_3 : Int} {y2_4 : Int} {z11 : Int} {z12 : Int} {w : World}, s3 z1g z1f z1k q2.block y2_0p y2_0n y2_0c y2_1 y2_2 y2_3 y2_4 z11 z12 w → St w [(q2, [(.slice y2_0p y2_0n y2_0c), (.int .i64 y2_1), (.int .i64 y2_2), (.int .i64 y2_3), (.int .i64 y2_4)])] → x3 z1g z1f z1k (some q2) z11 z12 w) (i7 : ∀ {z1g : FuncId} {z1f z1k : List Value} {q2 : Addr} {y2_0p : Option Addr} {y2_0n y2_0c : Nat} {y2_1 : Int} {y2_2 : Int} {y2_3 : Int} {y2_4 : Int} {z4 : Int} {q5 : Addr} {y5_0p : Option Addr} {y5_0n y5_0c : Nat} {y5_1 : Int} {y5_2 : Int} {y5_3 : Int} {z11 : Int} {z12 : Int} {z19 : Int} {z20 : Int} {w : World}, s7 z1g z1f z1k q2.block y2_0p y2_0n y2_0c y2_1 y2_2 y2_3 y2_4 z4 q5.block y5_0p y5_0n y5_0c y5_1 y5_2 y5_3 z11 z12 z19 z20 w → St w [(q2, [(.slice y2_0p y2_0n y2_0c), (.int .i64 y2_1), (.int .i64 y2_2), (.int .i64 y2_3), (.int .i64 y2_4)]), (q5, [(.slice y5_0p y5_0n y5_0c), (.int .i64 y5_1), (.int .i64 y5_2), (.int .i64 y5_3)])] → x7 z1g z1f z1k (some q2) z4 (some q5) z11 z12 z19 z20 w) {z1g : FuncId} {z1f z1k : List Value} {q2 : Addr} {y2_0p : Option Addr} {y2_0n y2_0c : Nat} {y2_1 : Int} {y2_2 : Int} {y2_3 : Int} {y2_4 : Int} {z4 : Int} {q5 : Addr} {y5_0p : Option Addr} {y5_0n y5_0c : Nat} {y5_1 : Int} {y5_2 : Int} {y5_3 : Int} {z11 : Int} {z12 : Int} {z19 : Int} {z20 : Int} {w : World} (h : ger_each.e7 K s3 s7 z1g z1f z1k q2.block y2_0p y2_0n y2_0c y2_1 y2_2 y2_3 y2_4 z4 q5.block y5_0p y5_0n y5_0c y5_1 y5_2 y5_3 z11 z12 z19 z20 w) (st : St w [(q2, [(.slice y2_0p y2_0n y2_0c), (.int .i64 y2_1), (.int .i64 y2_2), (.int .i64 y2_3), (.int .i64 y2_4)]), (q5, [(.slice y5_0p y5_0n y5_0c), (.int .i64 y5_1), (.int .i64 y5_2), (.int .i64 y5_3)])]) : ger_each.b7 K x3 x7 z1g z1f z1k (some q2) z4 (some q5) z11 z12 z19 z20 w := by
  unfold ger_each.b7
  unfold ger_each.e7 at h
  refine br_mono (fun h => ?_) (fun h => ?_) h
  · refine ptrSome_intro rfl ?_
    refine rd_l.bx 1 0 st rfl rfl rfl ?_
    refine ptrSome_intro rfl ?_
    refine rd_i64.bx 1 1 st rfl rfl rfl ?_
    refine ptrSome_mono (fun q7 h => ?_) h
    refine And.imp_right (fun h => ?_) h
    refine And.imp_right (fun h => ?_) h
    refine CallF.mono h (fun v8 w9 h => ?_)
    obtain ⟨hK, h⟩ := h
    replace st := st.stay hK
    refine And.imp_right (fun h => ?_) h
    exact i7 h (st.pick [0, 1] (by decide))
  · exact i3 h (st.pick [0] (by decide))
theorem ger_each.H_s {K : Value → World → Prop} (fu : Nat) : (∀ {z1g : FuncId} {z1f z1k : List Value} {q2 : Addr} {y2_0p : Option Addr} {y2_0n y2_0c : Nat} {y2_1 : Int} {y2_2 : Int} {y2_3 : Int} {y2_4 : Int} {z11 : Int} {z12 : Int} {w : World}, (ger_each.I K fu).1 z1g z1f z1k q2.block y2_0p y2_0n y2_0c y2_1 y2_2 y2_3 y2_4 z11 z12 w → St w [(q2, [(.slice y2_0p y2_0n y2_0c), (.int .i64 y2_1), (.int .i64 y2_2), (.int .i64 y2_3), (.int .i64 y2_4)])] → (ger_each.H K fu).1 z1g z1f z1k (some q2) z11 z12 w) ∧ (∀ {z1g : FuncId} {z1f z1k : List Value} {q2 : Addr} {y2_0p : Option Addr} {y2_0n y2_0c : Nat} {y2_1 : Int} {y2_2 : Int} {y2_3 : Int} {y2_4 : Int} {z4 : Int} {q5 : Addr} {y5_0p : Option Addr} {y5_0n y5_0c : Nat} {y5_1 : Int} {y5_2 : Int} {y5_3 : Int} {z11 : Int} {z12 : Int} {z19 : Int} {z20 : Int} {w : World}, (ger_each.I K fu).2 z1g z1f z1k q2.block y2_0p y2_0n y2_0c y2_1 y2_2 y2_3 y2_4 z4 q5.block y5_0p y5_0n y5_0c y5_1 y5_2 y5_3 z11 z12 z19 z20 w → St w [(q2, [(.slice y2_0p y2_0n y2_0c), (.int .i64 y2_1), (.int .i64 y2_2), (.int .i64 y2_3), (.int .i64 y2_4)]), (q5, [(.slice y5_0p y5_0n y5_0c), (.int .i64 y5_1), (.int .i64 y5_2), (.int .i64 y5_3)])] → (ger_each.H K fu).2 z1g z1f z1k (some q2) z4 (some q5) z11 z12 z19 z20 w) := by
  induction fu with
  | zero => exact ⟨fun h _ => False.elim h, fun h _ => False.elim h⟩
  | succ fu ih => exact ⟨fun h st => ger_each.b3_s (K := K) (x3 := (ger_each.H K fu).1) (s3 := (ger_each.I K fu).1) (x7 := (ger_each.H K fu).2) (s7 := (ger_each.I K fu).2) ih.1 ih.2 h st, fun h st => ger_each.b7_s (K := K) (x3 := (ger_each.H K fu).1) (s3 := (ger_each.I K fu).1) (x7 := (ger_each.H K fu).2) (s7 := (ger_each.I K fu).2) ih.1 ih.2 h st⟩
theorem ger_each.os (fu : Nat) {A0_0p : Option Addr} {A0_0n A0_0c : Nat} {A0_1 : Int} {A0_2 : Int} {A0_3 : Int} {A0_4 : Int} {A1g : FuncId} {A1f A1k : List Value} {w : World} {K : Value → World → Prop} (h : ger_each.s fu A0_0p A0_0n A0_0c A0_1 A0_2 A0_3 A0_4 A1g A1f A1k w K) : ger_each.call [(.agg ⟨[(.slice A0_0p A0_0n A0_0c), (.int .i64 A0_1), (.int .i64 A0_2), (.int .i64 A0_3), (.int .i64 A0_4)]⟩), (.func (.func A1g) ⟨A1f⟩ ⟨A1k⟩)] w K := by
  refine ger_each.ok fu ?_
  have st := St.nil w
  unfold ger_each.x
  unfold ger_each.s at h
  refine St.new (St.nil _) (fun q1 w2 hk hlt he st => ?_)
  replace h := h q1.block w2 hk hlt he
  refine rd_i64.bx 0 2 st rfl rfl rfl ?_
  refine br_mono (fun h => ?_) (fun h => ?_) h
  · exact h
  · refine rd_i64.bx 0 3 st rfl rfl rfl ?_
    exact (ger_each.H_s fu).1 h (st.pick [0] (by decide))

/-! ### straightedge/ger.Ger$1: function 67 -/
def ger_Ger_1.x (A0 : Int) (A1 : Int) (A2 : Option Addr) (fv0 : Option Addr) (fv1 : Option Addr) (fv2 : Option Addr) (w : World) (K : Value → World → Prop) : Prop := ptrSome fv0 fun q2 => rd_f64 w.drew q2 fun x3 => ptrSome fv1 fun q4 => rd_l w.drew q4 fun a5 n6 c7 => ptrSome fv1 fun q8 => rd_i64 w.drew (q8.add 1) fun i9 => ptrSome fv1 fun q10 => rd_i64 w.drew (q10.add 3) fun i11 => ptrSome a5 fun q12 => (0 : Int) ≤ (IntKind.i64.wrap (i9 + (IntKind.i64.wrap (A1 * i11)))) ∧ (IntKind.i64.wrap (i9 + (IntKind.i64.wrap (A1 * i11)))) < ((n6 : Nat) : Int) ∧ rd_f64 w.drew (q12.add (Int.toNat (IntKind.i64.wrap (i9 + (IntKind.i64.wrap (A1 * i11)))))) fun x13 => fop .mul .f64 x3 x13 w.drew fun x14 w15 => ptrSome A2 fun q17 => rd_f64 w15.drew q17 fun x18 => ptrSome fv2 fun q19 => rd_l w15.drew q19 fun a20 n21 c22 => ptrSome fv2 fun q23 => rd_i64 w15.drew (q23.add 1) fun i24 => ptrSome fv2 fun q25 => rd_i64 w15.drew (q25.add 3) fun i26 => ptrSome a20 fun q27 => (0 : Int) ≤ (IntKind.i64.wrap (i24 + (IntKind.i64.wrap (A0 * i26)))) ∧ (IntKind.i64.wrap (i24 + (IntKind.i64.wrap (A0 * i26)))) < ((n21 : Nat) : Int) ∧ rd_f64 w15.drew (q27.add (Int.toNat (IntKind.i64.wrap (i24 + (IntKind.i64.wrap (A0 * i26)))))) fun x28 => fop .mul .f64 x14 x28 w15.drew fun x29 w30 => Kept w15.drew w30 ∧ fop .add .f64 x18 x29 w30 fun x31 w32 => ptrSome A2 fun q33 => stPT q33 0 [(.float .f64 x31)] w32 fun w34 => K (.tuple ⟨[]⟩) w34
theorem ger_Ger_1.ok {A0 : Int} {A1 : Int} {A2 : Option Addr} {fv0 : Option Addr} {fv1 : Option Addr} {fv2 : Option Addr} {w : World} {K : Value → World → Prop} (h : ger_Ger_1.x A0 A1 A2 fv0 fv1 fv2 w K) : ger_Ger_1.call [(.int .i64 A0), (.int .i64 A1), (.pointer A2), (.pointer fv0), (.pointer fv1), (.pointer fv2)] w K :=
  callF_of_ex0 (f := Try.f67) Try.func67 rfl mixed (by kernel_rfl) (Eq.mp (by kernel_rfl) h)

end Go.Proofs.Ytgdkahbnepafgaa

/-! ### AGmove -/
/- The explicit forms of the functions of one package, and that the calls do what they say. Written by wip/tools/wk2.py. -/
set_option maxHeartbeats 4000000
set_option maxRecDepth 100000
set_option linter.unusedVariables false
namespace Go.Proofs.Ytgdkahbnepafgaa
open Go Go.Wk

/-! ### straightedge/move.Clone: function 58 -/
def move_Clone.x (A0_0p : Option Addr) (A0_0n A0_0c : Nat) (A0_1 : Int) (A0_2 : Int) (A0_3 : Int) (A0_4 : Int) (w : World) (K : Value → World → Prop) : Prop := newB [(.slice A0_0p A0_0n A0_0c), (.int .i64 A0_1), (.int .i64 A0_2), (.int .i64 A0_3), (.int .i64 A0_4)] 24 w fun q1 w2 => newB [(.slice none 0 0), (.int .i64 0), (.int .i64 0), (.int .i64 0), (.int .i64 0)] 24 w2 fun q3 w4 => rd_l_i64_i64_i64_i64 w4 q1 fun a5 n6 c7 i8 i9 i10 i11 => view_Good.call [(.agg ⟨[(.slice a5 n6 c7), (.int .i64 i8), (.int .i64 i9), (.int .i64 i10), (.int .i64 i11)]⟩)] w4 fun v12 w13 => ∃ b14 : Bool, v12 = (.bool b14) ∧ br (!b14) (stPT q3 0 [(.slice none 0 0), (.int .i64 0), (.int .i64 0), (.int .i64 0), (.int .i64 0)] w13 fun w15 => rd_l_i64_i64_i64_i64 w15 q3 fun a16 n17 c18 i19 i20 i21 i22 => K (.tuple ⟨[(.agg ⟨[(.slice a16 n17 c18), (.int .i64 i19), (.int .i64 i20), (.int .i64 i21), (.int .i64 i22)]⟩), (.int .i64 1)]⟩) w15) (rd_i64 w13 (q1.add 2) fun i23 => br (decide (i23 > 64)) (stPT q3 0 [(.slice none 0 0), (.int .i64 0), (.int .i64 0), (.int .i64 0), (.int .i64 0)] w13 fun w24 => rd_l_i64_i64_i64_i64 w24 q3 fun a25 n26 c27 i28 i29 i30 i31 => K (.tuple ⟨[(.agg ⟨[(.slice a25 n26 c27), (.int .i64 i28), (.int .i64 i29), (.int .i64 i30), (.int .i64 i31)]⟩), (.int .i64 3)]⟩) w24) (rd_i64 w13 (q1.add 3) fun i32 => br (decide (i32 > 64)) (stPT q3 0 [(.slice none 0 0), (.int .i64 0), (.int .i64 0), (.int .i64 0), (.int .i64 0)] w13 fun w33 => rd_l_i64_i64_i64_i64 w33 q3 fun a34 n35 c36 i37 i38 i39 i40 => K (.tuple ⟨[(.agg ⟨[(.slice a34 n35 c36), (.int .i64 i37), (.int .i64 i38), (.int .i64 i39), (.int .i64 i40)]⟩), (.int .i64 3)]⟩) w33) (rd_i64 w13 (q1.add 2) fun i41 => rd_i64 w13 (q1.add 3) fun i42 => view_Dense.call [(.int .i64 i41), (.int .i64 i42), (.slice none 0 0)] w13 fun v43 w44 => ∃ (a45 : Option Addr) (n46 c47 : Nat), ∃ i48 : Int, ∃ i49 : Int, ∃ i50 : Int, ∃ i51 : Int, v43 = (.agg ⟨[(.slice a45 n46 c47), (.int .i64 i48), (.int .i64 i49), (.int .i64 i50), (.int .i64 i51)]⟩) ∧ newB [(.slice none 0 0), (.int .i64 0), (.int .i64 0), (.int .i64 0), (.int .i64 0)] 24 w44 fun q52 w53 => stPT q52 0 [(.slice a45 n46 c47), (.int .i64 i48), (.int .i64 i49), (.int .i64 i50), (.int .i64 i51)] w53 fun w54 => rd_l w54.drew q52 fun a56 n57 c58 => rd_l_i64_i64_i64_i64 w54.drew q1 fun a59 n60 c61 i62 i63 i64 i65 => view_Numbers.call [(.agg ⟨[(.slice a59 n60 c61), (.int .i64 i62), (.int .i64 i63), (.int .i64 i64), (.int .i64 i65)]⟩)] w54.drew fun v66 w67 => ∃ (a68 : Option Addr) (n69 c70 : Nat), v66 = (.slice a68 n69 c70) ∧ Kept w54.drew w67 ∧ Raw prog (Builtin.copy_ #[22, 22] 3 ⟨[(.slice a56 n57 c58), (.slice a68 n69 c70)]⟩) w67 fun v71 w72 => ∃ i73 : Int, v71 = .int .i64 i73 ∧ rd_l_i64_i64_i64_i64 w72 q52 fun a74 n75 c76 i77 i78 i79 i80 => stPT q3 0 [(.slice a74 n75 c76), (.int .i64 i77), (.int .i64 i78), (.int .i64 i79), (.int .i64 i80)] w72 fun w81 => rd_l_i64_i64_i64_i64 w81 q3 fun a82 n83 c84 i85 i86 i87 i88 => K (.tuple ⟨[(.agg ⟨[(.slice a82 n83 c84), (.int .i64 i85), (.int .i64 i86), (.int .i64 i87), (.int .i64 i88)]⟩), (.int .i64 0)]⟩) w81)))
theorem move_Clone.ok {A0_0p : Option Addr} {A0_0n A0_0c : Nat} {A0_1 : Int} {A0_2 : Int} {A0_3 : Int} {A0_4 : Int} {w : World} {K : Value → World → Prop} (h : move_Clone.x A0_0p A0_0n A0_0c A0_1 A0_2 A0_3 A0_4 w K) : move_Clone.call [(.agg ⟨[(.slice A0_0p A0_0n A0_0c), (.int .i64 A0_1), (.int .i64 A0_2), (.int .i64 A0_3), (.int .i64 A0_4)]⟩)] w K :=
  callF_of_ex0 (f := Try.f58) Try.func58 rfl mixed (by kernel_rfl) (Eq.mp (by kernel_rfl) h)
/-! the same, the local variables taken out -/
def move_Clone.s (A0_0p : Option Addr) (A0_0n A0_0c : Nat) (A0_1 : Int) (A0_2 : Int) (A0_3 : Int) (A0_4 : Int) (w : World) (K : Value → World → Prop) : Prop := ∀ (k3 : Nat) (w2 : World), k3 = w.heap.size → k3 < w2.heap.size → Ext w w2 → ∀ (k7 : Nat) (w6 : World), k7 = w2.heap.size → k7 < w6.heap.size → Ext w2 w6 → view_Good.call [(.agg ⟨[(.slice A0_0p A0_0n A0_0c), (.int .i64 A0_1), (.int .i64 A0_2), (.int .i64 A0_3), (.int .i64 A0_4)]⟩)] w6 fun v16 w17 => Stay [k7, k3] w6 w17 ∧ ∃ b18 : Bool, v16 = (.bool b18) ∧ br (!b18) (∀ w19 : World, Exc k7 w17 w19 → K (.tuple ⟨[(.agg ⟨[(.slice (none : Option Addr) (0 : Nat) (0 : Nat)), (.int .i64 (0 : Int)), (.int .i64 (0 : Int)), (.int .i64 (0 : Int)), (.int .i64 (0 : Int))]⟩), (.int .i64 1)]⟩) w19) (br (decide (A0_2 > 64)) (∀ w28 : World, Exc k7 w17 w28 → K (.tuple ⟨[(.agg ⟨[(.slice (none : Option Addr) (0 : Nat) (0 : Nat)), (.int .i64 (0 : Int)), (.int .i64 (0 : Int)), (.int .i64 (0 : Int)), (.int .i64 (0 : Int))]⟩), (.int .i64 3)]⟩) w28) (br (decide (A0_3 > 64)) (∀ w37 : World, Exc k7 w17 w37 → K (.tuple ⟨[(.agg ⟨[(.slice (none : Option Addr) (0 : Nat) (0 : Nat)), (.int .i64 (0 : Int)), (.int .i64 (0 : Int)), (.int .i64 (0 : Int)), (.int .i64 (0 : Int))]⟩), (.int .i64 3)]⟩) w37) (view_Dense.call [(.int .i64 A0_2), (.int .i64 A0_3), (.slice none 0 0)] w17 fun v47 w48 => Stay [k7, k3] w17 w48 ∧ ∃ (a49 : Option Addr) (n50 c51 : Nat), ∃ i52 : Int, ∃ i53 : Int, ∃ i54 : Int, ∃ i55 : Int, v47 = (.agg ⟨[(.slice a49 n50 c51), (.int .i64 i52), (.int .i64 i53), (.int .i64 i54), (.int .i64 i55)]⟩) ∧ ∀ (k58 : Nat) (w57 : World), k58 = w48.heap.size → k58 < w57.heap.size → Ext w48 w57 → ∀ w60 : World, Exc k58 w57 w60 → view_Numbers.call [(.agg ⟨[(.slice A0_0p A0_0n A0_0c), (.int .i64 A0_1), (.int .i64 A0_2), (.int .i64 A0_3), (.int .i64 A0_4)]⟩)] w60.drew fun v72 w73 => Stay [k58, k7, k3] w60.drew w73 ∧ ∃ (a74 : Option Addr) (n75 c76 : Nat), v72 = (.slice a74 n75 c76) ∧ Kept w60.drew w73 ∧ Raw prog (Builtin.copy_ #[22, 22] 3 ⟨[(.slice a49 n50 c51), (.slice a74 n75 c76)]⟩) w73 fun v77 w78 => Stay [k58, k7, k3] w73 w78 ∧ ∃ i79 : Int, v77 = .int .i64 i79 ∧ ∀ w87 : World, Exc k7 w78 w87 → K (.tuple ⟨[(.agg ⟨[(.slice a49 n50 c51), (.int .i64 i52), (.int .i64 i53), (.int .i64 i54), (.int .i64 i55)]⟩), (.int .i64 0)]⟩) w87)))
theorem move_Clone.os {A0_0p : Option Addr} {A0_0n A0_0c : Nat} {A0_1 : Int} {A0_2 : Int} {A0_3 : Int} {A0_4 : Int} {w : World} {K : Value → World → Prop} (h : move_Clone.s A0_0p A0_0n A0_0c A0_1 A0_2 A0_3 A0_4 w K) : move_Clone.call [(.agg ⟨[(.slice A0_0p A0_0n A0_0c), (.int .i64 A0_1), (.int .i64 A0_2), (.int .i64 A0_3), (.int .i64 A0_4)]⟩)] w K := by
  refine move_Clone.ok ?_
  have st := St.nil w
  unfold move_Clone.x
  unfold move_Clone.s at h
  refine St.new (St.nil _) (fun q1 w2 hk hlt he st => ?_)
  replace h := h q1.block w2 hk hlt he
  refine St.new st (fun q5 w6 hk hlt he st => ?_)
  replace h := h q5.block w6 hk hlt he
  refine rd_l_i64_i64_i64_i64.bx 1 0 st rfl rfl rfl rfl rfl rfl rfl ?_
  refine CallF.mono h (fun v16 w17 h => ?_)
  obtain ⟨hK, h⟩ := h
  replace st := st.stay hK
  obtain ⟨b18, h⟩ := h
  refine ⟨b18, ?_⟩
  refine And.imp_right (fun h => ?_) h
  refine br_mono (fun h => ?_) (fun h => ?_) h
  · refine St.put 0 0 st rfl rfl rfl rfl (fun w19 he st => ?_)
    replace h := h w19 he
    refine rd_l_i64_i64_i64_i64.bx 0 0 st rfl rfl rfl rfl rfl rfl rfl ?_
    exact h
  · refine rd_i64.bx 1 2 st rfl rfl rfl ?_
    refine br_mono (fun h => ?_) (fun h => ?_) h
    · refine St.put 0 0 st rfl rfl rfl rfl (fun w28 he st => ?_)
      replace h := h w28 he
      refine rd_l_i64_i64_i64_i64.bx 0 0 st rfl rfl rfl rfl rfl rfl rfl ?_
      exact h
    · refine rd_i64.bx 1 3 st rfl rfl rfl ?_
      refine br_mono (fun h => ?_) (fun h => ?_) h
      · refine St.put 0 0 st rfl rfl rfl rfl (fun w37 he st => ?_)
        replace h := h w37 he
        refine rd_l_i64_i64_i64_i64.bx 0 0 st rfl rfl rfl rfl rfl rfl rfl ?_
        exact h
      · refine rd_i64.bx 1 2 st rfl rfl rfl ?_
        refine rd_i64.bx 1 3 st rfl rfl rfl ?_
        refine CallF.mono h (fun v47 w48 h => ?_)
        obtain ⟨hK, h⟩ := h
        replace st := st.stay hK
        obtain ⟨a49, n50, c51, i52, i53, i54, i55, h⟩ := h
        refine ⟨a49, n50, c51, i52, i53, i54, i55, ?_⟩
        refine And.imp_right (fun h => ?_) h
        refine St.new st (fun q56 w57 hk hlt he st => ?_)
        replace h := h q56.block w57 hk hlt he
        refine St.put 0 0 st rfl rfl rfl rfl (fun w60 he st => ?_)
        replace h := h w60 he
        replace st := st.drew
        have st61 := st
        refine rd_l.bx 0 0 st61 rfl rfl rfl ?_
        refine rd_l_i64_i64_i64_i64.bx 2 0 st61 rfl rfl rfl rfl rfl rfl rfl ?_
        refine CallF.mono h (fun v72 w73 h => ?_)
        obtain ⟨hK, h⟩ := h
        replace st := st.stay hK
        obtain ⟨a74, n75, c76, h⟩ := h
        refine ⟨a74, n75, c76, ?_⟩
        refine And.imp_right (fun h => ?_) h
        refine And.imp_right (fun h => ?_) h
        refine Raw.mono h (fun v77 w78 h => ?_)
        obtain ⟨hK, h⟩ := h
        replace st := st.stay hK
        obtain ⟨i79, h⟩ := h
        refine ⟨i79, ?_⟩
        refine And.imp_right (fun h => ?_) h
        refine rd_l_i64_i64_i64_i64.bx 0 0 st rfl rfl rfl rfl rfl rfl rfl ?_
        refine St.put 1 0 st rfl rfl rfl rfl (fun w87 he st => ?_)
        replace h := h w87 he
        refine rd_l_i64_i64_i64_i64.bx 1 0 st rfl rfl rfl rfl rfl rfl rfl ?_
        exact h

/-! ### straightedge/move.Rows: function 61 -/
def move_Rows.x (A0_0p : Option Addr) (A0_0n A0_0c : Nat) (A0_1 : Int) (A0_2 : Int) (A0_3 : Int) (A0_4 : Int) (A1 : Int) (A2 : Int) (w : World) (K : Value → World → Prop) : Prop := newB [(.slice A0_0p A0_0n A0_0c), (.int .i64 A0_1), (.int .i64 A0_2), (.int .i64 A0_3), (.int .i64 A0_4)] 24 w fun q1 w2 => rd_l_i64_i64_i64_i64 w2 q1 fun a3 n4 c5 i6 i7 i8 i9 => view_Good.call [(.agg ⟨[(.slice a3 n4 c5), (.int .i64 i6), (.int .i64 i7), (.int .i64 i8), (.int .i64 i9)]⟩)] w2 fun v10 w11 => ∃ b12 : Bool, v10 = (.bool b12) ∧ br (!b12) (K (.int .i64 1) w11) (br (decide (A1 < 0)) (K (.int .i64 1) w11) (br (decide (A2 < 0)) (K (.int .i64 1) w11) (rd_i64 w11 (q1.add 2) fun i13 => br (decide (A1 ≥ i13)) (K (.int .i64 1) w11) (rd_i64 w11 (q1.add 2) fun i14 => br (decide (A2 ≥ i14)) (K (.int .i64 1) w11) (br (A1 != A2) (rd_l_i64_i64_i64_i64 w11.drew q1 fun a16 n17 c18 i19 i20 i21 i22 => rd_l_i64_i64_i64_i64 w11.drew q1 fun a23 n24 c25 i26 i27 i28 i29 => view_Row.call [(.agg ⟨[(.slice a16 n17 c18), (.int .i64 i19), (.int .i64 i20), (.int .i64 i21), (.int .i64 i22)]⟩), (.int .i64 A1)] w11.drew fun v30 w31 => ∃ (a32 : Option Addr) (n33 c34 : Nat), ∃ i35 : Int, ∃ i36 : Int, ∃ i37 : Int, v30 = (.agg ⟨[(.slice a32 n33 c34), (.int .i64 i35), (.int .i64 i36), (.int .i64 i37)]⟩) ∧ Kept w11.drew w31 ∧ view_Row.call [(.agg ⟨[(.slice a23 n24 c25), (.int .i64 i26), (.int .i64 i27), (.int .i64 i28), (.int .i64 i29)]⟩), (.int .i64 A2)] w31 fun v38 w39 => ∃ (a40 : Option Addr) (n41 c42 : Nat), ∃ i43 : Int, ∃ i44 : Int, ∃ i45 : Int, v38 = (.agg ⟨[(.slice a40 n41 c42), (.int .i64 i43), (.int .i64 i44), (.int .i64 i45)]⟩) ∧ move_swap.call [(.agg ⟨[(.slice a32 n33 c34), (.int .i64 i35), (.int .i64 i36), (.int .i64 i37)]⟩), (.agg ⟨[(.slice a40 n41 c42), (.int .i64 i43), (.int .i64 i44), (.int .i64 i45)]⟩)] w39 fun v46 w47 => v46 = (.tuple ⟨[]⟩) ∧ K (.int .i64 0) w47) (K (.int .i64 0) w11))))))
theorem move_Rows.ok {A0_0p : Option Addr} {A0_0n A0_0c : Nat} {A0_1 : Int} {A0_2 : Int} {A0_3 : Int} {A0_4 : Int} {A1 : Int} {A2 : Int} {w : World} {K : Value → World → Prop} (h : move_Rows.x A0_0p A0_0n A0_0c A0_1 A0_2 A0_3 A0_4 A1 A2 w K) : move_Rows.call [(.agg ⟨[(.slice A0_0p A0_0n A0_0c), (.int .i64 A0_1), (.int .i64 A0_2), (.int .i64 A0_3), (.int .i64 A0_4)]⟩), (.int .i64 A1), (.int .i64 A2)] w K :=
  callF_of_ex0 (f := Try.f61) Try.func61 rfl mixed (by kernel_rfl) (Eq.mp (by kernel_rfl) h)
/-! the same, the local variables taken out -/
def move_Rows.s (A0_0p : Option Addr) (A0_0n A0_0c : Nat) (A0_1 : Int) (A0_2 : Int) (A0_3 : Int) (A0_4 : Int) (A1 : Int) (A2 : Int) (w : World) (K : Value → World → Prop) : Prop := ∀ (k3 : Nat) (w2 : World), k3 = w.heap.size → k3 < w2.heap.size → Ext w w2 → view_Good.call [(.agg ⟨[(.slice A0_0p A0_0n A0_0c), (.int .i64 A0_1), (.int .i64 A0_2), (.int .i64 A0_3), (.int .i64 A0_4)]⟩)] w2 fun v12 w13 => Stay [k3] w2 w13 ∧ ∃ b14 : Bool, v12 = (.bool b14) ∧ br (!b14) (K (.int .i64 1) w13) (br (decide (A1 < 0)) (K (.int .i64 1) w13) (br (decide (A2 < 0)) (K (.int .i64 1) w13) (br (decide (A1 ≥ A0_2)) (K (.int .i64 1) w13) (br (decide (A2 ≥ A0_2)) (K (.int .i64 1) w13) (br (A1 != A2) (view_Row.call [(.agg ⟨[(.slice A0_0p A0_0n A0_0c), (.int .i64 A0_1), (.int .i64 A0_2), (.int .i64 A0_3), (.int .i64 A0_4)]⟩), (.int .i64 A1)] w13.drew fun v32 w33 => Stay [k3] w13.drew w33 ∧ ∃ (a34 : Option Addr) (n35 c36 : Nat), ∃ i37 : Int, ∃ i38 : Int, ∃ i39 : Int, v32 = (.agg ⟨[(.slice a34 n35 c36), (.int .i64 i37), (.int .i64 i38), (.int .i64 i39)]⟩) ∧ Kept w13.drew w33 ∧ view_Row.call [(.agg ⟨[(.slice A0_0p A0_0n A0_0c), (.int .i64 A0_1), (.int .i64 A0_2), (.int .i64 A0_3), (.int .i64 A0_4)]⟩), (.int .i64 A2)] w33 fun v40 w41 => Stay [k3] w33 w41 ∧ ∃ (a42 : Option Addr) (n43 c44 : Nat), ∃ i45 : Int, ∃ i46 : Int, ∃ i47 : Int, v40 = (.agg ⟨[(.slice a42 n43 c44), (.int .i64 i45), (.int .i64 i46), (.int .i64 i47)]⟩) ∧ move_swap.call [(.agg ⟨[(.slice a34 n35 c36), (.int .i64 i37), (.int .i64 i38), (.int .i64 i39)]⟩), (.agg ⟨[(.slice a42 n43 c44), (.int .i64 i45), (.int .i64 i46), (.int .i64 i47)]⟩)] w41 fun v48 w49 => Stay [k3] w41 w49 ∧ v48 = (.tuple ⟨[]⟩) ∧ K (.int .i64 0) w49) (K (.int .i64 0) w13))))))
theorem move_Rows.os {A0_0p : Option Addr} {A0_0n A0_0c : Nat} {A0_1 : Int} {A0_2 : Int} {A0_3 : Int} {A0_4 : Int} {A1 : Int} {A2 : Int} {w : World} {K : Value → World → Prop} (h : move_Rows.s A0_0p A0_0n A0_0c A0_1 A0_2 A0_3 A0_4 A1 A2 w K) : move_Rows.call [(.agg ⟨[(.slice A0_0p A0_0n A0_0c), (.int .i64 A0_1), (.int .i64 A0_2), (.int .i64 A0_3), (.int .i64 A0_4)]⟩), (.int .i64 A1), (.int .i64 A2)] w K := by
  refine move_Rows.ok ?_
  have st := St.nil w
  unfold move_Rows.x
  unfold move_Rows.s at h
  refine St.new (St.nil _) (fun q1 w2 hk hlt he st => ?_)
  replace h := h q1.block w2 hk hlt he
  refine rd_l_i64_i64_i64_i64.bx 0 0 st rfl rfl rfl rfl rfl rfl rfl ?_
  refine CallF.mono h (fun v12 w13 h => ?_)
  obtain ⟨hK, h⟩ := h
  replace st := st.stay hK
  obtain ⟨b14, h⟩ := h
  refine ⟨b14, ?_⟩
  refine And.imp_right (fun h => ?_) h
  refine br_mono (fun h => ?_) (fun h => ?_) h
  · exact h
  · refine br_mono (fun h => ?_) (fun h => ?_) h
    · exact h
    · refine br_mono (fun h => ?_) (fun h => ?_) h
      · exact h
      · refine rd_i64.bx 0 2 st rfl rfl rfl ?_
        refine br_mono (fun h => ?_) (fun h => ?_) h
        · exact h
        · refine rd_i64.bx 0 2 st rfl rfl rfl ?_
          refine br_mono (fun h => ?_) (fun h => ?_) h
          · exact h
          · refine br_mono (fun h => ?_) (fun h => ?_) h
            · replace st := st.drew
              have st17 := st
              refine rd_l_i64_i64_i64_i64.bx 0 0 st17 rfl rfl rfl rfl rfl rfl rfl ?_
              refine rd_l_i64_i64_i64_i64.bx 0 0 st17 rfl rfl rfl rfl rfl rfl rfl ?_
              refine CallF.mono h (fun v32 w33 h => ?_)
              obtain ⟨hK, h⟩ := h
              replace st := st.stay hK
              obtain ⟨a34, n35, c36, i37, i38, i39, h⟩ := h
              refine ⟨a34, n35, c36, i37, i38, i39, ?_⟩
              refine And.imp_right (fun h => ?_) h
              refine And.imp_right (fun h => ?_) h
              refine CallF.mono h (fun v40 w41 h => ?_)
              obtain ⟨hK, h⟩ := h
              replace st := st.stay hK
              obtain ⟨a42, n43, c44, i45, i46, i47, h⟩ := h
              refine ⟨a42, n43, c44, i45, i46, i47, ?_⟩
              refine And.imp_right (fun h => ?_) h
              refine CallF.mono h (fun v48 w49 h => ?_)
              obtain ⟨hK, h⟩ := h
              replace st := st.stay hK
              exact h
            · exact h

/-! ### straightedge/move.swap: function 77 -/
def move_swap.b2 (K : Value → World → Prop) (h2 : Option Addr → Option Addr → Int → Int → World → Prop) (z2 : Option Addr) (z3 : Option Addr) (z8 : Int) (z9 : Int) (w : World) : Prop := br (decide (z9 < z8)) (ptrSome z2 fun q2 => rd_l w.drew q2 fun a3 n4 c5 => ptrSome z2 fun q6 => rd_i64 w.drew (q6.add 1) fun i7 => ptrSome z2 fun q8 => rd_i64 w.drew (q8.add 3) fun i9 => ptrSome a3 fun q10 => (0 : Int) ≤ (IntKind.i64.wrap (i7 + (IntKind.i64.wrap (z9 * i9)))) ∧ (IntKind.i64.wrap (i7 + (IntKind.i64.wrap (z9 * i9)))) < ((n4 : Nat) : Int) ∧ ptrSome z3 fun q11 => rd_l w.drew q11 fun a12 n13 c14 => ptrSome z3 fun q15 => rd_i64 w.drew (q15.add 1) fun i16 => ptrSome z3 fun q17 => rd_i64 w.drew (q17.add 3) fun i18 => ptrSome a12 fun q19 => (0 : Int) ≤ (IntKind.i64.wrap (i16 + (IntKind.i64.wrap (z9 * i18)))) ∧ (IntKind.i64.wrap (i16 + (IntKind.i64.wrap (z9 * i18)))) < ((n13 : Nat) : Int) ∧ rd_f64 (w.drew).drew (q19.add (Int.toNat (IntKind.i64.wrap (i16 + (IntKind.i64.wrap (z9 * i18)))))) fun x21 => rd_f64 (w.drew).drew (q10.add (Int.toNat (IntKind.i64.wrap (i7 + (IntKind.i64.wrap (z9 * i9)))))) fun x22 => stPT (q10.add (Int.toNat (IntKind.i64.wrap (i7 + (IntKind.i64.wrap (z9 * i9)))))) 0 [(.float .f64 x21)] (w.drew).drew fun w23 => stPT (q19.add (Int.toNat (IntKind.i64.wrap (i16 + (IntKind.i64.wrap (z9 * i18)))))) 0 [(.float .f64 x22)] w23 fun w24 => h2 z2 z3 z8 (IntKind.i64.wrap (z9 + 1)) w24) (K (.tuple ⟨[]⟩) w)
def move_swap.c2 (K : Value → World → Prop) : Nat → Option Addr → Option Addr → Int → Int → World → Prop
  | 0 => fun _ _ _ _ _ => False
  | fu + 1 => move_swap.b2 K (move_swap.c2 K fu)
def move_swap.x (fu : Nat) (A0_0p : Option Addr) (A0_0n A0_0c : Nat) (A0_1 : Int) (A0_2 : Int) (A0_3 : Int) (A1_0p : Option Addr) (A1_0n A1_0c : Nat) (A1_1 : Int) (A1_2 : Int) (A1_3 : Int) (w : World) (K : Value → World → Prop) : Prop := newB [(.slice A0_0p A0_0n A0_0c), (.int .i64 A0_1), (.int .i64 A0_2), (.int .i64 A0_3)] 66 w fun q1 w2 => newB [(.slice A1_0p A1_0n A1_0c), (.int .i64 A1_1), (.int .i64 A1_2), (.int .i64 A1_3)] 66 w2 fun q3 w4 => rd_i64 w4 (q1.add 2) fun i5 => move_swap.c2 K fu (some q1) (some q3) i5 0 w4
def move_swap.hd (K : Value → World → Prop) (n id : Nat) (t : List Value) (w : World) : Prop :=
  match id with
  | 2 => asP (t.getD 2 undef) fun z2 => asP (t.getD 3 undef) fun z3 => asI .i64 (t.getD 8 undef) fun z8 => asI .i64 (t.getD 9 undef) fun z9 => move_swap.c2 K n z2 z3 z8 z9 w
  | _ => False
theorem move_swap.t2 (K : Value → World → Prop) (n : Nat) (z2 : Option Addr) (z3 : Option Addr) (z8 : Int) (z9 : Int) (u : Nat → Value) (w : World) (h : move_swap.c2 K (n + 1) z2 z3 z8 z9 w) :
    exT prog [2] (move_swap.hd K n) Try.f77 2 43 [(2, (.pointer z2)), (3, (.pointer z3)), (8, (.int .i64 z8)), (9, (.int .i64 z9))] u w K := Eq.mp (by kernel_rfl) h
theorem move_swap.ok (fu : Nat) {A0_0p : Option Addr} {A0_0n A0_0c : Nat} {A0_1 : Int} {A0_2 : Int} {A0_3 : Int} {A1_0p : Option Addr} {A1_0n A1_0c : Nat} {A1_1 : Int} {A1_2 : Int} {A1_3 : Int} {w : World} {K : Value → World → Prop} (h : move_swap.x fu A0_0p A0_0n A0_0c A0_1 A0_2 A0_3 A1_0p A1_0n A1_0c A1_1 A1_2 A1_3 w K) : move_swap.call [(.agg ⟨[(.slice A0_0p A0_0n A0_0c), (.int .i64 A0_1), (.int .i64 A0_2), (.int .i64 A0_3)]⟩), (.agg ⟨[(.slice A1_0p A1_0n A1_0c), (.int .i64 A1_1), (.int .i64 A1_2), (.int .i64 A1_3)]⟩)] w K := by
  refine callF_of_ex (cuts := [2]) (H := move_swap.hd K) (N := 43) Try.func77 rfl mixed (by kernel_rfl) ?_ ?_ ?_ rfl (n := fu) (Eq.mp (by kernel_rfl) h)
  · intro id hid; simp only [List.mem_cons, List.not_mem_nil, or_false] at hid; subst hid
    · exact (by kernel_rfl : (stacks (bodyOf Try.f77) []).filter (headIs 2) = [at_ (bodyOf Try.f77) 2])
  · intro id t w h
    unfold move_swap.hd at h
    split at h
    · obtain ⟨z2, _, h⟩ := asP_elim h
      obtain ⟨z3, _, h⟩ := asP_elim h
      obtain ⟨z8, _, h⟩ := asI_elim h
      obtain ⟨z9, _, h⟩ := asI_elim h
      exact h
    · exact h
  · intro n id hid t w hl h; simp only [List.mem_cons, List.not_mem_nil, or_false] at hid; subst hid
    · replace h : asP (t.getD 2 undef) fun z2 => asP (t.getD 3 undef) fun z3 => asI .i64 (t.getD 8 undef) fun z8 => asI .i64 (t.getD 9 undef) fun z9 => move_swap.c2 K (n + 1) z2 z3 z8 z9 w := h
      obtain ⟨z2, e2, h⟩ := asP_elim h
      obtain ⟨z3, e3, h⟩ := asP_elim h
      obtain ⟨z8, e8, h⟩ := asI_elim h
      obtain ⟨z9, e9, h⟩ := asI_elim h
      rw [mk_of hl [(2, (.pointer z2)), (3, (.pointer z3)), (8, (.int .i64 z8)), (9, (.int .i64 z9))] (by simp only [List.forall_mem_cons, List.not_mem_nil, false_implies, implies_true, and_true]; exact ⟨e2, e3, e8, e9⟩)]
      exact move_swap.t2 K n z2 z3 z8 z9 _ w h
/-! the same, the local variables taken out -/
def move_swap.e2 (K : Value → World → Prop) (h2 : Nat → Option Addr → Nat → Nat → Int → Int → Int → Nat → Option Addr → Nat → Nat → Int → Int → Int → Int → Int → World → Prop) (k2 : Nat) (y2_0p : Option Addr) (y2_0n y2_0c : Nat) (y2_1 : Int) (y2_2 : Int) (y2_3 : Int) (k3 : Nat) (y3_0p : Option Addr) (y3_0n y3_0c : Nat) (y3_1 : Int) (y3_2 : Int) (y3_3 : Int) (z8 : Int) (z9 : Int) (w : World) : Prop := br (decide (z9 < z8)) (ptrSome y2_0p fun q10 => (0 : Int) ≤ (IntKind.i64.wrap (y2_1 + (IntKind.i64.wrap (z9 * y2_3)))) ∧ (IntKind.i64.wrap (y2_1 + (IntKind.i64.wrap (z9 * y2_3)))) < ((y2_0n : Nat) : Int) ∧ ptrSome y3_0p fun q19 => (0 : Int) ≤ (IntKind.i64.wrap (y3_1 + (IntKind.i64.wrap (z9 * y3_3)))) ∧ (IntKind.i64.wrap (y3_1 + (IntKind.i64.wrap (z9 * y3_3)))) < ((y3_0n : Nat) : Int) ∧ rd_f64 (w.drew).drew (q19.add (Int.toNat (IntKind.i64.wrap (y3_1 + (IntKind.i64.wrap (z9 * y3_3)))))) fun x21 => rd_f64 (w.drew).drew (q10.add (Int.toNat (IntKind.i64.wrap (y2_1 + (IntKind.i64.wrap (z9 * y2_3)))))) fun x22 => stPT (q10.add (Int.toNat (IntKind.i64.wrap (y2_1 + (IntKind.i64.wrap (z9 * y2_3)))))) 0 [(.float .f64 x21)] (w.drew).drew fun w23 => Keep [k2, k3] (w.drew).drew w23 ∧ stPT (q19.add (Int.toNat (IntKind.i64.wrap (y3_1 + (IntKind.i64.wrap (z9 * y3_3)))))) 0 [(.float .f64 x22)] w23 fun w24 => Keep [k2, k3] w23 w24 ∧ h2 k2 y2_0p y2_0n y2_0c y2_1 y2_2 y2_3 k3 y3_0p y3_0n y3_0c y3_1 y3_2 y3_3 z8 (IntKind.i64.wrap (z9 + 1)) w24) (K (.tuple ⟨[]⟩) w)
def move_swap.d2 (K : Value → World → Prop) : Nat → Nat → Option Addr → Nat → Nat → Int → Int → Int → Nat → Option Addr → Nat → Nat → Int → Int → Int → Int → Int → World → Prop
  | 0 => fun _ _ _ _ _ _ _ _ _ _ _ _ _ _ _ _ _ => False
  | fu + 1 => move_swap.e2 K (move_swap.d2 K fu)
def move_swap.s (fu : Nat) (A0_0p : Option Addr) (A0_0n A0_0c : Nat) (A0_1 : Int) (A0_2 : Int) (A0_3 : Int) (A1_0p : Option Addr) (A1_0n A1_0c : Nat) (A1_1 : Int) (A1_2 : Int) (A1_3 : Int) (w : World) (K : Value → World → Prop) : Prop := ∀ (k3 : Nat) (w2 : World), k3 = w.heap.size → k3 < w2.heap.size → Ext w w2 → ∀ (k7 : Nat) (w6 : World), k7 = w2.heap.size → k7 < w6.heap.size → Ext w2 w6 → move_swap.d2 K fu k3 A0_0p A0_0n A0_0c A0_1 A0_2 A0_3 k7 A1_0p A1_0n A1_0c A1_1 A1_2 A1_3 A0_2 0 w6
theorem move_swap.b2_s {K : Value → World → Prop} {x2 : Option Addr → Option Addr → Int → Int → World → Prop} {s2 : Nat → Option Addr → Nat → Nat → Int → Int → Int → Nat → Option Addr → Nat → Nat → Int → Int → Int → Int → Int → World → Prop} (i2 : ∀ {q2 : Addr} {y2_0p : Option Addr} {y2_0n y2_0c : Nat} {y2_1 : Int} {y2_2 : Int} {y2_3 : Int} {q3 : Addr} {y3_0p : Option Addr} {y3_0n y3_0c : Nat} {y3_1 : Int} {y3_2 : Int} {y3_3 : Int} {z8 : Int} {z9 : Int} {w : World}, s2 q2.block y2_0p y2_0n y2_0c y2_1 y2_2 y2_3 q3.block y3_0p y3_0n y3_0c y3_1 y3_2 y3_3 z8 z9 w → St w [(q2, [(.slice y2_0p y2_0n y2_0c), (.int .i64 y2_1), (.int .i64 y2_2), (.int .i64 y2_3)]), (q3, [(.slice y3_0p y3_0n y3_0c), (.int .i64 y3_1), (.int .i64 y3_2), (.int .i64 y3_3)])] → x2 (some q2) (some q3) z8 z9 w) {q2 : Addr} {y2_0p : Option Addr} {y2_0n y2_0c : Nat} {y2_1 : Int} {y2_2 : Int} {y2_3 : Int} {q3 : Addr} {y3_0p : Option Addr} {y3_0n y3_0c : Nat} {y3_1 : Int} {y3_2 : Int} {y3_3 : Int} {z8 : Int} {z9 : Int} {w : World} (h : move_swap.e2 K s2 q2.block y2_0p y2_0n y2_0c y2_1 y2_2 y2_3 q3.block y3_0p y3_0n y3_0c y3_1 y3_2 y3_3 z8 z9 w) (st : St w [(q2, [(.slice y2_0p y2_0n y2_0c), (.int .i64 y2_1), (.int .i64 y2_2), (.int .i64 y2_3)]), (q3, [(.slice y3_0p y3_0n y3_0c), (.int .i64 y3_1), (.int .i64 y3_2), (.int .i64 y3_3)])]) : move_swap.b2 K x2 (some q2) (some q3) z8 z9 w := by
  unfold move_swap.b2
  unfold move_swap.e2 at h
  refine br_mono (fun h => ?_) (fun h => ?_) h
  · replace st := st.drew
    have st1 := st
    refine ptrSome_intro rfl ?_
    refine rd_l.bx 0 0 st1 rfl rfl rfl ?_
    refine ptrSome_intro rfl ?_
    refine rd_i64.bx 0 1 st1 rfl rfl rfl ?_
    refine ptrSome_intro rfl ?_
    refine rd_i64.bx 0 3 st1 rfl rfl rfl ?_
    refine ptrSome_mono (fun q10 h => ?_) h
    refine And.imp_right (fun h => ?_) h
    refine And.imp_right (fun h => ?_) h
    refine ptrSome_intro rfl ?_
    refine rd_l.bx 1 0 st1 rfl rfl rfl ?_
    refine ptrSome_intro rfl ?_
    refine rd_i64.bx 1 1 st1 rfl rfl rfl ?_
    refine ptrSome_intro rfl ?_
    refine rd_i64.bx 1 3 st1 rfl rfl rfl ?_
    refine ptrSome_mono (fun q19 h => ?_) h
    refine And.imp_right (fun h => ?_) h
    refine And.imp_right (fun h => ?_) h
    replace st := st.drew
    refine rd_f64.mono (fun x21 h => ?_) h
    refine rd_f64.mono (fun x22 h => ?_) h
    refine stPT_mono (fun w23 h => ?_) h
    obtain ⟨hK, h⟩ := h
    replace st := st.keep hK
    refine stPT_mono (fun w24 h => ?_) h
    obtain ⟨hK, h⟩ := h
    replace st := st.keep hK
    exact i2 h (st.pick [0, 1] (by decide))
  · exact h
theorem move_swap.c2_s {K : Value → World → Prop} (fu : Nat) : ∀ {q2 : Addr} {y2_0p : Option Addr} {y2_0n y2_0c : Nat} {y2_1 : Int} {y2_2 : Int} {y2_3 : Int} {q3 : Addr} {y3_0p : Option Addr} {y3_0n y3_0c : Nat} {y3_1 : Int} {y3_2 : Int} {y3_3 : Int} {z8 : Int} {z9 : Int} {w : World}, move_swap.d2 K fu q2.block y2_0p y2_0n y2_0c y2_1 y2_2 y2_3 q3.block y3_0p y3_0n y3_0c y3_1 y3_2 y3_3 z8 z9 w → St w [(q2, [(.slice y2_0p y2_0n y2_0c), (.int .i64 y2_1), (.int .i64 y2_2), (.int .i64 y2_3)]), (q3, [(.slice y3_0p y3_0n y3_0c), (.int .i64 y3_1), (.int .i64 y3_2), (.int .i64 y3_3)])] → move_swap.c2 K fu (some q2) (some q3) z8 z9 w := by
  induction fu with
  | zero => exact fun h _ => False.elim h
  | succ fu ih => exact fun h st => move_swap.b2_s (K := K) (x2 := move_swap.c2 K fu) (s2 := move_swap.d2 K fu) ih h st
theorem move_swap.os (fu : Nat) {A0_0p : Option Addr} {A0_0n A0_0c : Nat} {A0_1 : Int} {A0_2 : Int} {A0_3 : Int} {A1_0p : Option Addr} {A1_0n A1_0c : Nat} {A1_1 : Int} {A1_2 : Int} {A1_3 : Int} {w : World} {K : Value → World → Prop} (h : move_swap.s fu A0_0p A0_0n A0_0c A0_1 A0_2 A0_3 A1_0p A1_0n A1_0c A1_1 A1_2 A1_3 w K) : move_swap.call [(.agg ⟨[(.slice A0_0p A0_0n A0_0c), (.int .i64 A0_1), (.int .i64 A0_2), (.int .i64 A0_3)]⟩), (.agg ⟨[(.slice A1_0p A1_0n A1_0c), (.int .i64 A1_1), (.int .i64 A1_2), (.int .i64 A1_3)]⟩)] w K := by
  refine move_swap.ok fu ?_
  have st := St.nil w
  unfold move_swap.x
  unfold move_swap.s at h
  refine St.new (St.nil _) (fun q1 w2 hk hlt he st => ?_)
  replace h := h q1.block w2 hk hlt he
  refine St.new st (fun q5 w6 hk hlt he st => ?_)
  replace h := h q5.block w6 hk hlt he
  refine rd_i64.bx 1 2 st rfl rfl rfl ?_
  exact move_swap.c2_s fu h (st.pick [1, 0] (by decide))

end Go.Proofs.Ytgdkahbnepafgaa

/-! ### AGsums -/
/- The explicit forms of the functions of one package, and that the calls do what they say. Written by wip/tools/wk2.py. -/
set_option maxHeartbeats 4000000
set_option maxRecDepth 100000
set_option linter.unusedVariables false
namespace Go.Proofs.Ytgdkahbnepafgaa
open Go Go.Wk

/-! ### straightedge/sums.Most: function 60 -/
def sums_Most.b5 (K : Value → World → Prop) (h5 : Option Addr → Int → Int → Int → World → Prop) (z1 : Option Addr) (z4 : Int) (z10 : Int) (z11 : Int) (w : World) : Prop := br (decide (z11 < z10)) (br (decide (z4 < 0)) (h5 z1 z11 z10 (IntKind.i64.wrap (z11 + 1)) (w.drew)) (ptrSome z1 fun q2 => rd_l_i64_i64_i64 w.drew q2 fun a3 n4 c5 i6 i7 i8 => ptrSome z1 fun q9 => rd_l_i64_i64_i64 w.drew q9 fun a10 n11 c12 i13 i14 i15 => sums_at.call [(.agg ⟨[(.slice a3 n4 c5), (.int .i64 i6), (.int .i64 i7), (.int .i64 i8)]⟩), (.int .i64 z11)] w.drew fun v16 w17 => ∃ x18 : Nat, v16 = (.float .f64 x18) ∧ Kept w.drew w17 ∧ math_Abs.call [(.float .f64 x18)] w17 fun v19 w20 => ∃ x21 : Nat, v19 = (.float .f64 x21) ∧ Kept w17 w20 ∧ sums_at.call [(.agg ⟨[(.slice a10 n11 c12), (.int .i64 i13), (.int .i64 i14), (.int .i64 i15)]⟩), (.int .i64 z4)] w20 fun v22 w23 => ∃ x24 : Nat, v22 = (.float .f64 x24) ∧ math_Abs.call [(.float .f64 x24)] w23 fun v25 w26 => ∃ x27 : Nat, v25 = (.float .f64 x27) ∧ br (fgt .f64 x21 x27) (h5 z1 z11 z10 (IntKind.i64.wrap (z11 + 1)) w26) (h5 z1 z4 z10 (IntKind.i64.wrap (z11 + 1)) w26))) (K (.tuple ⟨[(.int .i64 z4), (.int .i64 0)]⟩) w)
def sums_Most.c5 (K : Value → World → Prop) : Nat → Option Addr → Int → Int → Int → World → Prop
  | 0 => fun _ _ _ _ _ => False
  | fu + 1 => sums_Most.b5 K (sums_Most.c5 K fu)
def sums_Most.x (fu : Nat) (A0_0p : Option Addr) (A0_0n A0_0c : Nat) (A0_1 : Int) (A0_2 : Int) (A0_3 : Int) (w : World) (K : Value → World → Prop) : Prop := newB [(.slice A0_0p A0_0n A0_0c), (.int .i64 A0_1), (.int .i64 A0_2), (.int .i64 A0_3)] 66 w fun q1 w2 => rd_l_i64_i64_i64 w2 q1 fun a3 n4 c5 i6 i7 i8 => view_Right.call [(.agg ⟨[(.slice a3 n4 c5), (.int .i64 i6), (.int .i64 i7), (.int .i64 i8)]⟩)] w2 fun v9 w10 => ∃ b11 : Bool, v9 = (.bool b11) ∧ br (!b11) (K (.tuple ⟨[(.int .i64 (-1)), (.int .i64 1)]⟩) w10) (rd_i64 w10 (q1.add 2) fun i12 => sums_Most.c5 K fu (some q1) (-1) i12 0 w10)
def sums_Most.hd (K : Value → World → Prop) (n id : Nat) (t : List Value) (w : World) : Prop :=
  match id with
  | 5 => asP (t.getD 1 undef) fun z1 => asI .i64 (t.getD 4 undef) fun z4 => asI .i64 (t.getD 10 undef) fun z10 => asI .i64 (t.getD 11 undef) fun z11 => sums_Most.c5 K n z1 z4 z10 z11 w
  | _ => False
theorem sums_Most.t5 (K : Value → World → Prop) (n : Nat) (z1 : Option Addr) (z4 : Int) (z10 : Int) (z11 : Int) (u : Nat → Value) (w : World) (h : sums_Most.c5 K (n + 1) z1 z4 z10 z11 w) :
    exT prog [5] (sums_Most.hd K n) Try.f60 5 30 [(1, (.pointer z1)), (4, (.int .i64 z4)), (10, (.int .i64 z10)), (11, (.int .i64 z11))] u w K := Eq.mp (by kernel_rfl) h
theorem sums_Most.ok (fu : Nat) {A0_0p : Option Addr} {A0_0n A0_0c : Nat} {A0_1 : Int} {A0_2 : Int} {A0_3 : Int} {w : World} {K : Value → World → Prop} (h : sums_Most.x fu A0_0p A0_0n A0_0c A0_1 A0_2 A0_3 w K) : sums_Most.call [(.agg ⟨[(.slice A0_0p A0_0n A0_0c), (.int .i64 A0_1), (.int .i64 A0_2), (.int .i64 A0_3)]⟩)] w K := by
  refine callF_of_ex (cuts := [5]) (H := sums_Most.hd K) (N := 30) Try.func60 rfl mixed (by kernel_rfl) ?_ ?_ ?_ rfl (n := fu) (Eq.mp (by kernel_rfl) h)
  · intro id hid; simp only [List.mem_cons, List.not_mem_nil, or_false] at hid; subst hid
    · exact (by kernel_rfl : (stacks (bodyOf Try.f60) []).filter (headIs 5) = [at_ (bodyOf Try.f60) 5])
  · intro id t w h
    unfold sums_Most.hd at h
    split at h
    · obtain ⟨z1, _, h⟩ := asP_elim h
      obtain ⟨z4, _, h⟩ := asI_elim h
      obtain ⟨z10, _, h⟩ := asI_elim h
      obtain ⟨z11, _, h⟩ := asI_elim h
      exact h
    · exact h
  · intro n id hid t w hl h; simp only [List.mem_cons, List.not_mem_nil, or_false] at hid; subst hid
    · replace h : asP (t.getD 1 undef) fun z1 => asI .i64 (t.getD 4 undef) fun z4 => asI .i64 (t.getD 10 undef) fun z10 => asI .i64 (t.getD 11 undef) fun z11 => sums_Most.c5 K (n + 1) z1 z4 z10 z11 w := h
      obtain ⟨z1, e1, h⟩ := asP_elim h
      obtain ⟨z4, e4, h⟩ := asI_elim h
      obtain ⟨z10, e10, h⟩ := asI_elim h
      obtain ⟨z11, e11, h⟩ := asI_elim h
      rw [mk_of hl [(1, (.pointer z1)), (4, (.int .i64 z4)), (10, (.int .i64 z10)), (11, (.int .i64 z11))] (by simp only [List.forall_mem_cons, List.not_mem_nil, false_implies, implies_true, and_true]; exact ⟨e1, e4, e10, e11⟩)]
      exact sums_Most.t5 K n z1 z4 z10 z11 _ w h
/-! the same, the local variables taken out -/
def sums_Most.e5 (K : Value → World → Prop) (h5 : Nat → Option Addr → Nat → Nat → Int → Int → Int → Int → Int → Int → World → Prop) (k1 : Nat) (y1_0p : Option Addr) (y1_0n y1_0c : Nat) (y1_1 : Int) (y1_2 : Int) (y1_3 : Int) (z4 : Int) (z10 : Int) (z11 : Int) (w : World) : Prop := br (decide (z11 < z10)) (br (decide (z4 < 0)) (h5 k1 y1_0p y1_0n y1_0c y1_1 y1_2 y1_3 z11 z10 (IntKind.i64.wrap (z11 + 1)) (w.drew)) (sums_at.call [(.agg ⟨[(.slice y1_0p y1_0n y1_0c), (.int .i64 y1_1), (.int .i64 y1_2), (.int .i64 y1_3)]⟩), (.int .i64 z11)] w.drew fun v16 w17 => Stay [k1] w.drew w17 ∧ ∃ x18 : Nat, v16 = (.float .f64 x18) ∧ Kept w.drew w17 ∧ math_Abs.call [(.float .f64 x18)] w17 fun v19 w20 => Stay [k1] w17 w20 ∧ ∃ x21 : Nat, v19 = (.float .f64 x21) ∧ Kept w17 w20 ∧ sums_at.call [(.agg ⟨[(.slice y1_0p y1_0n y1_0c), (.int .i64 y1_1), (.int .i64 y1_2), (.int .i64 y1_3)]⟩), (.int .i64 z4)] w20 fun v22 w23 => Stay [k1] w20 w23 ∧ ∃ x24 : Nat, v22 = (.float .f64 x24) ∧ math_Abs.call [(.float .f64 x24)] w23 fun v25 w26 => Stay [k1] w23 w26 ∧ ∃ x27 : Nat, v25 = (.float .f64 x27) ∧ br (fgt .f64 x21 x27) (h5 k1 y1_0p y1_0n y1_0c y1_1 y1_2 y1_3 z11 z10 (IntKind.i64.wrap (z11 + 1)) w26) (h5 k1 y1_0p y1_0n y1_0c y1_1 y1_2 y1_3 z4 z10 (IntKind.i64.wrap (z11 + 1)) w26))) (K (.tuple ⟨[(.int .i64 z4), (.int .i64 0)]⟩) w)
def sums_Most.d5 (K : Value → World → Prop) : Nat → Nat → Option Addr → Nat → Nat → Int → Int → Int → Int → Int → Int → World → Prop
  | 0 => fun _ _ _ _ _ _ _ _ _ _ _ => False
  | fu + 1 => sums_Most.e5 K (sums_Most.d5 K fu)
def sums_Most.s (fu : Nat) (A0_0p : Option Addr) (A0_0n A0_0c : Nat) (A0_1 : Int) (A0_2 : Int) (A0_3 : Int) (w : World) (K : Value → World → Prop) : Prop := ∀ (k3 : Nat) (w2 : World), k3 = w.heap.size → k3 < w2.heap.size → Ext w w2 → view_Right.call [(.agg ⟨[(.slice A0_0p A0_0n A0_0c), (.int .i64 A0_1), (.int .i64 A0_2), (.int .i64 A0_3)]⟩)] w2 fun v11 w12 => Stay [k3] w2 w12 ∧ ∃ b13 : Bool, v11 = (.bool b13) ∧ br (!b13) (K (.tuple ⟨[(.int .i64 (-1)), (.int .i64 1)]⟩) w12) (sums_Most.d5 K fu k3 A0_0p A0_0n A0_0c A0_1 A0_2 A0_3 (-1) A0_2 0 w12)
theorem sums_Most.b5_s {K : Value → World → Prop} {x5 : Option Addr → Int → Int → Int → World → Prop} {s5 : Nat → Option Addr → Nat → Nat → Int → Int → Int → Int → Int → Int → World → Prop} (i5 : ∀ {q1 : Addr} {y1_0p : Option Addr} {y1_0n y1_0c : Nat} {y1_1 : Int} {y1_2 : Int} {y1_3 : Int} {z4 : Int} {z10 : Int} {z11 : Int} {w : World}, s5 q1.block y1_0p y1_0n y1_0c y1_1 y1_2 y1_3 z4 z10 z11 w → St w [(q1, [(.slice y1_0p y1_0n y1_0c), (.int .i64 y1_1), (.int .i64 y1_2), (.int .i64 y1_3)])] → x5 (some q1) z4 z10 z11 w) {q1 : Addr} {y1_0p : Option Addr} {y1_0n y1_0c : Nat} {y1_1 : Int} {y1_2 : Int} {y1_3 : Int} {z4 : Int} {z10 : Int} {z11 : Int} {w : World} (h : sums_Most.e5 K s5 q1.block y1_0p y1_0n y1_0c y1_1 y1_2 y1_3 z4 z10 z11 w) (st : St w [(q1, [(.slice y1_0p y1_0n y1_0c), (.int .i64 y1_1), (.int .i64 y1_2), (.int .i64 y1_3)])]) : sums_Most.b5 K x5 (some q1) z4 z10 z11 w := by
  unfold sums_Most.b5
  unfold sums_Most.e5 at h
  refine br_mono (fun h => ?_) (fun h => ?_) h
  · replace st := st.drew
    have st1 := st
    refine br_mono (fun h => ?_) (fun h => ?_) h
    · exact i5 h (st.pick [0] (by decide))
    · refine ptrSome_intro rfl ?_
      refine rd_l_i64_i64_i64.bx 0 0 st1 rfl rfl rfl rfl rfl rfl ?_
      refine ptrSome_intro rfl ?_
      refine rd_l_i64_i64_i64.bx 0 0 st1 rfl rfl rfl rfl rfl rfl ?_
      refine CallF.mono h (fun v16 w17 h => ?_)
      obtain ⟨hK, h⟩ := h
      replace st := st.stay hK
      obtain ⟨x18, h⟩ := h
      refine ⟨x18, ?_⟩
      refine And.imp_right (fun h => ?_) h
      refine And.imp_right (fun h => ?_) h
      refine CallF.mono h (fun v19 w20 h => ?_)
      obtain ⟨hK, h⟩ := h
      replace st := st.stay hK
      obtain ⟨x21, h⟩ := h
      refine ⟨x21, ?_⟩
      refine And.imp_right (fun h => ?_) h
      refine And.imp_right (fun h => ?_) h
      refine CallF.mono h (fun v22 w23 h => ?_)
      obtain ⟨hK, h⟩ := h
      replace st := st.stay hK
      obtain ⟨x24, h⟩ := h
      refine ⟨x24, ?_⟩
      refine And.imp_right (fun h => ?_) h
      refine CallF.mono h (fun v25 w26 h => ?_)
      obtain ⟨hK, h⟩ := h
      replace st := st.stay hK
      obtain ⟨x27, h⟩ := h
      refine ⟨x27, ?_⟩
      refine And.imp_right (fun h => ?_) h
      refine br_mono (fun h => ?_) (fun h => ?_) h
      · exact i5 h (st.pick [0] (by decide))
      · exact i5 h (st.pick [0] (by decide))
  · exact h
theorem sums_Most.c5_s {K : Value → World → Prop} (fu : Nat) : ∀ {q1 : Addr} {y1_0p : Option Addr} {y1_0n y1_0c : Nat} {y1_1 : Int} {y1_2 : Int} {y1_3 : Int} {z4 : Int} {z10 : Int} {z11 : Int} {w : World}, sums_Most.d5 K fu q1.block y1_0p y1_0n y1_0c y1_1 y1_2 y1_3 z4 z10 z11 w → St w [(q1, [(.slice y1_0p y1_0n y1_0c), (.int .i64 y1_1), (.int .i64 y1_2), (.int .i64 y1_3)])] → sums_Most.c5 K fu (some q1) z4 z10 z11 w := by
  induction fu with
  | zero => exact fun h _ => False.elim h
  | succ fu ih => exact fun h st => sums_Most.b5_s (K := K) (x5 := sums_Most.c5 K fu) (s5 := sums_Most.d5 K fu) ih h st
theorem sums_Most.os (fu : Nat) {A0_0p : Option Addr} {A0_0n A0_0c : Nat} {A0_1 : Int} {A0_2 : Int} {A0_3 : Int} {w : World} {K : Value → World → Prop} (h : sums_Most.s fu A0_0p A0_0n A0_0c A0_1 A0_2 A0_3 w K) : sums_Most.call [(.agg ⟨[(.slice A0_0p A0_0n A0_0c), (.int .i64 A0_1), (.int .i64 A0_2), (.int .i64 A0_3)]⟩)] w K := by
  refine sums_Most.ok fu ?_
  have st := St.nil w
  unfold sums_Most.x
  unfold sums_Most.s at h
  refine St.new (St.nil _) (fun q1 w2 hk hlt he st => ?_)
  replace h := h q1.block w2 hk hlt he
  refine rd_l_i64_i64_i64.bx 0 0 st rfl rfl rfl rfl rfl rfl ?_
  refine CallF.mono h (fun v11 w12 h => ?_)
  obtain ⟨hK, h⟩ := h
  replace st := st.stay hK
  obtain ⟨b13, h⟩ := h
  refine ⟨b13, ?_⟩
  refine And.imp_right (fun h => ?_) h
  refine br_mono (fun h => ?_) (fun h => ?_) h
  · exact h
  · refine rd_i64.bx 0 2 st rfl rfl rfl ?_
    exact sums_Most.c5_s fu h (st.pick [0] (by decide))

/-! ### straightedge/sums.at: function 76 -/
def sums_at.x (A0_0p : Option Addr) (A0_0n A0_0c : Nat) (A0_1 : Int) (A0_2 : Int) (A0_3 : Int) (A1 : Int) (w : World) (K : Value → World → Prop) : Prop := newB [(.slice A0_0p A0_0n A0_0c), (.int .i64 A0_1), (.int .i64 A0_2), (.int .i64 A0_3)] 66 w fun q1 w2 => rd_l w2 q1 fun a3 n4 c5 => rd_i64 w2 (q1.add 1) fun i6 => rd_i64 w2 (q1.add 3) fun i7 => ptrSome a3 fun q8 => (0 : Int) ≤ (IntKind.i64.wrap (i6 + (IntKind.i64.wrap (A1 * i7)))) ∧ (IntKind.i64.wrap (i6 + (IntKind.i64.wrap (A1 * i7)))) < ((n4 : Nat) : Int) ∧ rd_f64 w2 (q8.add (Int.toNat (IntKind.i64.wrap (i6 + (IntKind.i64.wrap (A1 * i7)))))) fun x9 => K (.float .f64 x9) w2
theorem sums_at.ok {A0_0p : Option Addr} {A0_0n A0_0c : Nat} {A0_1 : Int} {A0_2 : Int} {A0_3 : Int} {A1 : Int} {w : World} {K : Value → World → Prop} (h : sums_at.x A0_0p A0_0n A0_0c A0_1 A0_2 A0_3 A1 w K) : sums_at.call [(.agg ⟨[(.slice A0_0p A0_0n A0_0c), (.int .i64 A0_1), (.int .i64 A0_2), (.int .i64 A0_3)]⟩), (.int .i64 A1)] w K :=
  callF_of_ex0 (f := Try.f76) Try.func76 rfl mixed (by kernel_rfl) (Eq.mp (by kernel_rfl) h)
/-! the same, the local variables taken out -/
def sums_at.s (A0_0p : Option Addr) (A0_0n A0_0c : Nat) (A0_1 : Int) (A0_2 : Int) (A0_3 : Int) (A1 : Int) (w : World) (K : Value → World → Prop) : Prop := ∀ (k3 : Nat) (w2 : World), k3 = w.heap.size → k3 < w2.heap.size → Ext w w2 → ptrSome A0_0p fun q10 => (0 : Int) ≤ (IntKind.i64.wrap (A0_1 + (IntKind.i64.wrap (A1 * A0_3)))) ∧ (IntKind.i64.wrap (A0_1 + (IntKind.i64.wrap (A1 * A0_3)))) < ((A0_0n : Nat) : Int) ∧ rd_f64 w2 (q10.add (Int.toNat (IntKind.i64.wrap (A0_1 + (IntKind.i64.wrap (A1 * A0_3)))))) fun x11 => K (.float .f64 x11) w2
theorem sums_at.os {A0_0p : Option Addr} {A0_0n A0_0c : Nat} {A0_1 : Int} {A0_2 : Int} {A0_3 : Int} {A1 : Int} {w : World} {K : Value → World → Prop} (h : sums_at.s A0_0p A0_0n A0_0c A0_1 A0_2 A0_3 A1 w K) : sums_at.call [(.agg ⟨[(.slice A0_0p A0_0n A0_0c), (.int .i64 A0_1), (.int .i64 A0_2), (.int .i64 A0_3)]⟩), (.int .i64 A1)] w K := by
  refine sums_at.ok ?_
  have st := St.nil w
  unfold sums_at.x
  unfold sums_at.s at h
  refine St.new (St.nil _) (fun q1 w2 hk hlt he st => ?_)
  replace h := h q1.block w2 hk hlt he
  refine rd_l.bx 0 0 st rfl rfl rfl ?_
  refine rd_i64.bx 0 1 st rfl rfl rfl ?_
  refine rd_i64.bx 0 3 st rfl rfl rfl ?_
  exact h

/-! ### straightedge/sums.Greatest: function 80 -/
def sums_Greatest.b3 (K : Value → World → Prop) (h3 : Nat → Option Addr → Nat → Nat → Int → Int → World → Prop) (z3 : Nat) (z6p : Option Addr) (z6n z6c : Nat) (z7 : Int) (z8 : Int) (w : World) : Prop := br (decide (z8 < z7)) (ptrSome z6p fun q1 => (0 : Int) ≤ z8 ∧ z8 < ((z6n : Nat) : Int) ∧ rd_f64 w (q1.add (Int.toNat z8)) fun x2 => br (fne .f64 x2 x2) (K (.float .f64 x2) w) (br (fgt .f64 x2 z3) (h3 x2 z6p z6n z6c z7 (IntKind.i64.wrap (z8 + 1)) w) (h3 z3 z6p z6n z6c z7 (IntKind.i64.wrap (z8 + 1)) w))) (K (.float .f64 z3) w)
def sums_Greatest.c3 (K : Value → World → Prop) : Nat → Nat → Option Addr → Nat → Nat → Int → Int → World → Prop
  | 0 => fun _ _ _ _ _ _ _ => False
  | fu + 1 => sums_Greatest.b3 K (sums_Greatest.c3 K fu)
def sums_Greatest.x (fu : Nat) (A0p : Option Addr) (A0n A0c : Nat) (w : World) (K : Value → World → Prop) : Prop := sums_Greatest.c3 K fu 0 A0p A0n A0c ((A0n : Nat) : Int) 0 w
def sums_Greatest.hd (K : Value → World → Prop) (n id : Nat) (t : List Value) (w : World) : Prop :=
  match id with
  | 3 => asF .f64 (t.getD 3 undef) fun z3 => asL (t.getD 6 undef) fun z6p z6n z6c => asI .i64 (t.getD 7 undef) fun z7 => asI .i64 (t.getD 8 undef) fun z8 => sums_Greatest.c3 K n z3 z6p z6n z6c z7 z8 w
  | _ => False
theorem sums_Greatest.t3 (K : Value → World → Prop) (n : Nat) (z3 : Nat) (z6p : Option Addr) (z6n z6c : Nat) (z7 : Int) (z8 : Int) (u : Nat → Value) (w : World) (h : sums_Greatest.c3 K (n + 1) z3 z6p z6n z6c z7 z8 w) :
    exT prog [3] (sums_Greatest.hd K n) Try.f80 3 22 [(3, (.float .f64 z3)), (6, (.slice z6p z6n z6c)), (7, (.int .i64 z7)), (8, (.int .i64 z8))] u w K := Eq.mp (by kernel_rfl) h
theorem sums_Greatest.ok (fu : Nat) {A0p : Option Addr} {A0n A0c : Nat} {w : World} {K : Value → World → Prop} (h : sums_Greatest.x fu A0p A0n A0c w K) : sums_Greatest.call [(.slice A0p A0n A0c)] w K := by
  refine callF_of_ex (cuts := [3]) (H := sums_Greatest.hd K) (N := 22) Try.func80 rfl mixed (by kernel_rfl) ?_ ?_ ?_ rfl (n := fu) (Eq.mp (by kernel_rfl) h)
  · intro id hid; simp only [List.mem_cons, List.not_mem_nil, or_false] at hid; subst hid
    · exact (by kernel_rfl : (stacks (bodyOf Try.f80) []).filter (headIs 3) = [at_ (bodyOf Try.f80) 3])
  · intro id t w h
    unfold sums_Greatest.hd at h
    split at h
    · obtain ⟨z3, _, h⟩ := asF_elim h
      obtain ⟨z6p, z6n, z6c, _, h⟩ := asL_elim h
      obtain ⟨z7, _, h⟩ := asI_elim h
      obtain ⟨z8, _, h⟩ := asI_elim h
      exact h
    · exact h
  · intro n id hid t w hl h; simp only [List.mem_cons, List.not_mem_nil, or_false] at hid; subst hid
    · replace h : asF .f64 (t.getD 3 undef) fun z3 => asL (t.getD 6 undef) fun z6p z6n z6c => asI .i64 (t.getD 7 undef) fun z7 => asI .i64 (t.getD 8 undef) fun z8 => sums_Greatest.c3 K (n + 1) z3 z6p z6n z6c z7 z8 w := h
      obtain ⟨z3, e3, h⟩ := asF_elim h
      obtain ⟨z6p, z6n, z6c, e6, h⟩ := asL_elim h
      obtain ⟨z7, e7, h⟩ := asI_elim h
      obtain ⟨z8, e8, h⟩ := asI_elim h
      rw [mk_of hl [(3, (.float .f64 z3)), (6, (.slice z6p z6n z6c)), (7, (.int .i64 z7)), (8, (.int .i64 z8))] (by simp only [List.forall_mem_cons, List.not_mem_nil, false_implies, implies_true, and_true]; exact ⟨e3, e6, e7, e8⟩)]
      exact sums_Greatest.t3 K n z3 z6p z6n z6c z7 z8 _ w h

end Go.Proofs.Ytgdkahbnepafgaa
