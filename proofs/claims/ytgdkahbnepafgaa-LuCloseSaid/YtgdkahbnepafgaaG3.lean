/- A part of the proof. -/
import Derived.Test.YtgdkahbnepafgaaG0
set_option linter.unusedVariables false

/-! ### AGlu -/
/- The explicit forms of the functions of one package, and that the calls do what they say. Written by wip/tools/wk2.py. -/
set_option maxHeartbeats 4000000
set_option maxRecDepth 100000
set_option linter.unusedVariables false
namespace Go.Proofs.Ytgdkahbnepafgaa
open Go Go.Wk

/-! ### straightedge/lu.Factor: function 10 -/
def lu_Factor.b7 (K : Value → World → Prop) (h7 : Option Addr → Option Addr → Int → Int → Int → World → Prop) (h20 : Option Addr → Option Addr → Int → Int → Int → Option Addr → Option Addr → Nat → Nat → Int → Int → Int → World → Prop) (z2 : Option Addr) (z5 : Option Addr) (z6 : Int) (z27 : Int) (z28 : Int) (w : World) : Prop := br (decide (z28 < z27)) (ptrSome z5 fun q1 => rd_l_i64_i64_i64_i64 w q1 fun a2 n3 c4 i5 i6 i7 i8 => lu_Pivot.call [(.agg ⟨[(.slice a2 n3 c4), (.int .i64 i5), (.int .i64 i6), (.int .i64 i7), (.int .i64 i8)]⟩), (.int .i64 z28)] w fun v9 w10 => ∃ i11 : Int, ∃ b12 : Bool, v9 = (.tuple ⟨[(.int .i64 i11), (.bool b12)]⟩) ∧ br (!b12) (ptrSome z2 fun q13 => stPT q13 0 [(.slice none 0 0), (.int .i64 0), (.int .i64 0), (.int .i64 0), (.int .i64 0), (.slice none 0 0)] w10 fun w14 => ptrSome z2 fun q15 => rd_l_i64_i64_i64_i64_l w14 q15 fun a16 n17 c18 i19 i20 i21 i22 a23 n24 c25 => K (.tuple ⟨[(.agg ⟨[(.slice a16 n17 c18), (.int .i64 i19), (.int .i64 i20), (.int .i64 i21), (.int .i64 i22), (.slice a23 n24 c25)]⟩), (.int .i64 (IntKind.i64.wrap (z28 + 1))), (.int .i64 4)]⟩) w14) (ptrSome z2 fun q26 => rd_l w10 (q26.add 5) fun a27 n28 c29 => newB [(.int .i64 i11)] 3 w10 fun q30 w31 => Raw prog (Builtin.append_ #[31, 31] 31 ⟨[(.slice a27 n28 c29), (.slice (some q30) 1 1)]⟩) w31 fun v32 w33 => ∃ (a34 : Option Addr) (n35 c36 : Nat), v32 = .slice a34 n35 c36 ∧ ptrSome z2 fun q37 => stPT (q37.add 5) 0 [(.slice a34 n35 c36)] w33 fun w38 => br ((IntKind.i64.wrap ((IntKind.i64.wrap (z6 - z28)) - 1)) == 0) (ptrSome z2 fun q39 => rd_l_i64_i64_i64_i64_l w38 q39 fun a40 n41 c42 i43 i44 i45 i46 a47 n48 c49 => ptrSome z2 fun q50 => stPT q50 0 [(.slice a40 n41 c42), (.int .i64 i43), (.int .i64 i44), (.int .i64 i45), (.int .i64 i46), (.slice a47 n48 c49)] w38 fun w51 => ptrSome z2 fun q52 => rd_l_i64_i64_i64_i64_l w51 q52 fun a53 n54 c55 i56 i57 i58 i59 a60 n61 c62 => K (.tuple ⟨[(.agg ⟨[(.slice a53 n54 c55), (.int .i64 i56), (.int .i64 i57), (.int .i64 i58), (.int .i64 i59), (.slice a60 n61 c62)]⟩), (.int .i64 0), (.int .i64 0)]⟩) w51) (ptrSome z5 fun q63 => rd_l_i64_i64_i64_i64 w38 q63 fun a64 n65 c66 i67 i68 i69 i70 => lu_Column.call [(.agg ⟨[(.slice a64 n65 c66), (.int .i64 i67), (.int .i64 i68), (.int .i64 i69), (.int .i64 i70)]⟩), (.int .i64 z28)] w38 fun v71 w72 => ∃ (a73 : Option Addr) (n74 c75 : Nat), ∃ i76 : Int, ∃ i77 : Int, ∃ i78 : Int, v71 = (.agg ⟨[(.slice a73 n74 c75), (.int .i64 i76), (.int .i64 i77), (.int .i64 i78)]⟩) ∧ newB [(.slice none 0 0), (.int .i64 0), (.int .i64 0), (.int .i64 0)] 66 w72 fun q79 w80 => stPT q79 0 [(.slice a73 n74 c75), (.int .i64 i76), (.int .i64 i77), (.int .i64 i78)] w80 fun w81 => newB [] 38 w81 fun q82 w83 => rd_l w83 q79 fun a84 n85 c86 => rd_i64 w83 (q79.add 1) fun i87 => rd_i64 w83 (q79.add 1) fun i88 => rd_i64 w83 (q79.add 2) fun i89 => (0 : Int) ≤ (IntKind.i64.wrap (i88 + i89)) ∧ (IntKind.i64.wrap (i88 + i89)) ≤ ((c86 : Nat) : Int) ∧ (0 : Int) ≤ i87 ∧ i87 ≤ (((Int.toNat (IntKind.i64.wrap (i88 + i89))) : Nat) : Int) ∧ Raw prog (Builtin.append_ #[22, 22] 22 ⟨[(.slice (some q82) 0 0), (.slice (if c86 = (Int.toNat i87) then a84 else a84.map (·.add ((Int.toNat i87) * 1))) ((Int.toNat (IntKind.i64.wrap (i88 + i89))) - (Int.toNat i87)) (c86 - (Int.toNat i87)))]⟩) w83 fun v90 w91 => ∃ (a92 : Option Addr) (n93 c94 : Nat), v90 = .slice a92 n93 c94 ∧ stPT q79 0 [(.slice a92 n93 c94)] w91 fun w95 => stPT (q79.add 1) 0 [(.int .i64 0)] w95 fun w96 => h20 z2 z5 z6 z28 (IntKind.i64.wrap ((IntKind.i64.wrap (z6 - z28)) - 1)) (some q79) none 0 0 (IntKind.i64.wrap (z28 + 1)) z27 z28 w96))) (ptrSome z2 fun q97 => rd_l_i64_i64_i64_i64_l w q97 fun a98 n99 c100 i101 i102 i103 i104 a105 n106 c107 => ptrSome z2 fun q108 => stPT q108 0 [(.slice a98 n99 c100), (.int .i64 i101), (.int .i64 i102), (.int .i64 i103), (.int .i64 i104), (.slice a105 n106 c107)] w fun w109 => ptrSome z2 fun q110 => rd_l_i64_i64_i64_i64_l w109 q110 fun a111 n112 c113 i114 i115 i116 i117 a118 n119 c120 => K (.tuple ⟨[(.agg ⟨[(.slice a111 n112 c113), (.int .i64 i114), (.int .i64 i115), (.int .i64 i116), (.int .i64 i117), (.slice a118 n119 c120)]⟩), (.int .i64 0), (.int .i64 0)]⟩) w109)
def lu_Factor.b20 (K : Value → World → Prop) (h7 : Option Addr → Option Addr → Int → Int → Int → World → Prop) (h20 : Option Addr → Option Addr → Int → Int → Int → Option Addr → Option Addr → Nat → Nat → Int → Int → Int → World → Prop) (z2 : Option Addr) (z5 : Option Addr) (z6 : Int) (z7 : Int) (z10 : Int) (z11 : Option Addr) (z12p : Option Addr) (z12n z12c : Nat) (z13 : Int) (z27 : Int) (z28 : Int) (w : World) : Prop := br (decide (z13 < z6)) (ptrSome z5 fun q1 => rd_l_i64_i64_i64_i64 w q1 fun a2 n3 c4 i5 i6 i7 i8 => view_At.call [(.agg ⟨[(.slice a2 n3 c4), (.int .i64 i5), (.int .i64 i6), (.int .i64 i7), (.int .i64 i8)]⟩), (.int .i64 z7), (.int .i64 z13)] w fun v9 w10 => ∃ x11 : Nat, v9 = (.float .f64 x11) ∧ newB [(.float .f64 x11)] 38 w10 fun q12 w13 => Raw prog (Builtin.append_ #[22, 22] 22 ⟨[(.slice z12p z12n z12c), (.slice (some q12) 1 1)]⟩) w13 fun v14 w15 => ∃ (a16 : Option Addr) (n17 c18 : Nat), v14 = .slice a16 n17 c18 ∧ h20 z2 z5 z6 z7 z10 z11 a16 n17 c18 (IntKind.i64.wrap (z13 + 1)) z27 z28 w15) (ptrSome z11 fun q20 => rd_l_i64_i64_i64 w.drew q20 fun a21 n22 c23 i24 i25 i26 => ptrSome z5 fun q27 => rd_l_i64_i64_i64_i64 w.drew q27 fun a28 n29 c30 i31 i32 i33 i34 => view_Part.call [(.agg ⟨[(.slice a28 n29 c30), (.int .i64 i31), (.int .i64 i32), (.int .i64 i33), (.int .i64 i34)]⟩), (.int .i64 (IntKind.i64.wrap (z7 + 1))), (.int .i64 (IntKind.i64.wrap (z7 + 1))), (.int .i64 z10), (.int .i64 z10)] w.drew fun v35 w36 => ∃ (a37 : Option Addr) (n38 c39 : Nat), ∃ i40 : Int, ∃ i41 : Int, ∃ i42 : Int, ∃ i43 : Int, v35 = (.agg ⟨[(.slice a37 n38 c39), (.int .i64 i40), (.int .i64 i41), (.int .i64 i42), (.int .i64 i43)]⟩) ∧ Kept w.drew w36 ∧ ger_Ger.call [(.float .f64 13830554455654793216), (.agg ⟨[(.slice a21 n22 c23), (.int .i64 i24), (.int .i64 i25), (.int .i64 i26)]⟩), (.agg ⟨[(.slice z12p z12n z12c), (.int .i64 0), (.int .i64 z10), (.int .i64 1)]⟩), (.agg ⟨[(.slice a37 n38 c39), (.int .i64 i40), (.int .i64 i41), (.int .i64 i42), (.int .i64 i43)]⟩)] w36 fun v44 w45 => ∃ i46 : Int, v44 = (.int .i64 i46) ∧ h7 z2 z5 z6 z27 (IntKind.i64.wrap (z28 + 1)) w45)
def lu_Factor.H (K : Value → World → Prop) : Nat → (Option Addr → Option Addr → Int → Int → Int → World → Prop) × (Option Addr → Option Addr → Int → Int → Int → Option Addr → Option Addr → Nat → Nat → Int → Int → Int → World → Prop)
  | 0 => (fun _ _ _ _ _ _ => False, fun _ _ _ _ _ _ _ _ _ _ _ _ _ => False)
  | fu + 1 => (lu_Factor.b7 K (lu_Factor.H K fu).1 (lu_Factor.H K fu).2, lu_Factor.b20 K (lu_Factor.H K fu).1 (lu_Factor.H K fu).2)
def lu_Factor.x (fu : Nat) (A0_0p : Option Addr) (A0_0n A0_0c : Nat) (A0_1 : Int) (A0_2 : Int) (A0_3 : Int) (A0_4 : Int) (w : World) (K : Value → World → Prop) : Prop := newB [(.slice A0_0p A0_0n A0_0c), (.int .i64 A0_1), (.int .i64 A0_2), (.int .i64 A0_3), (.int .i64 A0_4)] 24 w fun q1 w2 => newB [(.slice none 0 0), (.int .i64 0), (.int .i64 0), (.int .i64 0), (.int .i64 0), (.slice none 0 0)] 33 w2 fun q3 w4 => rd_l_i64_i64_i64_i64 w4 q1 fun a5 n6 c7 i8 i9 i10 i11 => lu_square.call [(.agg ⟨[(.slice a5 n6 c7), (.int .i64 i8), (.int .i64 i9), (.int .i64 i10), (.int .i64 i11)]⟩)] w4 fun v12 w13 => ∃ (a14 : Option Addr) (n15 c16 : Nat), ∃ i17 : Int, ∃ i18 : Int, ∃ i19 : Int, ∃ i20 : Int, ∃ i21 : Int, v12 = (.tuple ⟨[(.agg ⟨[(.slice a14 n15 c16), (.int .i64 i17), (.int .i64 i18), (.int .i64 i19), (.int .i64 i20)]⟩), (.int .i64 i21)]⟩) ∧ newB [(.slice none 0 0), (.int .i64 0), (.int .i64 0), (.int .i64 0), (.int .i64 0)] 24 w13 fun q22 w23 => stPT q22 0 [(.slice a14 n15 c16), (.int .i64 i17), (.int .i64 i18), (.int .i64 i19), (.int .i64 i20)] w23 fun w24 => br (i21 != 0) (stPT q3 0 [(.slice none 0 0), (.int .i64 0), (.int .i64 0), (.int .i64 0), (.int .i64 0), (.slice none 0 0)] w24 fun w25 => rd_l_i64_i64_i64_i64_l w25 q3 fun a26 n27 c28 i29 i30 i31 i32 a33 n34 c35 => K (.tuple ⟨[(.agg ⟨[(.slice a26 n27 c28), (.int .i64 i29), (.int .i64 i30), (.int .i64 i31), (.int .i64 i32), (.slice a33 n34 c35)]⟩), (.int .i64 0), (.int .i64 i21)]⟩) w25) (rd_i64 w24 (q22.add 2) fun i36 => rd_l_i64_i64_i64_i64 w24 q22 fun a37 n38 c39 i40 i41 i42 i43 => stPT q3 0 [(.slice a37 n38 c39), (.int .i64 i40), (.int .i64 i41), (.int .i64 i42), (.int .i64 i43)] w24 fun w44 => (lu_Factor.H K fu).1 (some q3) (some q22) i36 i36 0 w44)
def lu_Factor.hd (K : Value → World → Prop) (n id : Nat) (t : List Value) (w : World) : Prop :=
  match id with
  | 7 => asP (t.getD 2 undef) fun z2 => asP (t.getD 5 undef) fun z5 => asI .i64 (t.getD 6 undef) fun z6 => asI .i64 (t.getD 27 undef) fun z27 => asI .i64 (t.getD 28 undef) fun z28 => (lu_Factor.H K n).1 z2 z5 z6 z27 z28 w
  | 20 => asP (t.getD 2 undef) fun z2 => asP (t.getD 5 undef) fun z5 => asI .i64 (t.getD 6 undef) fun z6 => asI .i64 (t.getD 7 undef) fun z7 => asI .i64 (t.getD 10 undef) fun z10 => asP (t.getD 11 undef) fun z11 => asL (t.getD 12 undef) fun z12p z12n z12c => asI .i64 (t.getD 13 undef) fun z13 => asI .i64 (t.getD 27 undef) fun z27 => asI .i64 (t.getD 28 undef) fun z28 => (lu_Factor.H K n).2 z2 z5 z6 z7 z10 z11 z12p z12n z12c z13 z27 z28 w
  | _ => False
theorem lu_Factor.t7 (K : Value → World → Prop) (n : Nat) (z2 : Option Addr) (z5 : Option Addr) (z6 : Int) (z27 : Int) (z28 : Int) (u : Nat → Value) (w : World) (h : (lu_Factor.H K (n + 1)).1 z2 z5 z6 z27 z28 w) :
    exT prog [7, 20] (lu_Factor.hd K n) Try.f10 7 100 [(2, (.pointer z2)), (5, (.pointer z5)), (6, (.int .i64 z6)), (27, (.int .i64 z27)), (28, (.int .i64 z28))] u w K := Eq.mp (by kernel_rfl) h
theorem lu_Factor.t20 (K : Value → World → Prop) (n : Nat) (z2 : Option Addr) (z5 : Option Addr) (z6 : Int) (z7 : Int) (z10 : Int) (z11 : Option Addr) (z12p : Option Addr) (z12n z12c : Nat) (z13 : Int) (z27 : Int) (z28 : Int) (u : Nat → Value) (w : World) (h : (lu_Factor.H K (n + 1)).2 z2 z5 z6 z7 z10 z11 z12p z12n z12c z13 z27 z28 w) :
    exT prog [7, 20] (lu_Factor.hd K n) Try.f10 20 100 [(2, (.pointer z2)), (5, (.pointer z5)), (6, (.int .i64 z6)), (7, (.int .i64 z7)), (10, (.int .i64 z10)), (11, (.pointer z11)), (12, (.slice z12p z12n z12c)), (13, (.int .i64 z13)), (27, (.int .i64 z27)), (28, (.int .i64 z28))] u w K := Eq.mp (by kernel_rfl) h
theorem lu_Factor.ok (fu : Nat) {A0_0p : Option Addr} {A0_0n A0_0c : Nat} {A0_1 : Int} {A0_2 : Int} {A0_3 : Int} {A0_4 : Int} {w : World} {K : Value → World → Prop} (h : lu_Factor.x fu A0_0p A0_0n A0_0c A0_1 A0_2 A0_3 A0_4 w K) : lu_Factor.call [(.agg ⟨[(.slice A0_0p A0_0n A0_0c), (.int .i64 A0_1), (.int .i64 A0_2), (.int .i64 A0_3), (.int .i64 A0_4)]⟩)] w K := by
  refine callF_of_ex (cuts := [7, 20]) (H := lu_Factor.hd K) (N := 100) Try.func10 rfl mixed (by kernel_rfl) ?_ ?_ ?_ rfl (n := fu) (Eq.mp (by kernel_rfl) h)
  · intro id hid; simp only [List.mem_cons, List.not_mem_nil, or_false] at hid; rcases hid with rfl | rfl
    · exact (by kernel_rfl : (stacks (bodyOf Try.f10) []).filter (headIs 7) = [at_ (bodyOf Try.f10) 7])
    · exact (by kernel_rfl : (stacks (bodyOf Try.f10) []).filter (headIs 20) = [at_ (bodyOf Try.f10) 20])
  · intro id t w h
    unfold lu_Factor.hd at h
    split at h
    · obtain ⟨z2, _, h⟩ := asP_elim h
      obtain ⟨z5, _, h⟩ := asP_elim h
      obtain ⟨z6, _, h⟩ := asI_elim h
      obtain ⟨z27, _, h⟩ := asI_elim h
      obtain ⟨z28, _, h⟩ := asI_elim h
      exact h
    · obtain ⟨z2, _, h⟩ := asP_elim h
      obtain ⟨z5, _, h⟩ := asP_elim h
      obtain ⟨z6, _, h⟩ := asI_elim h
      obtain ⟨z7, _, h⟩ := asI_elim h
      obtain ⟨z10, _, h⟩ := asI_elim h
      obtain ⟨z11, _, h⟩ := asP_elim h
      obtain ⟨z12p, z12n, z12c, _, h⟩ := asL_elim h
      obtain ⟨z13, _, h⟩ := asI_elim h
      obtain ⟨z27, _, h⟩ := asI_elim h
      obtain ⟨z28, _, h⟩ := asI_elim h
      exact h
    · exact h
  · intro n id hid t w hl h; simp only [List.mem_cons, List.not_mem_nil, or_false] at hid; rcases hid with rfl | rfl
    · replace h : asP (t.getD 2 undef) fun z2 => asP (t.getD 5 undef) fun z5 => asI .i64 (t.getD 6 undef) fun z6 => asI .i64 (t.getD 27 undef) fun z27 => asI .i64 (t.getD 28 undef) fun z28 => (lu_Factor.H K (n + 1)).1 z2 z5 z6 z27 z28 w := h
      obtain ⟨z2, e2, h⟩ := asP_elim h
      obtain ⟨z5, e5, h⟩ := asP_elim h
      obtain ⟨z6, e6, h⟩ := asI_elim h
      obtain ⟨z27, e27, h⟩ := asI_elim h
      obtain ⟨z28, e28, h⟩ := asI_elim h
      rw [mk_of hl [(2, (.pointer z2)), (5, (.pointer z5)), (6, (.int .i64 z6)), (27, (.int .i64 z27)), (28, (.int .i64 z28))] (by simp only [List.forall_mem_cons, List.not_mem_nil, false_implies, implies_true, and_true]; exact ⟨e2, e5, e6, e27, e28⟩)]
      exact lu_Factor.t7 K n z2 z5 z6 z27 z28 _ w h
    · replace h : asP (t.getD 2 undef) fun z2 => asP (t.getD 5 undef) fun z5 => asI .i64 (t.getD 6 undef) fun z6 => asI .i64 (t.getD 7 undef) fun z7 => asI .i64 (t.getD 10 undef) fun z10 => asP (t.getD 11 undef) fun z11 => asL (t.getD 12 undef) fun z12p z12n z12c => asI .i64 (t.getD 13 undef) fun z13 => asI .i64 (t.getD 27 undef) fun z27 => asI .i64 (t.getD 28 undef) fun z28 => (lu_Factor.H K (n + 1)).2 z2 z5 z6 z7 z10 z11 z12p z12n z12c z13 z27 z28 w := h
      obtain ⟨z2, e2, h⟩ := asP_elim h
      obtain ⟨z5, e5, h⟩ := asP_elim h
      obtain ⟨z6, e6, h⟩ := asI_elim h
      obtain ⟨z7, e7, h⟩ := asI_elim h
      obtain ⟨z10, e10, h⟩ := asI_elim h
      obtain ⟨z11, e11, h⟩ := asP_elim h
      obtain ⟨z12p, z12n, z12c, e12, h⟩ := asL_elim h
      obtain ⟨z13, e13, h⟩ := asI_elim h
      obtain ⟨z27, e27, h⟩ := asI_elim h
      obtain ⟨z28, e28, h⟩ := asI_elim h
      rw [mk_of hl [(2, (.pointer z2)), (5, (.pointer z5)), (6, (.int .i64 z6)), (7, (.int .i64 z7)), (10, (.int .i64 z10)), (11, (.pointer z11)), (12, (.slice z12p z12n z12c)), (13, (.int .i64 z13)), (27, (.int .i64 z27)), (28, (.int .i64 z28))] (by simp only [List.forall_mem_cons, List.not_mem_nil, false_implies, implies_true, and_true]; exact ⟨e2, e5, e6, e7, e10, e11, e12, e13, e27, e28⟩)]
      exact lu_Factor.t20 K n z2 z5 z6 z7 z10 z11 z12p z12n z12c z13 z27 z28 _ w h
/-! the same, the local variables taken out -/
def lu_Factor.e7 (K : Value → World → Prop) (h7 : Nat → Option Addr → Nat → Nat → Int → Int → Int → Int → Option Addr → Nat → Nat → Nat → Option Addr → Nat → Nat → Int → Int → Int → Int → Int → Int → Int → World → Prop) (h20 : Nat → Option Addr → Nat → Nat → Int → Int → Int → Int → Option Addr → Nat → Nat → Nat → Option Addr → Nat → Nat → Int → Int → Int → Int → Int → Int → Int → Nat → Option Addr → Nat → Nat → Int → Int → Int → Option Addr → Nat → Nat → Int → Int → Int → World → Prop) (k2 : Nat) (y2_0p : Option Addr) (y2_0n y2_0c : Nat) (y2_1 : Int) (y2_2 : Int) (y2_3 : Int) (y2_4 : Int) (y2_5p : Option Addr) (y2_5n y2_5c : Nat) (k5 : Nat) (y5_0p : Option Addr) (y5_0n y5_0c : Nat) (y5_1 : Int) (y5_2 : Int) (y5_3 : Int) (y5_4 : Int) (z6 : Int) (z27 : Int) (z28 : Int) (w : World) : Prop := br (decide (z28 < z27)) (lu_Pivot.call [(.agg ⟨[(.slice y5_0p y5_0n y5_0c), (.int .i64 y5_1), (.int .i64 y5_2), (.int .i64 y5_3), (.int .i64 y5_4)]⟩), (.int .i64 z28)] w fun v9 w10 => Stay [k2, k5] w w10 ∧ ∃ i11 : Int, ∃ b12 : Bool, v9 = (.tuple ⟨[(.int .i64 i11), (.bool b12)]⟩) ∧ br (!b12) (∀ w14 : World, Exc k2 w10 w14 → K (.tuple ⟨[(.agg ⟨[(.slice (none : Option Addr) (0 : Nat) (0 : Nat)), (.int .i64 (0 : Int)), (.int .i64 (0 : Int)), (.int .i64 (0 : Int)), (.int .i64 (0 : Int)), (.slice (none : Option Addr) (0 : Nat) (0 : Nat))]⟩), (.int .i64 (IntKind.i64.wrap (z28 + 1))), (.int .i64 4)]⟩) w14) (newB [(.int .i64 i11)] 3 w10 fun q30 w31 => Raw prog (Builtin.append_ #[31, 31] 31 ⟨[(.slice y2_5p y2_5n y2_5c), (.slice (some q30) 1 1)]⟩) w31 fun v32 w33 => Stay [k2, k5] w31 w33 ∧ ∃ (a34 : Option Addr) (n35 c36 : Nat), v32 = .slice a34 n35 c36 ∧ ∀ w38 : World, Exc k2 w33 w38 → br ((IntKind.i64.wrap ((IntKind.i64.wrap (z6 - z28)) - 1)) == 0) (∀ w51 : World, Exc k2 w38 w51 → K (.tuple ⟨[(.agg ⟨[(.slice y2_0p y2_0n y2_0c), (.int .i64 y2_1), (.int .i64 y2_2), (.int .i64 y2_3), (.int .i64 y2_4), (.slice a34 n35 c36)]⟩), (.int .i64 0), (.int .i64 0)]⟩) w51) (lu_Column.call [(.agg ⟨[(.slice y5_0p y5_0n y5_0c), (.int .i64 y5_1), (.int .i64 y5_2), (.int .i64 y5_3), (.int .i64 y5_4)]⟩), (.int .i64 z28)] w38 fun v71 w72 => Stay [k2, k5] w38 w72 ∧ ∃ (a73 : Option Addr) (n74 c75 : Nat), ∃ i76 : Int, ∃ i77 : Int, ∃ i78 : Int, v71 = (.agg ⟨[(.slice a73 n74 c75), (.int .i64 i76), (.int .i64 i77), (.int .i64 i78)]⟩) ∧ ∀ (k81 : Nat) (w80 : World), k81 = w72.heap.size → k81 < w80.heap.size → Ext w72 w80 → ∀ w83 : World, Exc k81 w80 w83 → newB [] 38 w83 fun q84 w85 => (0 : Int) ≤ (IntKind.i64.wrap (i76 + i77)) ∧ (IntKind.i64.wrap (i76 + i77)) ≤ ((c75 : Nat) : Int) ∧ (0 : Int) ≤ i76 ∧ i76 ≤ (((Int.toNat (IntKind.i64.wrap (i76 + i77))) : Nat) : Int) ∧ Raw prog (Builtin.append_ #[22, 22] 22 ⟨[(.slice (some q84) 0 0), (.slice (if c75 = (Int.toNat i76) then a73 else a73.map (·.add ((Int.toNat i76) * 1))) ((Int.toNat (IntKind.i64.wrap (i76 + i77))) - (Int.toNat i76)) (c75 - (Int.toNat i76)))]⟩) w85 fun v92 w93 => Stay [k81, k2, k5] w85 w93 ∧ ∃ (a94 : Option Addr) (n95 c96 : Nat), v92 = .slice a94 n95 c96 ∧ ∀ w97 : World, Exc k81 w93 w97 → ∀ w98 : World, Exc k81 w97 w98 → h20 k2 y2_0p y2_0n y2_0c y2_1 y2_2 y2_3 y2_4 a34 n35 c36 k5 y5_0p y5_0n y5_0c y5_1 y5_2 y5_3 y5_4 z6 z28 (IntKind.i64.wrap ((IntKind.i64.wrap (z6 - z28)) - 1)) k81 a94 n95 c96 0 i77 i78 none 0 0 (IntKind.i64.wrap (z28 + 1)) z27 z28 w98))) (∀ w111 : World, Exc k2 w w111 → K (.tuple ⟨[(.agg ⟨[(.slice y2_0p y2_0n y2_0c), (.int .i64 y2_1), (.int .i64 y2_2), (.int .i64 y2_3), (.int .i64 y2_4), (.slice y2_5p y2_5n y2_5c)]⟩), (.int .i64 0), (.int .i64 0)]⟩) w111)
def lu_Factor.e20 (K : Value → World → Prop) (h7 : Nat → Option Addr → Nat → Nat → Int → Int → Int → Int → Option Addr → Nat → Nat → Nat → Option Addr → Nat → Nat → Int → Int → Int → Int → Int → Int → Int → World → Prop) (h20 : Nat → Option Addr → Nat → Nat → Int → Int → Int → Int → Option Addr → Nat → Nat → Nat → Option Addr → Nat → Nat → Int → Int → Int → Int → Int → Int → Int → Nat → Option Addr → Nat → Nat → Int → Int → Int → Option Addr → Nat → Nat → Int → Int → Int → World → Prop) (k2 : Nat) (y2_0p : Option Addr) (y2_0n y2_0c : Nat) (y2_1 : Int) (y2_2 : Int) (y2_3 : Int) (y2_4 : Int) (y2_5p : Option Addr) (y2_5n y2_5c : Nat) (k5 : Nat) (y5_0p : Option Addr) (y5_0n y5_0c : Nat) (y5_1 : Int) (y5_2 : Int) (y5_3 : Int) (y5_4 : Int) (z6 : Int) (z7 : Int) (z10 : Int) (k11 : Nat) (y11_0p : Option Addr) (y11_0n y11_0c : Nat) (y11_1 : Int) (y11_2 : Int) (y11_3 : Int) (z12p : Option Addr) (z12n z12c : Nat) (z13 : Int) (z27 : Int) (z28 : Int) (w : World) : Prop := br (decide (z13 < z6)) (view_At.call [(.agg ⟨[(.slice y5_0p y5_0n y5_0c), (.int .i64 y5_1), (.int .i64 y5_2), (.int .i64 y5_3), (.int .i64 y5_4)]⟩), (.int .i64 z7), (.int .i64 z13)] w fun v9 w10 => Stay [k2, k5, k11] w w10 ∧ ∃ x11 : Nat, v9 = (.float .f64 x11) ∧ newB [(.float .f64 x11)] 38 w10 fun q12 w13 => Raw prog (Builtin.append_ #[22, 22] 22 ⟨[(.slice z12p z12n z12c), (.slice (some q12) 1 1)]⟩) w13 fun v14 w15 => Stay [k2, k5, k11] w13 w15 ∧ ∃ (a16 : Option Addr) (n17 c18 : Nat), v14 = .slice a16 n17 c18 ∧ h20 k2 y2_0p y2_0n y2_0c y2_1 y2_2 y2_3 y2_4 y2_5p y2_5n y2_5c k5 y5_0p y5_0n y5_0c y5_1 y5_2 y5_3 y5_4 z6 z7 z10 k11 y11_0p y11_0n y11_0c y11_1 y11_2 y11_3 a16 n17 c18 (IntKind.i64.wrap (z13 + 1)) z27 z28 w15) (view_Part.call [(.agg ⟨[(.slice y5_0p y5_0n y5_0c), (.int .i64 y5_1), (.int .i64 y5_2), (.int .i64 y5_3), (.int .i64 y5_4)]⟩), (.int .i64 (IntKind.i64.wrap (z7 + 1))), (.int .i64 (IntKind.i64.wrap (z7 + 1))), (.int .i64 z10), (.int .i64 z10)] w.drew fun v35 w36 => Stay [k2, k5, k11] w.drew w36 ∧ ∃ (a37 : Option Addr) (n38 c39 : Nat), ∃ i40 : Int, ∃ i41 : Int, ∃ i42 : Int, ∃ i43 : Int, v35 = (.agg ⟨[(.slice a37 n38 c39), (.int .i64 i40), (.int .i64 i41), (.int .i64 i42), (.int .i64 i43)]⟩) ∧ Kept w.drew w36 ∧ ger_Ger.call [(.float .f64 13830554455654793216), (.agg ⟨[(.slice y11_0p y11_0n y11_0c), (.int .i64 y11_1), (.int .i64 y11_2), (.int .i64 y11_3)]⟩), (.agg ⟨[(.slice z12p z12n z12c), (.int .i64 0), (.int .i64 z10), (.int .i64 1)]⟩), (.agg ⟨[(.slice a37 n38 c39), (.int .i64 i40), (.int .i64 i41), (.int .i64 i42), (.int .i64 i43)]⟩)] w36 fun v44 w45 => Stay [k2, k5, k11] w36 w45 ∧ ∃ i46 : Int, v44 = (.int .i64 i46) ∧ h7 k2 y2_0p y2_0n y2_0c y2_1 y2_2 y2_3 y2_4 y2_5p y2_5n y2_5c k5 y5_0p y5_0n y5_0c y5_1 y5_2 y5_3 y5_4 z6 z27 (IntKind.i64.wrap (z28 + 1)) w45)
def lu_Factor.I (K : Value → World → Prop) : Nat → (Nat → Option Addr → Nat → Nat → Int → Int → Int → Int → Option Addr → Nat → Nat → Nat → Option Addr → Nat → Nat → Int → Int → Int → Int → Int → Int → Int → World → Prop) × (Nat → Option Addr → Nat → Nat → Int → Int → Int → Int → Option Addr → Nat → Nat → Nat → Option Addr → Nat → Nat → Int → Int → Int → Int → Int → Int → Int → Nat → Option Addr → Nat → Nat → Int → Int → Int → Option Addr → Nat → Nat → Int → Int → Int → World → Prop)
  | 0 => (fun _ _ _ _ _ _ _ _ _ _ _ _ _ _ _ _ _ _ _ _ _ _ _ => False, fun _ _ _ _ _ _ _ _ _ _ _ _ _ _ _ _ _ _ _ _ _ _ _ _ _ _ _ _ _ _ _ _ _ _ _ _ => False)
  | fu + 1 => (lu_Factor.e7 K (lu_Factor.I K fu).1 (lu_Factor.I K fu).2, lu_Factor.e20 K (lu_Factor.I K fu).1 (lu_Factor.I K fu).2)
def lu_Factor.s (fu : Nat) (A0_0p : Option Addr) (A0_0n A0_0c : Nat) (A0_1 : Int) (A0_2 : Int) (A0_3 : Int) (A0_4 : Int) (w : World) (K : Value → World → Prop) : Prop := ∀ (k3 : Nat) (w2 : World), k3 = w.heap.size → k3 < w2.heap.size → Ext w w2 → ∀ (k7 : Nat) (w6 : World), k7 = w2.heap.size → k7 < w6.heap.size → Ext w2 w6 → lu_square.call [(.agg ⟨[(.slice A0_0p A0_0n A0_0c), (.int .i64 A0_1), (.int .i64 A0_2), (.int .i64 A0_3), (.int .i64 A0_4)]⟩)] w6 fun v16 w17 => Stay [k7, k3] w6 w17 ∧ ∃ (a18 : Option Addr) (n19 c20 : Nat), ∃ i21 : Int, ∃ i22 : Int, ∃ i23 : Int, ∃ i24 : Int, ∃ i25 : Int, v16 = (.tuple ⟨[(.agg ⟨[(.slice a18 n19 c20), (.int .i64 i21), (.int .i64 i22), (.int .i64 i23), (.int .i64 i24)]⟩), (.int .i64 i25)]⟩) ∧ ∀ (k28 : Nat) (w27 : World), k28 = w17.heap.size → k28 < w27.heap.size → Ext w17 w27 → ∀ w30 : World, Exc k28 w27 w30 → br (i25 != 0) (∀ w31 : World, Exc k7 w30 w31 → K (.tuple ⟨[(.agg ⟨[(.slice (none : Option Addr) (0 : Nat) (0 : Nat)), (.int .i64 (0 : Int)), (.int .i64 (0 : Int)), (.int .i64 (0 : Int)), (.int .i64 (0 : Int)), (.slice (none : Option Addr) (0 : Nat) (0 : Nat))]⟩), (.int .i64 0), (.int .i64 i25)]⟩) w31) (∀ w50 : World, Exc k7 w30 w50 → (lu_Factor.I K fu).1 k7 a18 n19 c20 i21 i22 i23 i24 none 0 0 k28 a18 n19 c20 i21 i22 i23 i24 i22 i22 0 w50)
theorem lu_Factor.b7_s {K : Value → World → Prop} {x7 : Option Addr → Option Addr → Int → Int → Int → World → Prop} {x20 : Option Addr → Option Addr → Int → Int → Int → Option Addr → Option Addr → Nat → Nat → Int → Int → Int → World → Prop} {s7 : Nat → Option Addr → Nat → Nat → Int → Int → Int → Int → Option Addr → Nat → Nat → Nat → Option Addr → Nat → Nat → Int → Int → Int → Int → Int → Int → Int → World → Prop} {s20 : Nat → Option Addr → Nat → Nat → Int → Int → Int → Int → Option Addr → Nat → Nat → Nat → Option Addr → Nat → Nat → Int → Int → Int → Int → Int → Int → Int → Nat → Option Addr → Nat → Nat → Int → Int → Int → Option Addr → Nat → Nat → Int → Int → Int → World → Prop} (i7 : ∀ {q2 : Addr} {y2_0p : Option Addr} {y2_0n y2_0c : Nat} {y2_1 : Int} {y2_2 : Int} {y2_3 : Int} {y2_4 : Int} {y2_5p : Option Addr} {y2_5n y2_5c : Nat} {q5 : Addr} {y5_0p : Option Addr} {y5_0n y5_0c : Nat} {y5_1 : Int} {y5_2 : Int} {y5_3 : Int} {y5_4 : Int} {z6 : Int} {z27 : Int} {z28 : Int} {w : World}, s7 q2.block y2_0p y2_0n y2_0c y2_1 y2_2 y2_3 y2_4 y2_5p y2_5n y2_5c q5.block y5_0p y5_0n y5_0c y5_1 y5_2 y5_3 y5_4 z6 z27 z28 w → St w [(q2, [(.slice y2_0p y2_0n y2_0c), (.int .i64 y2_1), (.int .i64 y2_2), (.int .i64 y2_3), (.int .i64 y2_4), (.slice y2_5p y2_5n y2_5c)]), (q5, [(.slice y5_0p y5_0n y5_0c), (.int .i64 y5_1), (.int .i64 y5_2), (.int .i64 y5_3), (.int .i64 y5_4)])] → x7 (some q2) (some q5) z6 z27 z28 w) (i20 : ∀ {q2 : Addr} {y2_0p : Option Addr} {y2_0n y2_0c : Nat} {y2_1 : Int} {y2_2 : Int} {y2_3 : Int} {y2_4 : Int} {y2_5p : Option Addr} {y2_5n y2_5c : Nat} {q5 : Addr} {y5_0p : Option Addr} {y5_0n y5_0c : Nat} {y5_1 : Int} {y5_2 : Int} {y5_3 : Int} {y5_4 : Int} {z6 : Int} {z7 : Int} {z10 : Int} {q11 : Addr} {y11_0p : Option Addr} {y11_0n y11_0c : Nat} {y11_1 : Int} {y11_2 : Int} {y11_3 : Int} {z12p : Option Addr} {z12n z12c : Nat} {z13 : Int} {z27 : Int} {z28 : Int} {w : World}, s20 q2.block y2_0p y2_0n y2_0c y2_1 y2_2 y2_3 y2_4 y2_5p y2_5n y2_5c q5.block y5_0p y5_0n y5_0c y5_1 y5_2 y5_3 y5_4 z6 z7 z10 q11.block y11_0p y11_0n y11_0c y11_1 y11_2 y11_3 z12p z12n z12c z13 z27 z28 w → St w [(q2, [(.slice y2_0p y2_0n y2_0c), (.int .i64 y2_1), (.int .i64 y2_2), (.int .i64 y2_3), (.int .i64 y2_4), (.slice y2_5p y2_5n y2_5c)]), (q5, [(.slice y5_0p y5_0n y5_0c), (.int .i64 y5_1), (.int .i64 y5_2), (.int .i64 y5_3), (.int .i64 y5_4)]), (q11, [(.slice y11_0p y11_0n y11_0c), (.int .i64 y11_1), (.int .i64 y11_2), (.int .i64 y11_3)])] → x20 (some q2) (some q5) z6 z7 z10 (some q11) z12p z12n z12c z13 z27 z28 w) {q2 : Addr} {y2_0p : Option Addr} {y2_0n y2_0c : Nat} {y2_1 : Int} {y2_2 : Int} {y2_3 : Int} {y2_4 : Int} {y2_5p : Option Addr} {y2_5n y2_5c : Nat} {q5 : Addr} {y5_0p : Option Addr} {y5_0n y5_0c : Nat} {y5_1 : Int} {y5_2 : Int} {y5_3 : Int} {y5_4 : Int} {z6 : Int} {z27 : Int} {z28 : Int} {w : World} (h : lu_Factor.e7 K s7 s20 q2.block y2_0p y2_0n y2_0c y2_1 y2_2 y2_3 y2_4 y2_5p y2_5n y2_5c q5.block y5_0p y5_0n y5_0c y5_1 y5_2 y5_3 y5_4 z6 z27 z28 w) (st : St w [(q2, [(.slice y2_0p y2_0n y2_0c), (.int .i64 y2_1), (.int .i64 y2_2), (.int .i64 y2_3), (.int .i64 y2_4), (.slice y2_5p y2_5n y2_5c)]), (q5, [(.slice y5_0p y5_0n y5_0c), (.int .i64 y5_1), (.int .i64 y5_2), (.int .i64 y5_3), (.int .i64 y5_4)])]) : lu_Factor.b7 K x7 x20 (some q2) (some q5) z6 z27 z28 w := by
  unfold lu_Factor.b7
  unfold lu_Factor.e7 at h
  refine br_mono (fun h => ?_) (fun h => ?_) h
  · refine ptrSome_intro rfl ?_
    refine rd_l_i64_i64_i64_i64.bx 1 0 st rfl rfl rfl rfl rfl rfl rfl ?_
    refine CallF.mono h (fun v9 w10 h => ?_)
    obtain ⟨hK, h⟩ := h
    replace st := st.stay hK
    obtain ⟨i11, b12, h⟩ := h
    refine ⟨i11, b12, ?_⟩
    refine And.imp_right (fun h => ?_) h
    refine br_mono (fun h => ?_) (fun h => ?_) h
    · refine ptrSome_intro rfl ?_
      refine St.put 0 0 st rfl rfl rfl rfl (fun w14 he st => ?_)
      replace h := h w14 he
      refine ptrSome_intro rfl ?_
      refine rd_l_i64_i64_i64_i64_l.bx 0 0 st rfl rfl rfl rfl rfl rfl rfl rfl ?_
      exact h
    · refine ptrSome_intro rfl ?_
      refine rd_l.bx 0 5 st rfl rfl rfl ?_
      refine newB_mono st h (fun q30 w31 st h => ?_)
      refine Raw.mono h (fun v32 w33 h => ?_)
      obtain ⟨hK, h⟩ := h
      replace st := st.stay hK
      obtain ⟨a34, n35, c36, h⟩ := h
      refine ⟨a34, n35, c36, ?_⟩
      refine And.imp_right (fun h => ?_) h
      refine ptrSome_intro rfl ?_
      refine St.put 0 5 st rfl rfl rfl rfl (fun w38 he st => ?_)
      replace h := h w38 he
      refine br_mono (fun h => ?_) (fun h => ?_) h
      · refine ptrSome_intro rfl ?_
        refine rd_l_i64_i64_i64_i64_l.bx 0 0 st rfl rfl rfl rfl rfl rfl rfl rfl ?_
        refine ptrSome_intro rfl ?_
        refine St.put 0 0 st rfl rfl rfl rfl (fun w51 he st => ?_)
        replace h := h w51 he
        refine ptrSome_intro rfl ?_
        refine rd_l_i64_i64_i64_i64_l.bx 0 0 st rfl rfl rfl rfl rfl rfl rfl rfl ?_
        exact h
      · refine ptrSome_intro rfl ?_
        refine rd_l_i64_i64_i64_i64.bx 1 0 st rfl rfl rfl rfl rfl rfl rfl ?_
        refine CallF.mono h (fun v71 w72 h => ?_)
        obtain ⟨hK, h⟩ := h
        replace st := st.stay hK
        obtain ⟨a73, n74, c75, i76, i77, i78, h⟩ := h
        refine ⟨a73, n74, c75, i76, i77, i78, ?_⟩
        refine And.imp_right (fun h => ?_) h
        refine St.new st (fun q79 w80 hk hlt he st => ?_)
        replace h := h q79.block w80 hk hlt he
        refine St.put 0 0 st rfl rfl rfl rfl (fun w83 he st => ?_)
        replace h := h w83 he
        refine newB_mono st h (fun q84 w85 st h => ?_)
        refine rd_l.bx 0 0 st rfl rfl rfl ?_
        refine rd_i64.bx 0 1 st rfl rfl rfl ?_
        refine rd_i64.bx 0 1 st rfl rfl rfl ?_
        refine rd_i64.bx 0 2 st rfl rfl rfl ?_
        refine And.imp_right (fun h => ?_) h
        refine And.imp_right (fun h => ?_) h
        refine And.imp_right (fun h => ?_) h
        refine And.imp_right (fun h => ?_) h
        refine Raw.mono h (fun v92 w93 h => ?_)
        obtain ⟨hK, h⟩ := h
        replace st := st.stay hK
        obtain ⟨a94, n95, c96, h⟩ := h
        refine ⟨a94, n95, c96, ?_⟩
        refine And.imp_right (fun h => ?_) h
        refine St.put 0 0 st rfl rfl rfl rfl (fun w97 he st => ?_)
        replace h := h w97 he
        refine St.put 0 1 st rfl rfl rfl rfl (fun w98 he st => ?_)
        replace h := h w98 he
        exact i20 h (st.pick [1, 2, 0] (by decide))
  · refine ptrSome_intro rfl ?_
    refine rd_l_i64_i64_i64_i64_l.bx 0 0 st rfl rfl rfl rfl rfl rfl rfl rfl ?_
    refine ptrSome_intro rfl ?_
    refine St.put 0 0 st rfl rfl rfl rfl (fun w111 he st => ?_)
    replace h := h w111 he
    refine ptrSome_intro rfl ?_
    refine rd_l_i64_i64_i64_i64_l.bx 0 0 st rfl rfl rfl rfl rfl rfl rfl rfl ?_
    exact h
theorem lu_Factor.b20_s {K : Value → World → Prop} {x7 : Option Addr → Option Addr → Int → Int → Int → World → Prop} {x20 : Option Addr → Option Addr → Int → Int → Int → Option Addr → Option Addr → Nat → Nat → Int → Int → Int → World → Prop} {s7 : Nat → Option Addr → Nat → Nat → Int → Int → Int → Int → Option Addr → Nat → Nat → Nat → Option Addr → Nat → Nat → Int → Int → Int → Int → Int → Int → Int → World → Prop} {s20 : Nat → Option Addr → Nat → Nat → Int → Int → Int → Int → Option Addr → Nat → Nat → Nat → Option Addr → Nat → Nat → Int → Int → Int → Int → Int → Int → Int → Nat → Option Addr → Nat → Nat → Int → Int → Int → Option Addr → Nat → Nat → Int → Int → Int → World → Prop} (i7 : ∀ {q2 : Addr} {y2_0p : Option Addr} {y2_0n y2_0c : Nat} {y2_1 : Int} {y2_2 : Int} {y2_3 : Int} {y2_4 : Int} {y2_5p : Option Addr} {y2_5n y2_5c : Nat} {q5 : Addr} {y5_0p : Option Addr} {y5_0n y5_0c : Nat} {y5_1 : Int} {y5_2 : Int} {y5_3 : Int} {y5_4 : Int} {z6 : Int} {z27 : Int} {z28 : Int} {w : World}, s7 q2.block y2_0p y2_0n y2_0c y2_1 y2_2 y2_3 y2_4 y2_5p y2_5n y2_5c q5.block y5_0p y5_0n y5_0c y5_1 y5_2 y5_3 y5_4 z6 z27 z28 w → St w [(q2, [(.slice y2_0p y2_0n y2_0c), (.int .i64 y2_1), (.int .i64 y2_2), (.int .i64 y2_3), (.int .i64 y2_4), (.slice y2_5p y2_5n y2_5c)]), (q5, [(.slice y5_0p y5_0n y5_0c), (.int .i64 y5_1), (.int .i64 y5_2), (.int .i64 y5_3), (.int .i64 y5_4)])] → x7 (some q2) (some q5) z6 z27 z28 w) (i20 : ∀ {q2 : Addr} {y2_0p : Option Addr} {y2_0n y2_0c : Nat} {y2_1 : Int} {y2_2 : Int} {y2_3 : Int} {y2_4 : Int} {y2_5p : Option Addr} {y2_5n y2_5c : Nat} {q5 : Addr} {y5_0p : Option Addr} {y5_0n y5_0c : Nat} {y5_1 : Int} {y5_2 : Int} {y5_3 : Int} {y5_4 : Int} {z6 : Int} {z7 : Int} {z10 : Int} {q11 : Addr} {y11_0p : Option Addr} {y11_0n y11_0c : Nat} {y11_1 : Int} {y11_2 : Int} {y11_3 : Int} {z12p : Option Addr} {z12n z12c : Nat} {z13 : Int} {z27 : Int} {z28 : Int} {w : World}, s20 q2.block y2_0p y2_0n y2_0c y2_1 y2_2 y2_3 y2_4 y2_5p y2_5n y2_5c q5.block y5_0p y5_0n y5_0c y5_1 y5_2 y5_3 y5_4 z6 z7 z10 q11.block y11_0p y11_0n y11_0c y11_1 y11_2 y11_3 z12p z12n z12c z13 z27 z28 w → St w [(q2, [(.slice y2_0p y2_0n y2_0c), (.int .i64 y2_1), (.int .i64 y2_2), (.int .i64 y2_3), (.int .i64 y2_4), (.slice y2_5p y2_5n y2_5c)]), (q5, [(.slice y5_0p y5_0n y5_0c), (.int .i64 y5_1), (.int .i64 y5_2), (.int .i64 y5_3), (.int .i64 y5_4)]), (q11, [(.slice y11_0p y11_0n y11_0c), (.int .i64 y11_1), (.int .i64 y11_2), (.int .i64 y11_3)])] → x20 (some q2) (some q5) z6 z7 z10 (some q11) z12p z12n z12c z13 z27 z28 w) {q2 : Addr} {y2_0p : Option Addr} {y2_0n y2_0c : Nat} {y2_1 : Int} {y2_2 : Int} {y2_3 : Int} {y2_4 : Int} {y2_5p : Option Addr} {y2_5n y2_5c : Nat} {q5 : Addr} {y5_0p : Option Addr} {y5_0n y5_0c : Nat} {y5_1 : Int} {y5_2 : Int} {y5_3 : Int} {y5_4 : Int} {z6 : Int} {z7 : Int} {z10 : Int} {q11 : Addr} {y11_0p : Option Addr} {y11_0n y11_0c : Nat} {y11_1 : Int} {y11_2 : Int} {y11_3 : Int} {z12p : Option Addr} {z12n z12c : Nat} {z13 : Int} {z27 : Int} {z28 : Int} {w : World} (h : lu_Factor.e20 K s7 s20 q2.block y2_0p y2_0n y2_0c y2_1 y2_2 y2_3 y2_4 y2_5p y2_5n y2_5c q5.block y5_0p y5_0n y5_0c y5_1 y5_2 y5_3 y5_4 z6 z7 z10 q11.block y11_0p y11_0n y11_0c y11_1 y11_2 y11_3 z12p z12n z12c z13 z27 z28 w) (st : St w [(q2, [(.slice y2_0p y2_0n y2_0c), (.int .i64 y2_1), (.int .i64 y2_2), (.int .i64 y2_3), (.int .i64 y2_4), (.slice y2_5p y2_5n y2_5c)]), (q5, [(.slice y5_0p y5_0n y5_0c), (.int .i64 y5_1), (.int .i64 y5_2), (.int .i64 y5_3), (.int .i64 y5_4)]), (q11, [(.slice y11_0p y11_0n y11_0c), (.int .i64 y11_1), (.int .i64 y11_2), (.int .i64 y11_3)])]) : lu_Factor.b20 K x7 x20 (some q2) (some q5) z6 z7 z10 (some q11) z12p z12n z12c z13 z27 z28 w := by
  unfold lu_Factor.b20
  unfold lu_Factor.e20 at h
  refine br_mono (fun h => ?_) (fun h => ?_) h
  · refine ptrSome_intro rfl ?_
    refine rd_l_i64_i64_i64_i64.bx 1 0 st rfl rfl rfl rfl rfl rfl rfl ?_
    refine CallF.mono h (fun v9 w10 h => ?_)
    obtain ⟨hK, h⟩ := h
    replace st := st.stay hK
    obtain ⟨x11, h⟩ := h
    refine ⟨x11, ?_⟩
    refine And.imp_right (fun h => ?_) h
    refine newB_mono st h (fun q12 w13 st h => ?_)
    refine Raw.mono h (fun v14 w15 h => ?_)
    obtain ⟨hK, h⟩ := h
    replace st := st.stay hK
    obtain ⟨a16, n17, c18, h⟩ := h
    refine ⟨a16, n17, c18, ?_⟩
    refine And.imp_right (fun h => ?_) h
    exact i20 h (st.pick [0, 1, 2] (by decide))
  · replace st := st.drew
    have st19 := st
    refine ptrSome_intro rfl ?_
    refine rd_l_i64_i64_i64.bx 2 0 st19 rfl rfl rfl rfl rfl rfl ?_
    refine ptrSome_intro rfl ?_
    refine rd_l_i64_i64_i64_i64.bx 1 0 st19 rfl rfl rfl rfl rfl rfl rfl ?_
    refine CallF.mono h (fun v35 w36 h => ?_)
    obtain ⟨hK, h⟩ := h
    replace st := st.stay hK
    obtain ⟨a37, n38, c39, i40, i41, i42, i43, h⟩ := h
    refine ⟨a37, n38, c39, i40, i41, i42, i43, ?_⟩
    refine And.imp_right (fun h => ?_) h
    refine And.imp_right (fun h => ?_) h
    refine CallF.mono h (fun v44 w45 h => ?_)
    obtain ⟨hK, h⟩ := h
    replace st := st.stay hK
    obtain ⟨i46, h⟩ := h
    refine ⟨i46, ?_⟩
    refine And.imp_right (fun h => ?_) h
    exact i7 h (st.pick [0, 1] (by decide))
theorem lu_Factor.H_s {K : Value → World → Prop} (fu : Nat) : (∀ {q2 : Addr} {y2_0p : Option Addr} {y2_0n y2_0c : Nat} {y2_1 : Int} {y2_2 : Int} {y2_3 : Int} {y2_4 : Int} {y2_5p : Option Addr} {y2_5n y2_5c : Nat} {q5 : Addr} {y5_0p : Option Addr} {y5_0n y5_0c : Nat} {y5_1 : Int} {y5_2 : Int} {y5_3 : Int} {y5_4 : Int} {z6 : Int} {z27 : Int} {z28 : Int} {w : World}, (lu_Factor.I K fu).1 q2.block y2_0p y2_0n y2_0c y2_1 y2_2 y2_3 y2_4 y2_5p y2_5n y2_5c q5.block y5_0p y5_0n y5_0c y5_1 y5_2 y5_3 y5_4 z6 z27 z28 w → St w [(q2, [(.slice y2_0p y2_0n y2_0c), (.int .i64 y2_1), (.int .i64 y2_2), (.int .i64 y2_3), (.int .i64 y2_4), (.slice y2_5p y2_5n y2_5c)]), (q5, [(.slice y5_0p y5_0n y5_0c), (.int .i64 y5_1), (.int .i64 y5_2), (.int .i64 y5_3), (.int .i64 y5_4)])] → (lu_Factor.H K fu).1 (some q2) (some q5) z6 z27 z28 w) ∧ (∀ {q2 : Addr} {y2_0p : Option Addr} {y2_0n y2_0c : Nat} {y2_1 : Int} {y2_2 : Int} {y2_3 : Int} {y2_4 : Int} {y2_5p : Option Addr} {y2_5n y2_5c : Nat} {q5 : Addr} {y5_0p : Option Addr} {y5_0n y5_0c : Nat} {y5_1 : Int} {y5_2 : Int} {y5_3 : Int} {y5_4 : Int} {z6 : Int} {z7 : Int} {z10 : Int} {q11 : Addr} {y11_0p : Option Addr} {y11_0n y11_0c : Nat} {y11_1 : Int} {y11_2 : Int} {y11_3 : Int} {z12p : Option Addr} {z12n z12c : Nat} {z13 : Int} {z27 : Int} {z28 : Int} {w : World}, (lu_Factor.I K fu).2 q2.block y2_0p y2_0n y2_0c y2_1 y2_2 y2_3 y2_4 y2_5p y2_5n y2_5c q5.block y5_0p y5_0n y5_0c y5_1 y5_2 y5_3 y5_4 z6 z7 z10 q11.block y11_0p y11_0n y11_0c y11_1 y11_2 y11_3 z12p z12n z12c z13 z27 z28 w → St w [(q2, [(.slice y2_0p y2_0n y2_0c), (.int .i64 y2_1), (.int .i64 y2_2), (.int .i64 y2_3), (.int .i64 y2_4), (.slice y2_5p y2_5n y2_5c)]), (q5, [(.slice y5_0p y5_0n y5_0c), (.int .i64 y5_1), (.int .i64 y5_2), (.int .i64 y5_3), (.int .i64 y5_4)]), (q11, [(.slice y11_0p y11_0n y11_0c), (.int .i64 y11_1), (.int .i64 y11_2), (.int .i64 y11_3)])] → (lu_Factor.H K fu).2 (some q2) (some q5) z6 z7 z10 (some q11) z12p z12n z12c z13 z27 z28 w) := by
  induction fu with
  | zero => exact ⟨fun h _ => False.elim h, fun h _ => False.elim h⟩
  | succ fu ih => exact ⟨fun h st => lu_Factor.b7_s (K := K) (x7 := (lu_Factor.H K fu).1) (s7 := (lu_Factor.I K fu).1) (x20 := (lu_Factor.H K fu).2) (s20 := (lu_Factor.I K fu).2) ih.1 ih.2 h st, fun h st => lu_Factor.b20_s (K := K) (x7 := (lu_Factor.H K fu).1) (s7 := (lu_Factor.I K fu).1) (x20 := (lu_Factor.H K fu).2) (s20 := (lu_Factor.I K fu).2) ih.1 ih.2 h st⟩
theorem lu_Factor.os (fu : Nat) {A0_0p : Option Addr} {A0_0n A0_0c : Nat} {A0_1 : Int} {A0_2 : Int} {A0_3 : Int} {A0_4 : Int} {w : World} {K : Value → World → Prop} (h : lu_Factor.s fu A0_0p A0_0n A0_0c A0_1 A0_2 A0_3 A0_4 w K) : lu_Factor.call [(.agg ⟨[(.slice A0_0p A0_0n A0_0c), (.int .i64 A0_1), (.int .i64 A0_2), (.int .i64 A0_3), (.int .i64 A0_4)]⟩)] w K := by
  refine lu_Factor.ok fu ?_
  have st := St.nil w
  unfold lu_Factor.x
  unfold lu_Factor.s at h
  refine St.new (St.nil _) (fun q1 w2 hk hlt he st => ?_)
  replace h := h q1.block w2 hk hlt he
  refine St.new st (fun q5 w6 hk hlt he st => ?_)
  replace h := h q5.block w6 hk hlt he
  refine rd_l_i64_i64_i64_i64.bx 1 0 st rfl rfl rfl rfl rfl rfl rfl ?_
  refine CallF.mono h (fun v16 w17 h => ?_)
  obtain ⟨hK, h⟩ := h
  replace st := st.stay hK
  obtain ⟨a18, n19, c20, i21, i22, i23, i24, i25, h⟩ := h
  refine ⟨a18, n19, c20, i21, i22, i23, i24, i25, ?_⟩
  refine And.imp_right (fun h => ?_) h
  refine St.new st (fun q26 w27 hk hlt he st => ?_)
  replace h := h q26.block w27 hk hlt he
  refine St.put 0 0 st rfl rfl rfl rfl (fun w30 he st => ?_)
  replace h := h w30 he
  refine br_mono (fun h => ?_) (fun h => ?_) h
  · refine St.put 1 0 st rfl rfl rfl rfl (fun w31 he st => ?_)
    replace h := h w31 he
    refine rd_l_i64_i64_i64_i64_l.bx 1 0 st rfl rfl rfl rfl rfl rfl rfl rfl ?_
    exact h
  · refine rd_i64.bx 0 2 st rfl rfl rfl ?_
    refine rd_l_i64_i64_i64_i64.bx 0 0 st rfl rfl rfl rfl rfl rfl rfl ?_
    refine St.put 1 0 st rfl rfl rfl rfl (fun w50 he st => ?_)
    replace h := h w50 he
    exact (lu_Factor.H_s fu).1 h (st.pick [1, 0] (by decide))

/-! ### straightedge/lu.square: function 32 -/
def lu_square.x (A0_0p : Option Addr) (A0_0n A0_0c : Nat) (A0_1 : Int) (A0_2 : Int) (A0_3 : Int) (A0_4 : Int) (w : World) (K : Value → World → Prop) : Prop := newB [(.slice A0_0p A0_0n A0_0c), (.int .i64 A0_1), (.int .i64 A0_2), (.int .i64 A0_3), (.int .i64 A0_4)] 24 w fun q1 w2 => newB [(.slice none 0 0), (.int .i64 0), (.int .i64 0), (.int .i64 0), (.int .i64 0)] 24 w2 fun q3 w4 => rd_l_i64_i64_i64_i64 w4 q1 fun a5 n6 c7 i8 i9 i10 i11 => view_Good.call [(.agg ⟨[(.slice a5 n6 c7), (.int .i64 i8), (.int .i64 i9), (.int .i64 i10), (.int .i64 i11)]⟩)] w4 fun v12 w13 => ∃ b14 : Bool, v12 = (.bool b14) ∧ br (!b14) (stPT q3 0 [(.slice none 0 0), (.int .i64 0), (.int .i64 0), (.int .i64 0), (.int .i64 0)] w13 fun w15 => rd_l_i64_i64_i64_i64 w15 q3 fun a16 n17 c18 i19 i20 i21 i22 => K (.tuple ⟨[(.agg ⟨[(.slice a16 n17 c18), (.int .i64 i19), (.int .i64 i20), (.int .i64 i21), (.int .i64 i22)]⟩), (.int .i64 1)]⟩) w15) (rd_i64 w13 (q1.add 2) fun i23 => rd_i64 w13 (q1.add 3) fun i24 => br (i23 != i24) (stPT q3 0 [(.slice none 0 0), (.int .i64 0), (.int .i64 0), (.int .i64 0), (.int .i64 0)] w13 fun w25 => rd_l_i64_i64_i64_i64 w25 q3 fun a26 n27 c28 i29 i30 i31 i32 => K (.tuple ⟨[(.agg ⟨[(.slice a26 n27 c28), (.int .i64 i29), (.int .i64 i30), (.int .i64 i31), (.int .i64 i32)]⟩), (.int .i64 3)]⟩) w25) (rd_l_i64_i64_i64_i64 w13 q1 fun a33 n34 c35 i36 i37 i38 i39 => move_Clone.call [(.agg ⟨[(.slice a33 n34 c35), (.int .i64 i36), (.int .i64 i37), (.int .i64 i38), (.int .i64 i39)]⟩)] w13 fun v40 w41 => ∃ (a42 : Option Addr) (n43 c44 : Nat), ∃ i45 : Int, ∃ i46 : Int, ∃ i47 : Int, ∃ i48 : Int, ∃ i49 : Int, v40 = (.tuple ⟨[(.agg ⟨[(.slice a42 n43 c44), (.int .i64 i45), (.int .i64 i46), (.int .i64 i47), (.int .i64 i48)]⟩), (.int .i64 i49)]⟩) ∧ stPT q3 0 [(.slice a42 n43 c44), (.int .i64 i45), (.int .i64 i46), (.int .i64 i47), (.int .i64 i48)] w41 fun w50 => rd_l_i64_i64_i64_i64 w50 q3 fun a51 n52 c53 i54 i55 i56 i57 => K (.tuple ⟨[(.agg ⟨[(.slice a51 n52 c53), (.int .i64 i54), (.int .i64 i55), (.int .i64 i56), (.int .i64 i57)]⟩), (.int .i64 i49)]⟩) w50))
theorem lu_square.ok {A0_0p : Option Addr} {A0_0n A0_0c : Nat} {A0_1 : Int} {A0_2 : Int} {A0_3 : Int} {A0_4 : Int} {w : World} {K : Value → World → Prop} (h : lu_square.x A0_0p A0_0n A0_0c A0_1 A0_2 A0_3 A0_4 w K) : lu_square.call [(.agg ⟨[(.slice A0_0p A0_0n A0_0c), (.int .i64 A0_1), (.int .i64 A0_2), (.int .i64 A0_3), (.int .i64 A0_4)]⟩)] w K :=
  callF_of_ex0 (f := Try.f32) Try.func32 rfl mixed (by kernel_rfl) (Eq.mp (by kernel_rfl) h)
/-! the same, the local variables taken out -/
def lu_square.s (A0_0p : Option Addr) (A0_0n A0_0c : Nat) (A0_1 : Int) (A0_2 : Int) (A0_3 : Int) (A0_4 : Int) (w : World) (K : Value → World → Prop) : Prop := ∀ (k3 : Nat) (w2 : World), k3 = w.heap.size → k3 < w2.heap.size → Ext w w2 → ∀ (k7 : Nat) (w6 : World), k7 = w2.heap.size → k7 < w6.heap.size → Ext w2 w6 → view_Good.call [(.agg ⟨[(.slice A0_0p A0_0n A0_0c), (.int .i64 A0_1), (.int .i64 A0_2), (.int .i64 A0_3), (.int .i64 A0_4)]⟩)] w6 fun v16 w17 => Stay [k7, k3] w6 w17 ∧ ∃ b18 : Bool, v16 = (.bool b18) ∧ br (!b18) (∀ w19 : World, Exc k7 w17 w19 → K (.tuple ⟨[(.agg ⟨[(.slice (none : Option Addr) (0 : Nat) (0 : Nat)), (.int .i64 (0 : Int)), (.int .i64 (0 : Int)), (.int .i64 (0 : Int)), (.int .i64 (0 : Int))]⟩), (.int .i64 1)]⟩) w19) (br (A0_2 != A0_3) (∀ w29 : World, Exc k7 w17 w29 → K (.tuple ⟨[(.agg ⟨[(.slice (none : Option Addr) (0 : Nat) (0 : Nat)), (.int .i64 (0 : Int)), (.int .i64 (0 : Int)), (.int .i64 (0 : Int)), (.int .i64 (0 : Int))]⟩), (.int .i64 3)]⟩) w29) (move_Clone.call [(.agg ⟨[(.slice A0_0p A0_0n A0_0c), (.int .i64 A0_1), (.int .i64 A0_2), (.int .i64 A0_3), (.int .i64 A0_4)]⟩)] w17 fun v44 w45 => Stay [k7, k3] w17 w45 ∧ ∃ (a46 : Option Addr) (n47 c48 : Nat), ∃ i49 : Int, ∃ i50 : Int, ∃ i51 : Int, ∃ i52 : Int, ∃ i53 : Int, v44 = (.tuple ⟨[(.agg ⟨[(.slice a46 n47 c48), (.int .i64 i49), (.int .i64 i50), (.int .i64 i51), (.int .i64 i52)]⟩), (.int .i64 i53)]⟩) ∧ ∀ w54 : World, Exc k7 w45 w54 → K (.tuple ⟨[(.agg ⟨[(.slice a46 n47 c48), (.int .i64 i49), (.int .i64 i50), (.int .i64 i51), (.int .i64 i52)]⟩), (.int .i64 i53)]⟩) w54))
theorem lu_square.os {A0_0p : Option Addr} {A0_0n A0_0c : Nat} {A0_1 : Int} {A0_2 : Int} {A0_3 : Int} {A0_4 : Int} {w : World} {K : Value → World → Prop} (h : lu_square.s A0_0p A0_0n A0_0c A0_1 A0_2 A0_3 A0_4 w K) : lu_square.call [(.agg ⟨[(.slice A0_0p A0_0n A0_0c), (.int .i64 A0_1), (.int .i64 A0_2), (.int .i64 A0_3), (.int .i64 A0_4)]⟩)] w K := by
  refine lu_square.ok ?_
  have st := St.nil w
  unfold lu_square.x
  unfold lu_square.s at h
  refine St.new (St.nil _) (fun q1 w2 hk hlt he st => ?_)
  replace h := h q1.block w2 hk hlt he
  refine St.new st (fun q5 w6 hk hlt he st => ?_)
  replace h := h q5.block w6 hk hlt he
  refine rd_l_i64_i64_i64_i64.bx 1 0 st rfl rfl rfl rfl rfl rfl rfl ?_
  refine CallF.mono h (fun v16 w17 h => ?_)
  obtain ⟨hK, h⟩ := h
  replace st := st.stay hK
  obtain ⟨b18, h⟩ := h
  refine ⟨b18, ?_⟩
  refine And.imp_right (fun h => ?_) h
  refine br_mono (fun h => ?_) (fun h => ?_) h
  · refine St.put 0 0 st rfl rfl rfl rfl (fun w19 he st => ?_)
    replace h := h w19 he
    refine rd_l_i64_i64_i64_i64.bx 0 0 st rfl rfl rfl rfl rfl rfl rfl ?_
    exact h
  · refine rd_i64.bx 1 2 st rfl rfl rfl ?_
    refine rd_i64.bx 1 3 st rfl rfl rfl ?_
    refine br_mono (fun h => ?_) (fun h => ?_) h
    · refine St.put 0 0 st rfl rfl rfl rfl (fun w29 he st => ?_)
      replace h := h w29 he
      refine rd_l_i64_i64_i64_i64.bx 0 0 st rfl rfl rfl rfl rfl rfl rfl ?_
      exact h
    · refine rd_l_i64_i64_i64_i64.bx 1 0 st rfl rfl rfl rfl rfl rfl rfl ?_
      refine CallF.mono h (fun v44 w45 h => ?_)
      obtain ⟨hK, h⟩ := h
      replace st := st.stay hK
      obtain ⟨a46, n47, c48, i49, i50, i51, i52, i53, h⟩ := h
      refine ⟨a46, n47, c48, i49, i50, i51, i52, i53, ?_⟩
      refine And.imp_right (fun h => ?_) h
      refine St.put 0 0 st rfl rfl rfl rfl (fun w54 he st => ?_)
      replace h := h w54 he
      refine rd_l_i64_i64_i64_i64.bx 0 0 st rfl rfl rfl rfl rfl rfl rfl ?_
      exact h

/-! ### straightedge/lu.Pivot: function 33 -/
def lu_Pivot.x (A0_0p : Option Addr) (A0_0n A0_0c : Nat) (A0_1 : Int) (A0_2 : Int) (A0_3 : Int) (A0_4 : Int) (A1 : Int) (w : World) (K : Value → World → Prop) : Prop := newB [(.slice A0_0p A0_0n A0_0c), (.int .i64 A0_1), (.int .i64 A0_2), (.int .i64 A0_3), (.int .i64 A0_4)] 24 w fun q1 w2 => rd_l_i64_i64_i64_i64 w2 q1 fun a3 n4 c5 i6 i7 i8 i9 => view_Col.call [(.agg ⟨[(.slice a3 n4 c5), (.int .i64 i6), (.int .i64 i7), (.int .i64 i8), (.int .i64 i9)]⟩), (.int .i64 A1)] w2 fun v10 w11 => ∃ (a12 : Option Addr) (n13 c14 : Nat), ∃ i15 : Int, ∃ i16 : Int, ∃ i17 : Int, v10 = (.agg ⟨[(.slice a12 n13 c14), (.int .i64 i15), (.int .i64 i16), (.int .i64 i17)]⟩) ∧ newB [(.slice none 0 0), (.int .i64 0), (.int .i64 0), (.int .i64 0)] 66 w11 fun q18 w19 => stPT q18 0 [(.slice a12 n13 c14), (.int .i64 i15), (.int .i64 i16), (.int .i64 i17)] w19 fun w20 => rd_i64 w20 (q18.add 1) fun i21 => stPT (q18.add 1) 0 [(.int .i64 (IntKind.i64.wrap (i21 + A1)))] w20 fun w22 => rd_i64 w22 (q18.add 2) fun i23 => stPT (q18.add 2) 0 [(.int .i64 (IntKind.i64.wrap (i23 - A1)))] w22 fun w24 => rd_l_i64_i64_i64 w24 q18 fun a25 n26 c27 i28 i29 i30 => sums_Most.call [(.agg ⟨[(.slice a25 n26 c27), (.int .i64 i28), (.int .i64 i29), (.int .i64 i30)]⟩)] w24 fun v31 w32 => ∃ i33 : Int, ∃ i34 : Int, v31 = (.tuple ⟨[(.int .i64 i33), (.int .i64 i34)]⟩) ∧ rd_l_i64_i64_i64_i64 w32 q1 fun a35 n36 c37 i38 i39 i40 i41 => move_Rows.call [(.agg ⟨[(.slice a35 n36 c37), (.int .i64 i38), (.int .i64 i39), (.int .i64 i40), (.int .i64 i41)]⟩), (.int .i64 A1), (.int .i64 (IntKind.i64.wrap (A1 + i33)))] w32 fun v42 w43 => ∃ i44 : Int, v42 = (.int .i64 i44) ∧ rd_l_i64_i64_i64_i64 w43 q1 fun a45 n46 c47 i48 i49 i50 i51 => view_At.call [(.agg ⟨[(.slice a45 n46 c47), (.int .i64 i48), (.int .i64 i49), (.int .i64 i50), (.int .i64 i51)]⟩), (.int .i64 A1), (.int .i64 A1)] w43 fun v52 w53 => ∃ x54 : Nat, v52 = (.float .f64 x54) ∧ K (.tuple ⟨[(.int .i64 (IntKind.i64.wrap (A1 + i33))), (.bool (fne .f64 x54 0))]⟩) w53
theorem lu_Pivot.ok {A0_0p : Option Addr} {A0_0n A0_0c : Nat} {A0_1 : Int} {A0_2 : Int} {A0_3 : Int} {A0_4 : Int} {A1 : Int} {w : World} {K : Value → World → Prop} (h : lu_Pivot.x A0_0p A0_0n A0_0c A0_1 A0_2 A0_3 A0_4 A1 w K) : lu_Pivot.call [(.agg ⟨[(.slice A0_0p A0_0n A0_0c), (.int .i64 A0_1), (.int .i64 A0_2), (.int .i64 A0_3), (.int .i64 A0_4)]⟩), (.int .i64 A1)] w K :=
  callF_of_ex0 (f := Try.f33) Try.func33 rfl mixed (by kernel_rfl) (Eq.mp (by kernel_rfl) h)
/-! the same, the local variables taken out -/
def lu_Pivot.s (A0_0p : Option Addr) (A0_0n A0_0c : Nat) (A0_1 : Int) (A0_2 : Int) (A0_3 : Int) (A0_4 : Int) (A1 : Int) (w : World) (K : Value → World → Prop) : Prop := ∀ (k3 : Nat) (w2 : World), k3 = w.heap.size → k3 < w2.heap.size → Ext w w2 → view_Col.call [(.agg ⟨[(.slice A0_0p A0_0n A0_0c), (.int .i64 A0_1), (.int .i64 A0_2), (.int .i64 A0_3), (.int .i64 A0_4)]⟩), (.int .i64 A1)] w2 fun v12 w13 => Stay [k3] w2 w13 ∧ ∃ (a14 : Option Addr) (n15 c16 : Nat), ∃ i17 : Int, ∃ i18 : Int, ∃ i19 : Int, v12 = (.agg ⟨[(.slice a14 n15 c16), (.int .i64 i17), (.int .i64 i18), (.int .i64 i19)]⟩) ∧ ∀ (k22 : Nat) (w21 : World), k22 = w13.heap.size → k22 < w21.heap.size → Ext w13 w21 → ∀ w24 : World, Exc k22 w21 w24 → ∀ w26 : World, Exc k22 w24 w26 → ∀ w28 : World, Exc k22 w26 w28 → sums_Most.call [(.agg ⟨[(.slice a14 n15 c16), (.int .i64 (IntKind.i64.wrap (i17 + A1))), (.int .i64 (IntKind.i64.wrap (i18 - A1))), (.int .i64 i19)]⟩)] w28 fun v35 w36 => Stay [k22, k3] w28 w36 ∧ ∃ i37 : Int, ∃ i38 : Int, v35 = (.tuple ⟨[(.int .i64 i37), (.int .i64 i38)]⟩) ∧ move_Rows.call [(.agg ⟨[(.slice A0_0p A0_0n A0_0c), (.int .i64 A0_1), (.int .i64 A0_2), (.int .i64 A0_3), (.int .i64 A0_4)]⟩), (.int .i64 A1), (.int .i64 (IntKind.i64.wrap (A1 + i37)))] w36 fun v46 w47 => Stay [k22, k3] w36 w47 ∧ ∃ i48 : Int, v46 = (.int .i64 i48) ∧ view_At.call [(.agg ⟨[(.slice A0_0p A0_0n A0_0c), (.int .i64 A0_1), (.int .i64 A0_2), (.int .i64 A0_3), (.int .i64 A0_4)]⟩), (.int .i64 A1), (.int .i64 A1)] w47 fun v56 w57 => Stay [k22, k3] w47 w57 ∧ ∃ x58 : Nat, v56 = (.float .f64 x58) ∧ K (.tuple ⟨[(.int .i64 (IntKind.i64.wrap (A1 + i37))), (.bool (fne .f64 x58 0))]⟩) w57
theorem lu_Pivot.os {A0_0p : Option Addr} {A0_0n A0_0c : Nat} {A0_1 : Int} {A0_2 : Int} {A0_3 : Int} {A0_4 : Int} {A1 : Int} {w : World} {K : Value → World → Prop} (h : lu_Pivot.s A0_0p A0_0n A0_0c A0_1 A0_2 A0_3 A0_4 A1 w K) : lu_Pivot.call [(.agg ⟨[(.slice A0_0p A0_0n A0_0c), (.int .i64 A0_1), (.int .i64 A0_2), (.int .i64 A0_3), (.int .i64 A0_4)]⟩), (.int .i64 A1)] w K := by
  refine lu_Pivot.ok ?_
  have st := St.nil w
  unfold lu_Pivot.x
  unfold lu_Pivot.s at h
  refine St.new (St.nil _) (fun q1 w2 hk hlt he st => ?_)
  replace h := h q1.block w2 hk hlt he
  refine rd_l_i64_i64_i64_i64.bx 0 0 st rfl rfl rfl rfl rfl rfl rfl ?_
  refine CallF.mono h (fun v12 w13 h => ?_)
  obtain ⟨hK, h⟩ := h
  replace st := st.stay hK
  obtain ⟨a14, n15, c16, i17, i18, i19, h⟩ := h
  refine ⟨a14, n15, c16, i17, i18, i19, ?_⟩
  refine And.imp_right (fun h => ?_) h
  refine St.new st (fun q20 w21 hk hlt he st => ?_)
  replace h := h q20.block w21 hk hlt he
  refine St.put 0 0 st rfl rfl rfl rfl (fun w24 he st => ?_)
  replace h := h w24 he
  refine rd_i64.bx 0 1 st rfl rfl rfl ?_
  refine St.put 0 1 st rfl rfl rfl rfl (fun w26 he st => ?_)
  replace h := h w26 he
  refine rd_i64.bx 0 2 st rfl rfl rfl ?_
  refine St.put 0 2 st rfl rfl rfl rfl (fun w28 he st => ?_)
  replace h := h w28 he
  refine rd_l_i64_i64_i64.bx 0 0 st rfl rfl rfl rfl rfl rfl ?_
  refine CallF.mono h (fun v35 w36 h => ?_)
  obtain ⟨hK, h⟩ := h
  replace st := st.stay hK
  obtain ⟨i37, i38, h⟩ := h
  refine ⟨i37, i38, ?_⟩
  refine And.imp_right (fun h => ?_) h
  refine rd_l_i64_i64_i64_i64.bx 1 0 st rfl rfl rfl rfl rfl rfl rfl ?_
  refine CallF.mono h (fun v46 w47 h => ?_)
  obtain ⟨hK, h⟩ := h
  replace st := st.stay hK
  obtain ⟨i48, h⟩ := h
  refine ⟨i48, ?_⟩
  refine And.imp_right (fun h => ?_) h
  refine rd_l_i64_i64_i64_i64.bx 1 0 st rfl rfl rfl rfl rfl rfl rfl ?_
  refine CallF.mono h (fun v56 w57 h => ?_)
  obtain ⟨hK, h⟩ := h
  replace st := st.stay hK
  exact h

/-! ### straightedge/lu.Column: function 34 -/
def lu_Column.b6 (K : Value → World → Prop) (h6 : Option Addr → Nat → Option Addr → Int → Int → World → Prop) (z4 : Option Addr) (z5 : Nat) (z6 : Option Addr) (z28 : Int) (z29 : Int) (w : World) : Prop := br (decide (z29 < z28)) (ptrSome z6 fun q1 => rd_l w q1 fun a2 n3 c4 => ptrSome z6 fun q5 => rd_i64 w (q5.add 1) fun i6 => ptrSome a2 fun q7 => (0 : Int) ≤ (IntKind.i64.wrap (i6 + z29)) ∧ (IntKind.i64.wrap (i6 + z29)) < ((n3 : Nat) : Int) ∧ rd_f64 w (q7.add (Int.toNat (IntKind.i64.wrap (i6 + z29)))) fun x8 => fop .quo .f64 x8 z5 w fun x9 w10 => ptrSome a2 fun q11 => (0 : Int) ≤ (IntKind.i64.wrap (i6 + z29)) ∧ (IntKind.i64.wrap (i6 + z29)) < ((n3 : Nat) : Int) ∧ stPT (q11.add (Int.toNat (IntKind.i64.wrap (i6 + z29)))) 0 [(.float .f64 x9)] w10 fun w12 => h6 z4 z5 z6 z28 (IntKind.i64.wrap (z29 + 1)) w12) (ptrSome z6 fun q13 => rd_l_i64_i64_i64 w q13 fun a14 n15 c16 i17 i18 i19 => ptrSome z4 fun q20 => stPT q20 0 [(.slice a14 n15 c16), (.int .i64 i17), (.int .i64 i18), (.int .i64 i19)] w fun w21 => ptrSome z4 fun q22 => rd_l_i64_i64_i64 w21 q22 fun a23 n24 c25 i26 i27 i28 => K (.agg ⟨[(.slice a23 n24 c25), (.int .i64 i26), (.int .i64 i27), (.int .i64 i28)]⟩) w21)
def lu_Column.c6 (K : Value → World → Prop) : Nat → Option Addr → Nat → Option Addr → Int → Int → World → Prop
  | 0 => fun _ _ _ _ _ _ => False
  | fu + 1 => lu_Column.b6 K (lu_Column.c6 K fu)
def lu_Column.x (fu : Nat) (A0_0p : Option Addr) (A0_0n A0_0c : Nat) (A0_1 : Int) (A0_2 : Int) (A0_3 : Int) (A0_4 : Int) (A1 : Int) (w : World) (K : Value → World → Prop) : Prop := newB [(.slice A0_0p A0_0n A0_0c), (.int .i64 A0_1), (.int .i64 A0_2), (.int .i64 A0_3), (.int .i64 A0_4)] 24 w fun q1 w2 => newB [(.slice none 0 0), (.int .i64 0), (.int .i64 0), (.int .i64 0)] 66 w2 fun q3 w4 => rd_l_i64_i64_i64_i64 w4 q1 fun a5 n6 c7 i8 i9 i10 i11 => view_At.call [(.agg ⟨[(.slice a5 n6 c7), (.int .i64 i8), (.int .i64 i9), (.int .i64 i10), (.int .i64 i11)]⟩), (.int .i64 A1), (.int .i64 A1)] w4 fun v12 w13 => ∃ x14 : Nat, v12 = (.float .f64 x14) ∧ rd_l_i64_i64_i64_i64 w13 q1 fun a15 n16 c17 i18 i19 i20 i21 => view_Col.call [(.agg ⟨[(.slice a15 n16 c17), (.int .i64 i18), (.int .i64 i19), (.int .i64 i20), (.int .i64 i21)]⟩), (.int .i64 A1)] w13 fun v22 w23 => ∃ (a24 : Option Addr) (n25 c26 : Nat), ∃ i27 : Int, ∃ i28 : Int, ∃ i29 : Int, v22 = (.agg ⟨[(.slice a24 n25 c26), (.int .i64 i27), (.int .i64 i28), (.int .i64 i29)]⟩) ∧ newB [(.slice none 0 0), (.int .i64 0), (.int .i64 0), (.int .i64 0)] 66 w23 fun q30 w31 => stPT q30 0 [(.slice a24 n25 c26), (.int .i64 i27), (.int .i64 i28), (.int .i64 i29)] w31 fun w32 => rd_i64 w32 (q30.add 1) fun i33 => stPT (q30.add 1) 0 [(.int .i64 (IntKind.i64.wrap (i33 + (IntKind.i64.wrap (A1 + 1)))))] w32 fun w34 => rd_i64 w34 (q30.add 2) fun i35 => stPT (q30.add 2) 0 [(.int .i64 (IntKind.i64.wrap (i35 - (IntKind.i64.wrap (A1 + 1)))))] w34 fun w36 => rd_i64 w36 (q30.add 2) fun i37 => lu_Column.c6 K fu (some q3) x14 (some q30) i37 0 w36
def lu_Column.hd (K : Value → World → Prop) (n id : Nat) (t : List Value) (w : World) : Prop :=
  match id with
  | 6 => asP (t.getD 4 undef) fun z4 => asF .f64 (t.getD 5 undef) fun z5 => asP (t.getD 6 undef) fun z6 => asI .i64 (t.getD 28 undef) fun z28 => asI .i64 (t.getD 29 undef) fun z29 => lu_Column.c6 K n z4 z5 z6 z28 z29 w
  | _ => False
theorem lu_Column.t6 (K : Value → World → Prop) (n : Nat) (z4 : Option Addr) (z5 : Nat) (z6 : Option Addr) (z28 : Int) (z29 : Int) (u : Nat → Value) (w : World) (h : lu_Column.c6 K (n + 1) z4 z5 z6 z28 z29 w) :
    exT prog [6] (lu_Column.hd K n) Try.f34 6 45 [(4, (.pointer z4)), (5, (.float .f64 z5)), (6, (.pointer z6)), (28, (.int .i64 z28)), (29, (.int .i64 z29))] u w K := Eq.mp (by kernel_rfl) h
theorem lu_Column.ok (fu : Nat) {A0_0p : Option Addr} {A0_0n A0_0c : Nat} {A0_1 : Int} {A0_2 : Int} {A0_3 : Int} {A0_4 : Int} {A1 : Int} {w : World} {K : Value → World → Prop} (h : lu_Column.x fu A0_0p A0_0n A0_0c A0_1 A0_2 A0_3 A0_4 A1 w K) : lu_Column.call [(.agg ⟨[(.slice A0_0p A0_0n A0_0c), (.int .i64 A0_1), (.int .i64 A0_2), (.int .i64 A0_3), (.int .i64 A0_4)]⟩), (.int .i64 A1)] w K := by
  refine callF_of_ex (cuts := [6]) (H := lu_Column.hd K) (N := 45) Try.func34 rfl mixed (by kernel_rfl) ?_ ?_ ?_ rfl (n := fu) (Eq.mp (by kernel_rfl) h)
  · intro id hid; simp only [List.mem_cons, List.not_mem_nil, or_false] at hid; subst hid
    · exact (by kernel_rfl : (stacks (bodyOf Try.f34) []).filter (headIs 6) = [at_ (bodyOf Try.f34) 6])
  · intro id t w h
    unfold lu_Column.hd at h
    split at h
    · obtain ⟨z4, _, h⟩ := asP_elim h
      obtain ⟨z5, _, h⟩ := asF_elim h
      obtain ⟨z6, _, h⟩ := asP_elim h
      obtain ⟨z28, _, h⟩ := asI_elim h
      obtain ⟨z29, _, h⟩ := asI_elim h
      exact h
    · exact h
  · intro n id hid t w hl h; simp only [List.mem_cons, List.not_mem_nil, or_false] at hid; subst hid
    · replace h : asP (t.getD 4 undef) fun z4 => asF .f64 (t.getD 5 undef) fun z5 => asP (t.getD 6 undef) fun z6 => asI .i64 (t.getD 28 undef) fun z28 => asI .i64 (t.getD 29 undef) fun z29 => lu_Column.c6 K (n + 1) z4 z5 z6 z28 z29 w := h
      obtain ⟨z4, e4, h⟩ := asP_elim h
      obtain ⟨z5, e5, h⟩ := asF_elim h
      obtain ⟨z6, e6, h⟩ := asP_elim h
      obtain ⟨z28, e28, h⟩ := asI_elim h
      obtain ⟨z29, e29, h⟩ := asI_elim h
      rw [mk_of hl [(4, (.pointer z4)), (5, (.float .f64 z5)), (6, (.pointer z6)), (28, (.int .i64 z28)), (29, (.int .i64 z29))] (by simp only [List.forall_mem_cons, List.not_mem_nil, false_implies, implies_true, and_true]; exact ⟨e4, e5, e6, e28, e29⟩)]
      exact lu_Column.t6 K n z4 z5 z6 z28 z29 _ w h
/-! the same, the local variables taken out -/
def lu_Column.e6 (K : Value → World → Prop) (h6 : Nat → Option Addr → Nat → Nat → Int → Int → Int → Nat → Nat → Option Addr → Nat → Nat → Int → Int → Int → Int → Int → World → Prop) (k4 : Nat) (y4_0p : Option Addr) (y4_0n y4_0c : Nat) (y4_1 : Int) (y4_2 : Int) (y4_3 : Int) (z5 : Nat) (k6 : Nat) (y6_0p : Option Addr) (y6_0n y6_0c : Nat) (y6_1 : Int) (y6_2 : Int) (y6_3 : Int) (z28 : Int) (z29 : Int) (w : World) : Prop := br (decide (z29 < z28)) (ptrSome y6_0p fun q7 => (0 : Int) ≤ (IntKind.i64.wrap (y6_1 + z29)) ∧ (IntKind.i64.wrap (y6_1 + z29)) < ((y6_0n : Nat) : Int) ∧ rd_f64 w (q7.add (Int.toNat (IntKind.i64.wrap (y6_1 + z29)))) fun x8 => fop .quo .f64 x8 z5 w fun x9 w10 => ptrSome y6_0p fun q11 => (0 : Int) ≤ (IntKind.i64.wrap (y6_1 + z29)) ∧ (IntKind.i64.wrap (y6_1 + z29)) < ((y6_0n : Nat) : Int) ∧ stPT (q11.add (Int.toNat (IntKind.i64.wrap (y6_1 + z29)))) 0 [(.float .f64 x9)] w10 fun w12 => Keep [k4, k6] w10 w12 ∧ h6 k4 y4_0p y4_0n y4_0c y4_1 y4_2 y4_3 z5 k6 y6_0p y6_0n y6_0c y6_1 y6_2 y6_3 z28 (IntKind.i64.wrap (z29 + 1)) w12) (∀ w21 : World, Exc k4 w w21 → K (.agg ⟨[(.slice y6_0p y6_0n y6_0c), (.int .i64 y6_1), (.int .i64 y6_2), (.int .i64 y6_3)]⟩) w21)
def lu_Column.d6 (K : Value → World → Prop) : Nat → Nat → Option Addr → Nat → Nat → Int → Int → Int → Nat → Nat → Option Addr → Nat → Nat → Int → Int → Int → Int → Int → World → Prop
  | 0 => fun _ _ _ _ _ _ _ _ _ _ _ _ _ _ _ _ _ _ => False
  | fu + 1 => lu_Column.e6 K (lu_Column.d6 K fu)
def lu_Column.s (fu : Nat) (A0_0p : Option Addr) (A0_0n A0_0c : Nat) (A0_1 : Int) (A0_2 : Int) (A0_3 : Int) (A0_4 : Int) (A1 : Int) (w : World) (K : Value → World → Prop) : Prop := ∀ (k3 : Nat) (w2 : World), k3 = w.heap.size → k3 < w2.heap.size → Ext w w2 → ∀ (k7 : Nat) (w6 : World), k7 = w2.heap.size → k7 < w6.heap.size → Ext w2 w6 → view_At.call [(.agg ⟨[(.slice A0_0p A0_0n A0_0c), (.int .i64 A0_1), (.int .i64 A0_2), (.int .i64 A0_3), (.int .i64 A0_4)]⟩), (.int .i64 A1), (.int .i64 A1)] w6 fun v16 w17 => Stay [k7, k3] w6 w17 ∧ ∃ x18 : Nat, v16 = (.float .f64 x18) ∧ view_Col.call [(.agg ⟨[(.slice A0_0p A0_0n A0_0c), (.int .i64 A0_1), (.int .i64 A0_2), (.int .i64 A0_3), (.int .i64 A0_4)]⟩), (.int .i64 A1)] w17 fun v26 w27 => Stay [k7, k3] w17 w27 ∧ ∃ (a28 : Option Addr) (n29 c30 : Nat), ∃ i31 : Int, ∃ i32 : Int, ∃ i33 : Int, v26 = (.agg ⟨[(.slice a28 n29 c30), (.int .i64 i31), (.int .i64 i32), (.int .i64 i33)]⟩) ∧ ∀ (k36 : Nat) (w35 : World), k36 = w27.heap.size → k36 < w35.heap.size → Ext w27 w35 → ∀ w38 : World, Exc k36 w35 w38 → ∀ w40 : World, Exc k36 w38 w40 → ∀ w42 : World, Exc k36 w40 w42 → lu_Column.d6 K fu k7 none 0 0 0 0 0 x18 k36 a28 n29 c30 (IntKind.i64.wrap (i31 + (IntKind.i64.wrap (A1 + 1)))) (IntKind.i64.wrap (i32 - (IntKind.i64.wrap (A1 + 1)))) i33 (IntKind.i64.wrap (i32 - (IntKind.i64.wrap (A1 + 1)))) 0 w42
theorem lu_Column.b6_s {K : Value → World → Prop} {x6 : Option Addr → Nat → Option Addr → Int → Int → World → Prop} {s6 : Nat → Option Addr → Nat → Nat → Int → Int → Int → Nat → Nat → Option Addr → Nat → Nat → Int → Int → Int → Int → Int → World → Prop} (i6 : ∀ {q4 : Addr} {y4_0p : Option Addr} {y4_0n y4_0c : Nat} {y4_1 : Int} {y4_2 : Int} {y4_3 : Int} {z5 : Nat} {q6 : Addr} {y6_0p : Option Addr} {y6_0n y6_0c : Nat} {y6_1 : Int} {y6_2 : Int} {y6_3 : Int} {z28 : Int} {z29 : Int} {w : World}, s6 q4.block y4_0p y4_0n y4_0c y4_1 y4_2 y4_3 z5 q6.block y6_0p y6_0n y6_0c y6_1 y6_2 y6_3 z28 z29 w → St w [(q4, [(.slice y4_0p y4_0n y4_0c), (.int .i64 y4_1), (.int .i64 y4_2), (.int .i64 y4_3)]), (q6, [(.slice y6_0p y6_0n y6_0c), (.int .i64 y6_1), (.int .i64 y6_2), (.int .i64 y6_3)])] → x6 (some q4) z5 (some q6) z28 z29 w) {q4 : Addr} {y4_0p : Option Addr} {y4_0n y4_0c : Nat} {y4_1 : Int} {y4_2 : Int} {y4_3 : Int} {z5 : Nat} {q6 : Addr} {y6_0p : Option Addr} {y6_0n y6_0c : Nat} {y6_1 : Int} {y6_2 : Int} {y6_3 : Int} {z28 : Int} {z29 : Int} {w : World} (h : lu_Column.e6 K s6 q4.block y4_0p y4_0n y4_0c y4_1 y4_2 y4_3 z5 q6.block y6_0p y6_0n y6_0c y6_1 y6_2 y6_3 z28 z29 w) (st : St w [(q4, [(.slice y4_0p y4_0n y4_0c), (.int .i64 y4_1), (.int .i64 y4_2), (.int .i64 y4_3)]), (q6, [(.slice y6_0p y6_0n y6_0c), (.int .i64 y6_1), (.int .i64 y6_2), (.int .i64 y6_3)])]) : lu_Column.b6 K x6 (some q4) z5 (some q6) z28 z29 w := by
  unfold lu_Column.b6
  unfold lu_Column.e6 at h
  refine br_mono (fun h => ?_) (fun h => ?_) h
  · refine ptrSome_intro rfl ?_
    refine rd_l.bx 1 0 st rfl rfl rfl ?_
    refine ptrSome_intro rfl ?_
    refine rd_i64.bx 1 1 st rfl rfl rfl ?_
    refine ptrSome_mono (fun q7 h => ?_) h
    refine And.imp_right (fun h => ?_) h
    refine And.imp_right (fun h => ?_) h
    refine rd_f64.mono (fun x8 h => ?_) h
    refine fop_mono st h (fun x9 w10 st h => ?_)
    refine ptrSome_mono (fun q11 h => ?_) h
    refine And.imp_right (fun h => ?_) h
    refine And.imp_right (fun h => ?_) h
    refine stPT_mono (fun w12 h => ?_) h
    obtain ⟨hK, h⟩ := h
    replace st := st.keep hK
    exact i6 h (st.pick [0, 1] (by decide))
  · refine ptrSome_intro rfl ?_
    refine rd_l_i64_i64_i64.bx 1 0 st rfl rfl rfl rfl rfl rfl ?_
    refine ptrSome_intro rfl ?_
    refine St.put 0 0 st rfl rfl rfl rfl (fun w21 he st => ?_)
    replace h := h w21 he
    refine ptrSome_intro rfl ?_
    refine rd_l_i64_i64_i64.bx 0 0 st rfl rfl rfl rfl rfl rfl ?_
    exact h
theorem lu_Column.c6_s {K : Value → World → Prop} (fu : Nat) : ∀ {q4 : Addr} {y4_0p : Option Addr} {y4_0n y4_0c : Nat} {y4_1 : Int} {y4_2 : Int} {y4_3 : Int} {z5 : Nat} {q6 : Addr} {y6_0p : Option Addr} {y6_0n y6_0c : Nat} {y6_1 : Int} {y6_2 : Int} {y6_3 : Int} {z28 : Int} {z29 : Int} {w : World}, lu_Column.d6 K fu q4.block y4_0p y4_0n y4_0c y4_1 y4_2 y4_3 z5 q6.block y6_0p y6_0n y6_0c y6_1 y6_2 y6_3 z28 z29 w → St w [(q4, [(.slice y4_0p y4_0n y4_0c), (.int .i64 y4_1), (.int .i64 y4_2), (.int .i64 y4_3)]), (q6, [(.slice y6_0p y6_0n y6_0c), (.int .i64 y6_1), (.int .i64 y6_2), (.int .i64 y6_3)])] → lu_Column.c6 K fu (some q4) z5 (some q6) z28 z29 w := by
  induction fu with
  | zero => exact fun h _ => False.elim h
  | succ fu ih => exact fun h st => lu_Column.b6_s (K := K) (x6 := lu_Column.c6 K fu) (s6 := lu_Column.d6 K fu) ih h st
theorem lu_Column.os (fu : Nat) {A0_0p : Option Addr} {A0_0n A0_0c : Nat} {A0_1 : Int} {A0_2 : Int} {A0_3 : Int} {A0_4 : Int} {A1 : Int} {w : World} {K : Value → World → Prop} (h : lu_Column.s fu A0_0p A0_0n A0_0c A0_1 A0_2 A0_3 A0_4 A1 w K) : lu_Column.call [(.agg ⟨[(.slice A0_0p A0_0n A0_0c), (.int .i64 A0_1), (.int .i64 A0_2), (.int .i64 A0_3), (.int .i64 A0_4)]⟩), (.int .i64 A1)] w K := by
  refine lu_Column.ok fu ?_
  have st := St.nil w
  unfold lu_Column.x
  unfold lu_Column.s at h
  refine St.new (St.nil _) (fun q1 w2 hk hlt he st => ?_)
  replace h := h q1.block w2 hk hlt he
  refine St.new st (fun q5 w6 hk hlt he st => ?_)
  replace h := h q5.block w6 hk hlt he
  refine rd_l_i64_i64_i64_i64.bx 1 0 st rfl rfl rfl rfl rfl rfl rfl ?_
  refine CallF.mono h (fun v16 w17 h => ?_)
  obtain ⟨hK, h⟩ := h
  replace st := st.stay hK
  obtain ⟨x18, h⟩ := h
  refine ⟨x18, ?_⟩
  refine And.imp_right (fun h => ?_) h
  refine rd_l_i64_i64_i64_i64.bx 1 0 st rfl rfl rfl rfl rfl rfl rfl ?_
  refine CallF.mono h (fun v26 w27 h => ?_)
  obtain ⟨hK, h⟩ := h
  replace st := st.stay hK
  obtain ⟨a28, n29, c30, i31, i32, i33, h⟩ := h
  refine ⟨a28, n29, c30, i31, i32, i33, ?_⟩
  refine And.imp_right (fun h => ?_) h
  refine St.new st (fun q34 w35 hk hlt he st => ?_)
  replace h := h q34.block w35 hk hlt he
  refine St.put 0 0 st rfl rfl rfl rfl (fun w38 he st => ?_)
  replace h := h w38 he
  refine rd_i64.bx 0 1 st rfl rfl rfl ?_
  refine St.put 0 1 st rfl rfl rfl rfl (fun w40 he st => ?_)
  replace h := h w40 he
  refine rd_i64.bx 0 2 st rfl rfl rfl ?_
  refine St.put 0 2 st rfl rfl rfl rfl (fun w42 he st => ?_)
  replace h := h w42 he
  refine rd_i64.bx 0 2 st rfl rfl rfl ?_
  exact lu_Column.c6_s fu h (st.pick [1, 0] (by decide))

/-! ### straightedge/lu.Right: function 69 -/
def lu_Right.b5 (K : Value → World → Prop) (h5 : Int → Option Addr → Nat → Nat → Int → Int → World → Prop) (z3 : Int) (z30p : Option Addr) (z30n z30c : Nat) (z31 : Int) (z32 : Int) (w : World) : Prop := br (decide (z32 < z31)) (ptrSome z30p fun q1 => (0 : Int) ≤ z32 ∧ z32 < ((z30n : Nat) : Int) ∧ rd_i64 w (q1.add (Int.toNat z32)) fun i2 => br (decide (i2 < z32)) (K (.bool false) w) (br (decide (i2 ≥ z3)) (K (.bool false) w) (h5 z3 z30p z30n z30c z31 (IntKind.i64.wrap (z32 + 1)) w))) (K (.bool true) w)
def lu_Right.c5 (K : Value → World → Prop) : Nat → Int → Option Addr → Nat → Nat → Int → Int → World → Prop
  | 0 => fun _ _ _ _ _ _ _ => False
  | fu + 1 => lu_Right.b5 K (lu_Right.c5 K fu)
def lu_Right.x (fu : Nat) (A0_0p : Option Addr) (A0_0n A0_0c : Nat) (A0_1 : Int) (A0_2 : Int) (A0_3 : Int) (A0_4 : Int) (A0_5p : Option Addr) (A0_5n A0_5c : Nat) (w : World) (K : Value → World → Prop) : Prop := newB [(.slice A0_0p A0_0n A0_0c), (.int .i64 A0_1), (.int .i64 A0_2), (.int .i64 A0_3), (.int .i64 A0_4), (.slice A0_5p A0_5n A0_5c)] 33 w fun q1 w2 => rd_l w2 (q1.add 5) fun a3 n4 c5 => rd_l_i64_i64_i64_i64 w2 q1 fun a6 n7 c8 i9 i10 i11 i12 => view_Good.call [(.agg ⟨[(.slice a6 n7 c8), (.int .i64 i9), (.int .i64 i10), (.int .i64 i11), (.int .i64 i12)]⟩)] w2 fun v13 w14 => ∃ b15 : Bool, v13 = (.bool b15) ∧ br (!b15) (K (.bool false) w14) (rd_i64 w14 (q1.add 2) fun i16 => rd_i64 w14 (q1.add 3) fun i17 => br (i16 != i17) (K (.bool false) w14) (rd_i64 w14 (q1.add 2) fun i18 => br (i18 != ((n4 : Nat) : Int)) (K (.bool false) w14) (rd_l w14 (q1.add 5) fun a19 n20 c21 => lu_Right.c5 K fu ((n4 : Nat) : Int) a19 n20 c21 ((n20 : Nat) : Int) 0 w14)))
def lu_Right.hd (K : Value → World → Prop) (n id : Nat) (t : List Value) (w : World) : Prop :=
  match id with
  | 5 => asI .i64 (t.getD 3 undef) fun z3 => asL (t.getD 30 undef) fun z30p z30n z30c => asI .i64 (t.getD 31 undef) fun z31 => asI .i64 (t.getD 32 undef) fun z32 => lu_Right.c5 K n z3 z30p z30n z30c z31 z32 w
  | _ => False
theorem lu_Right.t5 (K : Value → World → Prop) (n : Nat) (z3 : Int) (z30p : Option Addr) (z30n z30c : Nat) (z31 : Int) (z32 : Int) (u : Nat → Value) (w : World) (h : lu_Right.c5 K (n + 1) z3 z30p z30n z30c z31 z32 w) :
    exT prog [5] (lu_Right.hd K n) Try.f69 5 46 [(3, (.int .i64 z3)), (30, (.slice z30p z30n z30c)), (31, (.int .i64 z31)), (32, (.int .i64 z32))] u w K := Eq.mp (by kernel_rfl) h
theorem lu_Right.ok (fu : Nat) {A0_0p : Option Addr} {A0_0n A0_0c : Nat} {A0_1 : Int} {A0_2 : Int} {A0_3 : Int} {A0_4 : Int} {A0_5p : Option Addr} {A0_5n A0_5c : Nat} {w : World} {K : Value → World → Prop} (h : lu_Right.x fu A0_0p A0_0n A0_0c A0_1 A0_2 A0_3 A0_4 A0_5p A0_5n A0_5c w K) : lu_Right.call [(.agg ⟨[(.slice A0_0p A0_0n A0_0c), (.int .i64 A0_1), (.int .i64 A0_2), (.int .i64 A0_3), (.int .i64 A0_4), (.slice A0_5p A0_5n A0_5c)]⟩)] w K := by
  refine callF_of_ex (cuts := [5]) (H := lu_Right.hd K) (N := 46) Try.func69 rfl mixed (by kernel_rfl) ?_ ?_ ?_ rfl (n := fu) (Eq.mp (by kernel_rfl) h)
  · intro id hid; simp only [List.mem_cons, List.not_mem_nil, or_false] at hid; subst hid
    · exact (by kernel_rfl : (stacks (bodyOf Try.f69) []).filter (headIs 5) = [at_ (bodyOf Try.f69) 5])
  · intro id t w h
    unfold lu_Right.hd at h
    split at h
    · obtain ⟨z3, _, h⟩ := asI_elim h
      obtain ⟨z30p, z30n, z30c, _, h⟩ := asL_elim h
      obtain ⟨z31, _, h⟩ := asI_elim h
      obtain ⟨z32, _, h⟩ := asI_elim h
      exact h
    · exact h
  · intro n id hid t w hl h; simp only [List.mem_cons, List.not_mem_nil, or_false] at hid; subst hid
    · replace h : asI .i64 (t.getD 3 undef) fun z3 => asL (t.getD 30 undef) fun z30p z30n z30c => asI .i64 (t.getD 31 undef) fun z31 => asI .i64 (t.getD 32 undef) fun z32 => lu_Right.c5 K (n + 1) z3 z30p z30n z30c z31 z32 w := h
      obtain ⟨z3, e3, h⟩ := asI_elim h
      obtain ⟨z30p, z30n, z30c, e30, h⟩ := asL_elim h
      obtain ⟨z31, e31, h⟩ := asI_elim h
      obtain ⟨z32, e32, h⟩ := asI_elim h
      rw [mk_of hl [(3, (.int .i64 z3)), (30, (.slice z30p z30n z30c)), (31, (.int .i64 z31)), (32, (.int .i64 z32))] (by simp only [List.forall_mem_cons, List.not_mem_nil, false_implies, implies_true, and_true]; exact ⟨e3, e30, e31, e32⟩)]
      exact lu_Right.t5 K n z3 z30p z30n z30c z31 z32 _ w h
/-! the same, the local variables taken out -/
def lu_Right.e5 (K : Value → World → Prop) (h5 : Int → Option Addr → Nat → Nat → Int → Int → World → Prop) (z3 : Int) (z30p : Option Addr) (z30n z30c : Nat) (z31 : Int) (z32 : Int) (w : World) : Prop := br (decide (z32 < z31)) (ptrSome z30p fun q1 => (0 : Int) ≤ z32 ∧ z32 < ((z30n : Nat) : Int) ∧ rd_i64 w (q1.add (Int.toNat z32)) fun i2 => br (decide (i2 < z32)) (K (.bool false) w) (br (decide (i2 ≥ z3)) (K (.bool false) w) (h5 z3 z30p z30n z30c z31 (IntKind.i64.wrap (z32 + 1)) w))) (K (.bool true) w)
def lu_Right.d5 (K : Value → World → Prop) : Nat → Int → Option Addr → Nat → Nat → Int → Int → World → Prop
  | 0 => fun _ _ _ _ _ _ _ => False
  | fu + 1 => lu_Right.e5 K (lu_Right.d5 K fu)
def lu_Right.s (fu : Nat) (A0_0p : Option Addr) (A0_0n A0_0c : Nat) (A0_1 : Int) (A0_2 : Int) (A0_3 : Int) (A0_4 : Int) (A0_5p : Option Addr) (A0_5n A0_5c : Nat) (w : World) (K : Value → World → Prop) : Prop := ∀ (k3 : Nat) (w2 : World), k3 = w.heap.size → k3 < w2.heap.size → Ext w w2 → view_Good.call [(.agg ⟨[(.slice A0_0p A0_0n A0_0c), (.int .i64 A0_1), (.int .i64 A0_2), (.int .i64 A0_3), (.int .i64 A0_4)]⟩)] w2 fun v15 w16 => Stay [k3] w2 w16 ∧ ∃ b17 : Bool, v15 = (.bool b17) ∧ br (!b17) (K (.bool false) w16) (br (A0_2 != A0_3) (K (.bool false) w16) (br (A0_2 != ((A0_5n : Nat) : Int)) (K (.bool false) w16) (lu_Right.d5 K fu ((A0_5n : Nat) : Int) A0_5p A0_5n A0_5c ((A0_5n : Nat) : Int) 0 w16)))
theorem lu_Right.b5_s {K : Value → World → Prop} {x5 : Int → Option Addr → Nat → Nat → Int → Int → World → Prop} {s5 : Int → Option Addr → Nat → Nat → Int → Int → World → Prop} (i5 : ∀ {z3 : Int} {z30p : Option Addr} {z30n z30c : Nat} {z31 : Int} {z32 : Int} {w : World}, s5 z3 z30p z30n z30c z31 z32 w → St w [] → x5 z3 z30p z30n z30c z31 z32 w) {z3 : Int} {z30p : Option Addr} {z30n z30c : Nat} {z31 : Int} {z32 : Int} {w : World} (h : lu_Right.e5 K s5 z3 z30p z30n z30c z31 z32 w) (st : St w []) : lu_Right.b5 K x5 z3 z30p z30n z30c z31 z32 w := by
  unfold lu_Right.b5
  unfold lu_Right.e5 at h
  refine br_mono (fun h => ?_) (fun h => ?_) h
  · refine ptrSome_mono (fun q1 h => ?_) h
    refine And.imp_right (fun h => ?_) h
    refine And.imp_right (fun h => ?_) h
    refine rd_i64.mono (fun i2 h => ?_) h
    refine br_mono (fun h => ?_) (fun h => ?_) h
    · exact h
    · refine br_mono (fun h => ?_) (fun h => ?_) h
      · exact h
      · exact i5 h ((St.nil _).pick [] (by decide))
  · exact h
theorem lu_Right.c5_s {K : Value → World → Prop} (fu : Nat) : ∀ {z3 : Int} {z30p : Option Addr} {z30n z30c : Nat} {z31 : Int} {z32 : Int} {w : World}, lu_Right.d5 K fu z3 z30p z30n z30c z31 z32 w → St w [] → lu_Right.c5 K fu z3 z30p z30n z30c z31 z32 w := by
  induction fu with
  | zero => exact fun h _ => False.elim h
  | succ fu ih => exact fun h st => lu_Right.b5_s (K := K) (x5 := lu_Right.c5 K fu) (s5 := lu_Right.d5 K fu) ih h st
theorem lu_Right.os (fu : Nat) {A0_0p : Option Addr} {A0_0n A0_0c : Nat} {A0_1 : Int} {A0_2 : Int} {A0_3 : Int} {A0_4 : Int} {A0_5p : Option Addr} {A0_5n A0_5c : Nat} {w : World} {K : Value → World → Prop} (h : lu_Right.s fu A0_0p A0_0n A0_0c A0_1 A0_2 A0_3 A0_4 A0_5p A0_5n A0_5c w K) : lu_Right.call [(.agg ⟨[(.slice A0_0p A0_0n A0_0c), (.int .i64 A0_1), (.int .i64 A0_2), (.int .i64 A0_3), (.int .i64 A0_4), (.slice A0_5p A0_5n A0_5c)]⟩)] w K := by
  refine lu_Right.ok fu ?_
  have st := St.nil w
  unfold lu_Right.x
  unfold lu_Right.s at h
  refine St.new (St.nil _) (fun q1 w2 hk hlt he st => ?_)
  replace h := h q1.block w2 hk hlt he
  refine rd_l.bx 0 5 st rfl rfl rfl ?_
  refine rd_l_i64_i64_i64_i64.bx 0 0 st rfl rfl rfl rfl rfl rfl rfl ?_
  refine CallF.mono h (fun v15 w16 h => ?_)
  obtain ⟨hK, h⟩ := h
  replace st := st.stay hK
  obtain ⟨b17, h⟩ := h
  refine ⟨b17, ?_⟩
  refine And.imp_right (fun h => ?_) h
  refine br_mono (fun h => ?_) (fun h => ?_) h
  · exact h
  · refine rd_i64.bx 0 2 st rfl rfl rfl ?_
    refine rd_i64.bx 0 3 st rfl rfl rfl ?_
    refine br_mono (fun h => ?_) (fun h => ?_) h
    · exact h
    · refine rd_i64.bx 0 2 st rfl rfl rfl ?_
      refine br_mono (fun h => ?_) (fun h => ?_) h
      · exact h
      · refine rd_l.bx 0 5 st rfl rfl rfl ?_
        exact lu_Right.c5_s fu h (st.pick [] (by decide))

end Go.Proofs.Ytgdkahbnepafgaa

/-! ### AGger -/
/- The explicit forms of the functions of one package, and that the calls do what they say. Written by wip/tools/wk2.py. -/
set_option maxHeartbeats 4000000
set_option maxRecDepth 100000
set_option linter.unusedVariables false
namespace Go.Proofs.Ytgdkahbnepafgaa
open Go Go.Wk

/-! ### straightedge/ger.Ger: function 36 -/
def ger_Ger.x (A0 : Nat) (A1_0p : Option Addr) (A1_0n A1_0c : Nat) (A1_1 : Int) (A1_2 : Int) (A1_3 : Int) (A2_0p : Option Addr) (A2_0n A2_0c : Nat) (A2_1 : Int) (A2_2 : Int) (A2_3 : Int) (A3_0p : Option Addr) (A3_0n A3_0c : Nat) (A3_1 : Int) (A3_2 : Int) (A3_3 : Int) (A3_4 : Int) (w : World) (K : Value → World → Prop) : Prop := newB [(.float .f64 A0)] 38 w fun q1 w2 => newB [(.slice A1_0p A1_0n A1_0c), (.int .i64 A1_1), (.int .i64 A1_2), (.int .i64 A1_3)] 66 w2 fun q3 w4 => newB [(.slice A2_0p A2_0n A2_0c), (.int .i64 A2_1), (.int .i64 A2_2), (.int .i64 A2_3)] 66 w4 fun q5 w6 => newB [(.slice A3_0p A3_0n A3_0c), (.int .i64 A3_1), (.int .i64 A3_2), (.int .i64 A3_3), (.int .i64 A3_4)] 24 w6 fun q7 w8 => rd_l_i64_i64_i64 w8 q3 fun a9 n10 c11 i12 i13 i14 => view_Right.call [(.agg ⟨[(.slice a9 n10 c11), (.int .i64 i12), (.int .i64 i13), (.int .i64 i14)]⟩)] w8 fun v15 w16 => ∃ b17 : Bool, v15 = (.bool b17) ∧ br (!b17) (K (.int .i64 1) w16) (rd_l_i64_i64_i64 w16 q5 fun a18 n19 c20 i21 i22 i23 => view_Right.call [(.agg ⟨[(.slice a18 n19 c20), (.int .i64 i21), (.int .i64 i22), (.int .i64 i23)]⟩)] w16 fun v24 w25 => ∃ b26 : Bool, v24 = (.bool b26) ∧ br (!b26) (K (.int .i64 1) w25) (rd_l_i64_i64_i64_i64 w25 q7 fun a27 n28 c29 i30 i31 i32 i33 => view_Good.call [(.agg ⟨[(.slice a27 n28 c29), (.int .i64 i30), (.int .i64 i31), (.int .i64 i32), (.int .i64 i33)]⟩)] w25 fun v34 w35 => ∃ b36 : Bool, v34 = (.bool b36) ∧ br (!b36) (K (.int .i64 1) w35) (rd_i64 w35 (q3.add 2) fun i37 => rd_i64 w35 (q7.add 2) fun i38 => br (i37 != i38) (K (.int .i64 3) w35) (rd_i64 w35 (q5.add 2) fun i39 => rd_i64 w35 (q7.add 3) fun i40 => br (i39 != i40) (K (.int .i64 3) w35) (rd_l_i64_i64_i64 w35.drew q3 fun a42 n43 c44 i45 i46 i47 => rd_l_i64_i64_i64_i64 w35.drew q7 fun a48 n49 c50 i51 i52 i53 i54 => ger_row.call [(.agg ⟨[(.slice a42 n43 c44), (.int .i64 i45), (.int .i64 i46), (.int .i64 i47)]⟩)] w35.drew fun v55 w56 => ∃ (a57 : Option Addr) (n58 c59 : Nat), ∃ i60 : Int, ∃ i61 : Int, ∃ i62 : Int, ∃ i63 : Int, v55 = (.agg ⟨[(.slice a57 n58 c59), (.int .i64 i60), (.int .i64 i61), (.int .i64 i62), (.int .i64 i63)]⟩) ∧ Kept w35.drew w56 ∧ view_Meet.call [(.agg ⟨[(.slice a57 n58 c59), (.int .i64 i60), (.int .i64 i61), (.int .i64 i62), (.int .i64 i63)]⟩), (.agg ⟨[(.slice a48 n49 c50), (.int .i64 i51), (.int .i64 i52), (.int .i64 i53), (.int .i64 i54)]⟩)] w56 fun v64 w65 => ∃ b66 : Bool, v64 = (.bool b66) ∧ Kept w56 w65 ∧ br b66 (K (.int .i64 2) w65) (rd_l_i64_i64_i64 w35.drew q5 fun a67 n68 c69 i70 i71 i72 => rd_l_i64_i64_i64_i64 w35.drew q7 fun a73 n74 c75 i76 i77 i78 i79 => ger_row.call [(.agg ⟨[(.slice a67 n68 c69), (.int .i64 i70), (.int .i64 i71), (.int .i64 i72)]⟩)] w65 fun v80 w81 => ∃ (a82 : Option Addr) (n83 c84 : Nat), ∃ i85 : Int, ∃ i86 : Int, ∃ i87 : Int, ∃ i88 : Int, v80 = (.agg ⟨[(.slice a82 n83 c84), (.int .i64 i85), (.int .i64 i86), (.int .i64 i87), (.int .i64 i88)]⟩) ∧ Kept w65 w81 ∧ view_Meet.call [(.agg ⟨[(.slice a82 n83 c84), (.int .i64 i85), (.int .i64 i86), (.int .i64 i87), (.int .i64 i88)]⟩), (.agg ⟨[(.slice a73 n74 c75), (.int .i64 i76), (.int .i64 i77), (.int .i64 i78), (.int .i64 i79)]⟩)] w81 fun v89 w90 => ∃ b91 : Bool, v89 = (.bool b91) ∧ br b91 (K (.int .i64 2) w90) (rd_l_i64_i64_i64_i64 w90 q7 fun a92 n93 c94 i95 i96 i97 i98 => ger_each.call [(.agg ⟨[(.slice a92 n93 c94), (.int .i64 i95), (.int .i64 i96), (.int .i64 i97), (.int .i64 i98)]⟩), (.func (.func 67) ⟨[]⟩ ⟨[(.pointer (some q1)), (.pointer (some q5)), (.pointer (some q3))]⟩)] w90 fun v99 w100 => v99 = (.tuple ⟨[]⟩) ∧ K (.int .i64 0) w100)))))))
theorem ger_Ger.ok {A0 : Nat} {A1_0p : Option Addr} {A1_0n A1_0c : Nat} {A1_1 : Int} {A1_2 : Int} {A1_3 : Int} {A2_0p : Option Addr} {A2_0n A2_0c : Nat} {A2_1 : Int} {A2_2 : Int} {A2_3 : Int} {A3_0p : Option Addr} {A3_0n A3_0c : Nat} {A3_1 : Int} {A3_2 : Int} {A3_3 : Int} {A3_4 : Int} {w : World} {K : Value → World → Prop} (h : ger_Ger.x A0 A1_0p A1_0n A1_0c A1_1 A1_2 A1_3 A2_0p A2_0n A2_0c A2_1 A2_2 A2_3 A3_0p A3_0n A3_0c A3_1 A3_2 A3_3 A3_4 w K) : ger_Ger.call [(.float .f64 A0), (.agg ⟨[(.slice A1_0p A1_0n A1_0c), (.int .i64 A1_1), (.int .i64 A1_2), (.int .i64 A1_3)]⟩), (.agg ⟨[(.slice A2_0p A2_0n A2_0c), (.int .i64 A2_1), (.int .i64 A2_2), (.int .i64 A2_3)]⟩), (.agg ⟨[(.slice A3_0p A3_0n A3_0c), (.int .i64 A3_1), (.int .i64 A3_2), (.int .i64 A3_3), (.int .i64 A3_4)]⟩)] w K :=
  callF_of_ex0 (f := Try.f36) Try.func36 rfl mixed (by kernel_rfl) (Eq.mp (by kernel_rfl) h)
/-! the same, the local variables taken out -/
def ger_Ger.s (A0 : Nat) (A1_0p : Option Addr) (A1_0n A1_0c : Nat) (A1_1 : Int) (A1_2 : Int) (A1_3 : Int) (A2_0p : Option Addr) (A2_0n A2_0c : Nat) (A2_1 : Int) (A2_2 : Int) (A2_3 : Int) (A3_0p : Option Addr) (A3_0n A3_0c : Nat) (A3_1 : Int) (A3_2 : Int) (A3_3 : Int) (A3_4 : Int) (w : World) (K : Value → World → Prop) : Prop := newB [(.float .f64 A0)] 38 w fun q1 w2 => newB [(.slice A1_0p A1_0n A1_0c), (.int .i64 A1_1), (.int .i64 A1_2), (.int .i64 A1_3)] 66 w2 fun q3 w4 => newB [(.slice A2_0p A2_0n A2_0c), (.int .i64 A2_1), (.int .i64 A2_2), (.int .i64 A2_3)] 66 w4 fun q5 w6 => ∀ (k9 : Nat) (w8 : World), k9 = w6.heap.size → k9 < w8.heap.size → Ext w6 w8 → rd_l_i64_i64_i64 w8 q3 fun a11 n12 c13 i14 i15 i16 => view_Right.call [(.agg ⟨[(.slice a11 n12 c13), (.int .i64 i14), (.int .i64 i15), (.int .i64 i16)]⟩)] w8 fun v17 w18 => Stay [k9] w8 w18 ∧ ∃ b19 : Bool, v17 = (.bool b19) ∧ br (!b19) (K (.int .i64 1) w18) (rd_l_i64_i64_i64 w18 q5 fun a20 n21 c22 i23 i24 i25 => view_Right.call [(.agg ⟨[(.slice a20 n21 c22), (.int .i64 i23), (.int .i64 i24), (.int .i64 i25)]⟩)] w18 fun v26 w27 => Stay [k9] w18 w27 ∧ ∃ b28 : Bool, v26 = (.bool b28) ∧ br (!b28) (K (.int .i64 1) w27) (view_Good.call [(.agg ⟨[(.slice A3_0p A3_0n A3_0c), (.int .i64 A3_1), (.int .i64 A3_2), (.int .i64 A3_3), (.int .i64 A3_4)]⟩)] w27 fun v36 w37 => Stay [k9] w27 w37 ∧ ∃ b38 : Bool, v36 = (.bool b38) ∧ br (!b38) (K (.int .i64 1) w37) (rd_i64 w37 (q3.add 2) fun i39 => br (i39 != A3_2) (K (.int .i64 3) w37) (rd_i64 w37 (q5.add 2) fun i41 => br (i41 != A3_3) (K (.int .i64 3) w37) (rd_l_i64_i64_i64 w37.drew q3 fun a44 n45 c46 i47 i48 i49 => ger_row.call [(.agg ⟨[(.slice a44 n45 c46), (.int .i64 i47), (.int .i64 i48), (.int .i64 i49)]⟩)] w37.drew fun v57 w58 => Stay [k9] w37.drew w58 ∧ ∃ (a59 : Option Addr) (n60 c61 : Nat), ∃ i62 : Int, ∃ i63 : Int, ∃ i64 : Int, ∃ i65 : Int, v57 = (.agg ⟨[(.slice a59 n60 c61), (.int .i64 i62), (.int .i64 i63), (.int .i64 i64), (.int .i64 i65)]⟩) ∧ Kept w37.drew w58 ∧ view_Meet.call [(.agg ⟨[(.slice a59 n60 c61), (.int .i64 i62), (.int .i64 i63), (.int .i64 i64), (.int .i64 i65)]⟩), (.agg ⟨[(.slice A3_0p A3_0n A3_0c), (.int .i64 A3_1), (.int .i64 A3_2), (.int .i64 A3_3), (.int .i64 A3_4)]⟩)] w58 fun v66 w67 => Stay [k9] w58 w67 ∧ ∃ b68 : Bool, v66 = (.bool b68) ∧ Kept w58 w67 ∧ br b68 (K (.int .i64 2) w67) (rd_l_i64_i64_i64 w37.drew q5 fun a69 n70 c71 i72 i73 i74 => ger_row.call [(.agg ⟨[(.slice a69 n70 c71), (.int .i64 i72), (.int .i64 i73), (.int .i64 i74)]⟩)] w67 fun v82 w83 => Stay [k9] w67 w83 ∧ ∃ (a84 : Option Addr) (n85 c86 : Nat), ∃ i87 : Int, ∃ i88 : Int, ∃ i89 : Int, ∃ i90 : Int, v82 = (.agg ⟨[(.slice a84 n85 c86), (.int .i64 i87), (.int .i64 i88), (.int .i64 i89), (.int .i64 i90)]⟩) ∧ Kept w67 w83 ∧ view_Meet.call [(.agg ⟨[(.slice a84 n85 c86), (.int .i64 i87), (.int .i64 i88), (.int .i64 i89), (.int .i64 i90)]⟩), (.agg ⟨[(.slice A3_0p A3_0n A3_0c), (.int .i64 A3_1), (.int .i64 A3_2), (.int .i64 A3_3), (.int .i64 A3_4)]⟩)] w83 fun v91 w92 => Stay [k9] w83 w92 ∧ ∃ b93 : Bool, v91 = (.bool b93) ∧ br b93 (K (.int .i64 2) w92) (ger_each.call [(.agg ⟨[(.slice A3_0p A3_0n A3_0c), (.int .i64 A3_1), (.int .i64 A3_2), (.int .i64 A3_3), (.int .i64 A3_4)]⟩), (.func (.func 67) ⟨[]⟩ ⟨[(.pointer (some q1)), (.pointer (some q5)), (.pointer (some q3))]⟩)] w92 fun v101 w102 => Stay [k9] w92 w102 ∧ v101 = (.tuple ⟨[]⟩) ∧ K (.int .i64 0) w102)))))))
theorem ger_Ger.os {A0 : Nat} {A1_0p : Option Addr} {A1_0n A1_0c : Nat} {A1_1 : Int} {A1_2 : Int} {A1_3 : Int} {A2_0p : Option Addr} {A2_0n A2_0c : Nat} {A2_1 : Int} {A2_2 : Int} {A2_3 : Int} {A3_0p : Option Addr} {A3_0n A3_0c : Nat} {A3_1 : Int} {A3_2 : Int} {A3_3 : Int} {A3_4 : Int} {w : World} {K : Value → World → Prop} (h : ger_Ger.s A0 A1_0p A1_0n A1_0c A1_1 A1_2 A1_3 A2_0p A2_0n A2_0c A2_1 A2_2 A2_3 A3_0p A3_0n A3_0c A3_1 A3_2 A3_3 A3_4 w K) : ger_Ger.call [(.float .f64 A0), (.agg ⟨[(.slice A1_0p A1_0n A1_0c), (.int .i64 A1_1), (.int .i64 A1_2), (.int .i64 A1_3)]⟩), (.agg ⟨[(.slice A2_0p A2_0n A2_0c), (.int .i64 A2_1), (.int .i64 A2_2), (.int .i64 A2_3)]⟩), (.agg ⟨[(.slice A3_0p A3_0n A3_0c), (.int .i64 A3_1), (.int .i64 A3_2), (.int .i64 A3_3), (.int .i64 A3_4)]⟩)] w K := by
  refine ger_Ger.ok ?_
  have st := St.nil w
  unfold ger_Ger.x
  unfold ger_Ger.s at h
  refine newB_mono (St.nil _) h (fun q1 w2 st h => ?_)
  refine newB_mono (St.nil _) h (fun q3 w4 st h => ?_)
  refine newB_mono (St.nil _) h (fun q5 w6 st h => ?_)
  refine St.new (St.nil _) (fun q7 w8 hk hlt he st => ?_)
  replace h := h q7.block w8 hk hlt he
  refine rd_l_i64_i64_i64.mono (fun a11 n12 c13 i14 i15 i16 h => ?_) h
  refine CallF.mono h (fun v17 w18 h => ?_)
  obtain ⟨hK, h⟩ := h
  replace st := st.stay hK
  obtain ⟨b19, h⟩ := h
  refine ⟨b19, ?_⟩
  refine And.imp_right (fun h => ?_) h
  refine br_mono (fun h => ?_) (fun h => ?_) h
  · exact h
  · refine rd_l_i64_i64_i64.mono (fun a20 n21 c22 i23 i24 i25 h => ?_) h
    refine CallF.mono h (fun v26 w27 h => ?_)
    obtain ⟨hK, h⟩ := h
    replace st := st.stay hK
    obtain ⟨b28, h⟩ := h
    refine ⟨b28, ?_⟩
    refine And.imp_right (fun h => ?_) h
    refine br_mono (fun h => ?_) (fun h => ?_) h
    · exact h
    · refine rd_l_i64_i64_i64_i64.bx 0 0 st rfl rfl rfl rfl rfl rfl rfl ?_
      refine CallF.mono h (fun v36 w37 h => ?_)
      obtain ⟨hK, h⟩ := h
      replace st := st.stay hK
      obtain ⟨b38, h⟩ := h
      refine ⟨b38, ?_⟩
      refine And.imp_right (fun h => ?_) h
      refine br_mono (fun h => ?_) (fun h => ?_) h
      · exact h
      · refine rd_i64.mono (fun i39 h => ?_) h
        refine rd_i64.bx 0 2 st rfl rfl rfl ?_
        refine br_mono (fun h => ?_) (fun h => ?_) h
        · exact h
        · refine rd_i64.mono (fun i41 h => ?_) h
          refine rd_i64.bx 0 3 st rfl rfl rfl ?_
          refine br_mono (fun h => ?_) (fun h => ?_) h
          · exact h
          · replace st := st.drew
            have st43 := st
            refine rd_l_i64_i64_i64.mono (fun a44 n45 c46 i47 i48 i49 h => ?_) h
            refine rd_l_i64_i64_i64_i64.bx 0 0 st43 rfl rfl rfl rfl rfl rfl rfl ?_
            refine CallF.mono h (fun v57 w58 h => ?_)
            obtain ⟨hK, h⟩ := h
            replace st := st.stay hK
            obtain ⟨a59, n60, c61, i62, i63, i64, i65, h⟩ := h
            refine ⟨a59, n60, c61, i62, i63, i64, i65, ?_⟩
            refine And.imp_right (fun h => ?_) h
            refine And.imp_right (fun h => ?_) h
            refine CallF.mono h (fun v66 w67 h => ?_)
            obtain ⟨hK, h⟩ := h
            replace st := st.stay hK
            obtain ⟨b68, h⟩ := h
            refine ⟨b68, ?_⟩
            refine And.imp_right (fun h => ?_) h
            refine And.imp_right (fun h => ?_) h
            refine br_mono (fun h => ?_) (fun h => ?_) h
            · exact h
            · refine rd_l_i64_i64_i64.mono (fun a69 n70 c71 i72 i73 i74 h => ?_) h
              refine rd_l_i64_i64_i64_i64.bx 0 0 st43 rfl rfl rfl rfl rfl rfl rfl ?_
              refine CallF.mono h (fun v82 w83 h => ?_)
              obtain ⟨hK, h⟩ := h
              replace st := st.stay hK
              obtain ⟨a84, n85, c86, i87, i88, i89, i90, h⟩ := h
              refine ⟨a84, n85, c86, i87, i88, i89, i90, ?_⟩
              refine And.imp_right (fun h => ?_) h
              refine And.imp_right (fun h => ?_) h
              refine CallF.mono h (fun v91 w92 h => ?_)
              obtain ⟨hK, h⟩ := h
              replace st := st.stay hK
              obtain ⟨b93, h⟩ := h
              refine ⟨b93, ?_⟩
              refine And.imp_right (fun h => ?_) h
              refine br_mono (fun h => ?_) (fun h => ?_) h
              · exact h
              · refine rd_l_i64_i64_i64_i64.bx 0 0 st rfl rfl rfl rfl rfl rfl rfl ?_
                refine CallF.mono h (fun v101 w102 h => ?_)
                obtain ⟨hK, h⟩ := h
                replace st := st.stay hK
                exact h

/-! ### straightedge/ger.row: function 65 -/
def ger_row.x (A0_0p : Option Addr) (A0_0n A0_0c : Nat) (A0_1 : Int) (A0_2 : Int) (A0_3 : Int) (w : World) (K : Value → World → Prop) : Prop := newB [(.slice A0_0p A0_0n A0_0c), (.int .i64 A0_1), (.int .i64 A0_2), (.int .i64 A0_3)] 66 w fun q1 w2 => newB [(.slice none 0 0), (.int .i64 0), (.int .i64 0), (.int .i64 0), (.int .i64 0)] 24 w2 fun q3 w4 => rd_l w4 q1 fun a5 n6 c7 => rd_i64 w4 (q1.add 1) fun i8 => rd_i64 w4 (q1.add 2) fun i9 => rd_i64 w4 (q1.add 3) fun i10 => stPT q3 0 [(.slice a5 n6 c7), (.int .i64 i8), (.int .i64 1), (.int .i64 i9), (.int .i64 i10)] w4 fun w11 => rd_l_i64_i64_i64_i64 w11 q3 fun a12 n13 c14 i15 i16 i17 i18 => K (.agg ⟨[(.slice a12 n13 c14), (.int .i64 i15), (.int .i64 i16), (.int .i64 i17), (.int .i64 i18)]⟩) w11
theorem ger_row.ok {A0_0p : Option Addr} {A0_0n A0_0c : Nat} {A0_1 : Int} {A0_2 : Int} {A0_3 : Int} {w : World} {K : Value → World → Prop} (h : ger_row.x A0_0p A0_0n A0_0c A0_1 A0_2 A0_3 w K) : ger_row.call [(.agg ⟨[(.slice A0_0p A0_0n A0_0c), (.int .i64 A0_1), (.int .i64 A0_2), (.int .i64 A0_3)]⟩)] w K :=
  callF_of_ex0 (f := Try.f65) Try.func65 rfl mixed (by kernel_rfl) (Eq.mp (by kernel_rfl) h)
/-! the same, the local variables taken out -/
def ger_row.s (A0_0p : Option Addr) (A0_0n A0_0c : Nat) (A0_1 : Int) (A0_2 : Int) (A0_3 : Int) (w : World) (K : Value → World → Prop) : Prop := ∀ (k3 : Nat) (w2 : World), k3 = w.heap.size → k3 < w2.heap.size → Ext w w2 → ∀ (k7 : Nat) (w6 : World), k7 = w2.heap.size → k7 < w6.heap.size → Ext w2 w6 → ∀ w15 : World, Exc k7 w6 w15 → K (.agg ⟨[(.slice A0_0p A0_0n A0_0c), (.int .i64 A0_1), (.int .i64 (1 : Int)), (.int .i64 A0_2), (.int .i64 A0_3)]⟩) w15
theorem ger_row.os {A0_0p : Option Addr} {A0_0n A0_0c : Nat} {A0_1 : Int} {A0_2 : Int} {A0_3 : Int} {w : World} {K : Value → World → Prop} (h : ger_row.s A0_0p A0_0n A0_0c A0_1 A0_2 A0_3 w K) : ger_row.call [(.agg ⟨[(.slice A0_0p A0_0n A0_0c), (.int .i64 A0_1), (.int .i64 A0_2), (.int .i64 A0_3)]⟩)] w K := by
  refine ger_row.ok ?_
  have st := St.nil w
  unfold ger_row.x
  unfold ger_row.s at h
  refine St.new (St.nil _) (fun q1 w2 hk hlt he st => ?_)
  replace h := h q1.block w2 hk hlt he
  refine St.new st (fun q5 w6 hk hlt he st => ?_)
  replace h := h q5.block w6 hk hlt he
  refine rd_l.bx 1 0 st rfl rfl rfl ?_
  refine rd_i64.bx 1 1 st rfl rfl rfl ?_
  refine rd_i64.bx 1 2 st rfl rfl rfl ?_
  refine rd_i64.bx 1 3 st rfl rfl rfl ?_
  refine St.put 0 0 st rfl rfl rfl rfl (fun w15 he st => ?_)
  replace h := h w15 he
  refine rd_l_i64_i64_i64_i64.bx 0 0 st rfl rfl rfl rfl rfl rfl rfl ?_
  exact h

/-! ### straightedge/ger.each: function 66 -/
def ger_each.b3 (K : Value → World → Prop) (h3 : FuncId → List Value → List Value → Option Addr → Int → Int → World → Prop) (h7 : FuncId → List Value → List Value → Option Addr → Int → Option Addr → Int → Int → Int → Int → World → Prop) (z1g : FuncId) (z1f z1k : List Value) (z2 : Option Addr) (z11 : Int) (z12 : Int) (w : World) : Prop := br (decide (z12 < z11)) (ptrSome z2 fun q1 => rd_l_i64_i64_i64_i64 w q1 fun a2 n3 c4 i5 i6 i7 i8 => view_Col.call [(.agg ⟨[(.slice a2 n3 c4), (.int .i64 i5), (.int .i64 i6), (.int .i64 i7), (.int .i64 i8)]⟩), (.int .i64 z12)] w fun v9 w10 => ∃ (a11 : Option Addr) (n12 c13 : Nat), ∃ i14 : Int, ∃ i15 : Int, ∃ i16 : Int, v9 = (.agg ⟨[(.slice a11 n12 c13), (.int .i64 i14), (.int .i64 i15), (.int .i64 i16)]⟩) ∧ newB [(.slice none 0 0), (.int .i64 0), (.int .i64 0), (.int .i64 0)] 66 w10 fun q17 w18 => stPT q17 0 [(.slice a11 n12 c13), (.int .i64 i14), (.int .i64 i15), (.int .i64 i16)] w18 fun w19 => rd_i64 w19 (q17.add 2) fun i20 => h7 z1g z1f z1k z2 z12 (some q17) z11 z12 i20 0 w19) (K (.tuple ⟨[]⟩) w)
def ger_each.b7 (K : Value → World → Prop) (h3 : FuncId → List Value → List Value → Option Addr → Int → Int → World → Prop) (h7 : FuncId → List Value → List Value → Option Addr → Int → Option Addr → Int → Int → Int → Int → World → Prop) (z1g : FuncId) (z1f z1k : List Value) (z2 : Option Addr) (z4 : Int) (z5 : Option Addr) (z11 : Int) (z12 : Int) (z19 : Int) (z20 : Int) (w : World) : Prop := br (decide (z20 < z19)) (ptrSome z5 fun q1 => rd_l w q1 fun a2 n3 c4 => ptrSome z5 fun q5 => rd_i64 w (q5.add 1) fun i6 => ptrSome a2 fun q7 => (0 : Int) ≤ (IntKind.i64.wrap (i6 + z20)) ∧ (IntKind.i64.wrap (i6 + z20)) < ((n3 : Nat) : Int) ∧ CallF prog z1g (z1f ++ [(.int .i64 z20), (.int .i64 z4), (.pointer (some (q7.add (Int.toNat (IntKind.i64.wrap (i6 + z20))))))] ++ z1k) w fun v8 w9 => v8 = (.tuple ⟨[]⟩) ∧ h7 z1g z1f z1k z2 z4 z5 z11 z12 z19 (IntKind.i64.wrap (z20 + 1)) w9) (h3 z1g z1f z1k z2 z11 (IntKind.i64.wrap (z12 + 1)) w)
def ger_each.H (K : Value → World → Prop) : Nat → (FuncId → List Value → List Value → Option Addr → Int → Int → World → Prop) × (FuncId → List Value → List Value → Option Addr → Int → Option Addr → Int → Int → Int → Int → World → Prop)
  | 0 => (fun _ _ _ _ _ _ _ => False, fun _ _ _ _ _ _ _ _ _ _ _ => False)
  | fu + 1 => (ger_each.b3 K (ger_each.H K fu).1 (ger_each.H K fu).2, ger_each.b7 K (ger_each.H K fu).1 (ger_each.H K fu).2)
def ger_each.x (fu : Nat) (A0_0p : Option Addr) (A0_0n A0_0c : Nat) (A0_1 : Int) (A0_2 : Int) (A0_3 : Int) (A0_4 : Int) (A1g : FuncId) (A1f A1k : List Value) (w : World) (K : Value → World → Prop) : Prop := newB [(.slice A0_0p A0_0n A0_0c), (.int .i64 A0_1), (.int .i64 A0_2), (.int .i64 A0_3), (.int .i64 A0_4)] 24 w fun q1 w2 => rd_i64 w2 (q1.add 2) fun i3 => br (i3 == 0) (K (.tuple ⟨[]⟩) w2) (rd_i64 w2 (q1.add 3) fun i4 => (ger_each.H K fu).1 A1g A1f A1k (some q1) i4 0 w2)
def ger_each.hd (K : Value → World → Prop) (n id : Nat) (t : List Value) (w : World) : Prop :=
  match id with
  | 3 => asV (t.getD 1 undef) fun z1g z1f z1k => asP (t.getD 2 undef) fun z2 => asI .i64 (t.getD 11 undef) fun z11 => asI .i64 (t.getD 12 undef) fun z12 => (ger_each.H K n).1 z1g z1f z1k z2 z11 z12 w
  | 7 => asV (t.getD 1 undef) fun z1g z1f z1k => asP (t.getD 2 undef) fun z2 => asI .i64 (t.getD 4 undef) fun z4 => asP (t.getD 5 undef) fun z5 => asI .i64 (t.getD 11 undef) fun z11 => asI .i64 (t.getD 12 undef) fun z12 => asI .i64 (t.getD 19 undef) fun z19 => asI .i64 (t.getD 20 undef) fun z20 => (ger_each.H K n).2 z1g z1f z1k z2 z4 z5 z11 z12 z19 z20 w
  | _ => False
theorem ger_each.t3 (K : Value → World → Prop) (n : Nat) (z1g : FuncId) (z1f z1k : List Value) (z2 : Option Addr) (z11 : Int) (z12 : Int) (u : Nat → Value) (w : World) (h : (ger_each.H K (n + 1)).1 z1g z1f z1k z2 z11 z12 w) :
    exT prog [3, 7] (ger_each.hd K n) Try.f66 3 36 [(1, (.func (.func z1g) ⟨z1f⟩ ⟨z1k⟩)), (2, (.pointer z2)), (11, (.int .i64 z11)), (12, (.int .i64 z12))] u w K := Eq.mp (by kernel_rfl) h
theorem ger_each.t7 (K : Value → World → Prop) (n : Nat) (z1g : FuncId) (z1f z1k : List Value) (z2 : Option Addr) (z4 : Int) (z5 : Option Addr) (z11 : Int) (z12 : Int) (z19 : Int) (z20 : Int) (u : Nat → Value) (w : World) (h : (ger_each.H K (n + 1)).2 z1g z1f z1k z2 z4 z5 z11 z12 z19 z20 w) :
    exT prog [3, 7] (ger_each.hd K n) Try.f66 7 36 [(1, (.func (.func z1g) ⟨z1f⟩ ⟨z1k⟩)), (2, (.pointer z2)), (4, (.int .i64 z4)), (5, (.pointer z5)), (11, (.int .i64 z11)), (12, (.int .i64 z12)), (19, (.int .i64 z19)), (20, (.int .i64 z20))] u w K := Eq.mp (by kernel_rfl) h
theorem ger_each.ok (fu : Nat) {A0_0p : Option Addr} {A0_0n A0_0c : Nat} {A0_1 : Int} {A0_2 : Int} {A0_3 : Int} {A0_4 : Int} {A1g : FuncId} {A1f A1k : List Value} {w : World} {K : Value → World → Prop} (h : ger_each.x fu A0_0p A0_0n A0_0c A0_1 A0_2 A0_3 A0_4 A1g A1f A1k w K) : ger_each.call [(.agg ⟨[(.slice A0_0p A0_0n A0_0c), (.int .i64 A0_1), (.int .i64 A0_2), (.int .i64 A0_3), (.int .i64 A0_4)]⟩), (.func (.func A1g) ⟨A1f⟩ ⟨A1k⟩)] w K := by
  refine callF_of_ex (cuts := [3, 7]) (H := ger_each.hd K) (N := 36) Try.func66 rfl mixed (by kernel_rfl) ?_ ?_ ?_ rfl (n := fu) (Eq.mp (by kernel_rfl) h)
  · intro id hid; simp only [List.mem_cons, List.not_mem_nil, or_false] at hid; rcases hid with rfl | rfl
    · exact (by kernel_rfl : (stacks (bodyOf Try.f66) []).filter (headIs 3) = [at_ (bodyOf Try.f66) 3])
    · exact (by kernel_rfl : (stacks (bodyOf Try.f66) []).filter (headIs 7) = [at_ (bodyOf Try.f66) 7])
  · intro id t w h
    unfold ger_each.hd at h
    split at h
    · obtain ⟨z1g, z1f, z1k, _, h⟩ := asV_elim h
      obtain ⟨z2, _, h⟩ := asP_elim h
      obtain ⟨z11, _, h⟩ := asI_elim h
      obtain ⟨z12, _, h⟩ := asI_elim h
      exact h
    · obtain ⟨z1g, z1f, z1k, _, h⟩ := asV_elim h
      obtain ⟨z2, _, h⟩ := asP_elim h
      obtain ⟨z4, _, h⟩ := asI_elim h
      obtain ⟨z5, _, h⟩ := asP_elim h
      obtain ⟨z11, _, h⟩ := asI_elim h
      obtain ⟨z12, _, h⟩ := asI_elim h
      obtain ⟨z19, _, h⟩ := asI_elim h
      obtain ⟨z20, _, h⟩ := asI_elim h
      exact h
    · exact h
  · intro n id hid t w hl h; simp only [List.mem_cons, List.not_mem_nil, or_false] at hid; rcases hid with rfl | rfl
    · replace h : asV (t.getD 1 undef) fun z1g z1f z1k => asP (t.getD 2 undef) fun z2 => asI .i64 (t.getD 11 undef) fun z11 => asI .i64 (t.getD 12 undef) fun z12 => (ger_each.H K (n + 1)).1 z1g z1f z1k z2 z11 z12 w := h
      obtain ⟨z1g, z1f, z1k, e1, h⟩ := asV_elim h
      obtain ⟨z2, e2, h⟩ := asP_elim h
      obtain ⟨z11, e11, h⟩ := asI_elim h
      obtain ⟨z12, e12, h⟩ := asI_elim h
      rw [mk_of hl [(1, (.func (.func z1g) ⟨z1f⟩ ⟨z1k⟩)), (2, (.pointer z2)), (11, (.int .i64 z11)), (12, (.int .i64 z12))] (by simp only [List.forall_mem_cons, List.not_mem_nil, false_implies, implies_true, and_true]; exact ⟨e1, e2, e11, e12⟩)]
      exact ger_each.t3 K n z1g z1f z1k z2 z11 z12 _ w h
    · replace h : asV (t.getD 1 undef) fun z1g z1f z1k => asP (t.getD 2 undef) fun z2 => asI .i64 (t.getD 4 undef) fun z4 => asP (t.getD 5 undef) fun z5 => asI .i64 (t.getD 11 undef) fun z11 => asI .i64 (t.getD 12 undef) fun z12 => asI .i64 (t.getD 19 undef) fun z19 => asI .i64 (t.getD 20 undef) fun z20 => (ger_each.H K (n + 1)).2 z1g z1f z1k z2 z4 z5 z11 z12 z19 z20 w := h
      obtain ⟨z1g, z1f, z1k, e1, h⟩ := asV_elim h
      obtain ⟨z2, e2, h⟩ := asP_elim h
      obtain ⟨z4, e4, h⟩ := asI_elim h
      obtain ⟨z5, e5, h⟩ := asP_elim h
      obtain ⟨z11, e11, h⟩ := asI_elim h
      obtain ⟨z12, e12, h⟩ := asI_elim h
      obtain ⟨z19, e19, h⟩ := asI_elim h
      obtain ⟨z20, e20, h⟩ := asI_elim h
      rw [mk_of hl [(1, (.func (.func z1g) ⟨z1f⟩ ⟨z1k⟩)), (2, (.pointer z2)), (4, (.int .i64 z4)), (5, (.pointer z5)), (11, (.int .i64 z11)), (12, (.int .i64 z12)), (19, (.int .i64 z19)), (20, (.int .i64 z20))] (by simp only [List.forall_mem_cons, List.not_mem_nil, false_implies, implies_true, and_true]; exact ⟨e1, e2, e4, e5, e11, e12, e19, e20⟩)]
      exact ger_each.t7 K n z1g z1f z1k z2 z4 z5 z11 z12 z19 z20 _ w h
/-! the same, the local variables taken out -/
def ger_each.e3 (K : Value → World → Prop) (h3 : FuncId → List Value → List Value → Nat → Option Addr → Nat → Nat → Int → Int → Int → Int → Int → Int → World → Prop) (h7 : FuncId → List Value → List Value → Nat → Option Addr → Nat → Nat → Int → Int → Int → Int → Int → Nat → Option Addr → Nat → Nat → Int → Int → Int → Int → Int → Int → Int → World → Prop) (z1g : FuncId) (z1f z1k : List Value) (k2 : Nat) (y2_0p : Option Addr) (y2_0n y2_0c : Nat) (y2_1 : Int) (y2_2 : Int) (y2_3 : Int) (y2_4 : Int) (z11 : Int) (z12 : Int) (w : World) : Prop := br (decide (z12 < z11)) (view_Col.call [(.agg ⟨[(.slice y2_0p y2_0n y2_0c), (.int .i64 y2_1), (.int .i64 y2_2), (.int .i64 y2_3), (.int .i64 y2_4)]⟩), (.int .i64 z12)] w fun v9 w10 => Stay [k2] w w10 ∧ ∃ (a11 : Option Addr) (n12 c13 : Nat), ∃ i14 : Int, ∃ i15 : Int, ∃ i16 : Int, v9 = (.agg ⟨[(.slice a11 n12 c13), (.int .i64 i14), (.int .i64 i15), (.int .i64 i16)]⟩) ∧ ∀ (k19 : Nat) (w18 : World), k19 = w10.heap.size → k19 < w18.heap.size → Ext w10 w18 → ∀ w21 : World, Exc k19 w18 w21 → h7 z1g z1f z1k k2 y2_0p y2_0n y2_0c y2_1 y2_2 y2_3 y2_4 z12 k19 a11 n12 c13 i14 i15 i16 z11 z12 i15 0 w21) (K (.tuple ⟨[]⟩) w)
def ger_each.e7 (K : Value → World → Prop) (h3 : FuncId → List Value → List Value → Nat → Option Addr → Nat → Nat → Int → Int → Int → Int → Int → Int → World → Prop) (h7 : FuncId → List Value → List Value → Nat → Option Addr → Nat → Nat → Int → Int → Int → Int → Int → Nat → Option Addr → Nat → Nat → Int → Int → Int → Int → Int → Int → Int → World → Prop) (z1g : FuncId) (z1f z1k : List Value) (k2 : Nat) (y2_0p : Option Addr) (y2_0n y2_0c : Nat) (y2_1 : Int) (y2_2 : Int) (y2_3 : Int) (y2_4 : Int) (z4 : Int) (k5 : Nat) (y5_0p : Option Addr) (y5_0n y5_0c : Nat) (y5_1 : Int) (y5_2 : Int) (y5_3 : Int) (z11 : Int) (z12 : Int) (z19 : Int) (z20 : Int) (w : World) : Prop := br (decide (z20 < z19)) (ptrSome y5_0p fun q7 => (0 : Int) ≤ (IntKind.i64.wrap (y5_1 + z20)) ∧ (IntKind.i64.wrap (y5_1 + z20)) < ((y5_0n : Nat) : Int) ∧ CallF prog z1g (z1f ++ [(.int .i64 z20), (.int .i64 z4), (.pointer (some (q7.add (Int.toNat (IntKind.i64.wrap (y5_1 + z20))))))] ++ z1k) w fun v8 w9 => Stay [k2, k5] w w9 ∧ v8 = (.tuple ⟨[]⟩) ∧ h7 z1g z1f z1k k2 y2_0p y2_0n y2_0c y2_1 y2_2 y2_3 y2_4 z4 k5 y5_0p y5_0n y5_0c y5_1 y5_2 y5_3 z11 z12 z19 (IntKind.i64.wrap (z20 + 1)) w9) (h3 z1g z1f z1k k2 y2_0p y2_0n y2_0c y2_1 y2_2 y2_3 y2_4 z11 (IntKind.i64.wrap (z12 + 1)) w)
def ger_each.I (K : Value → World → Prop) : Nat → (FuncId → List Value → List Value → Nat → Option Addr → Nat → Nat → Int → Int → Int → Int → Int → Int → World → Prop) × (FuncId → List Value → List Value → Nat → Option Addr → Nat → Nat → Int → Int → Int → Int → Int → Nat → Option Addr → Nat → Nat → Int → Int → Int → Int → Int → Int → Int → World → Prop)
  | 0 => (fun _ _ _ _ _ _ _ _ _ _ _ _ _ _ => False, fun _ _ _ _ _ _ _ _ _ _ _ _ _ _ _ _ _ _ _ _ _ _ _ _ => False)
  | fu + 1 => (ger_each.e3 K (ger_each.I K fu).1 (ger_each.I K fu).2, ger_each.e7 K (ger_each.I K fu).1 (ger_each.I K fu).2)
def ger_each.s (fu : Nat) (A0_0p : Option Addr) (A0_0n A0_0c : Nat) (A0_1 : Int) (A0_2 : Int) (A0_3 : Int) (A0_4 : Int) (A1g : FuncId) (A1f A1k : List Value) (w : World) (K : Value → World → Prop) : Prop := ∀ (k3 : Nat) (w2 : World), k3 = w.heap.size → k3 < w2.heap.size → Ext w w2 → br (A0_2 == 0) (K (.tuple ⟨[]⟩) w2) ((ger_each.I K fu).1 A1g A1f A1k k3 A0_0p A0_0n A0_0c A0_1 A0_2 A0_3 A0_4 A0_3 0 w2)
theorem ger_each.b3_s {K : Value → World → Prop} {x3 : FuncId → List Value → List Value → Option Addr → Int → Int → World → Prop} {x7 : FuncId → List Value → List Value → Option Addr → Int → Option Addr → Int → Int → Int → Int → World → Prop} {s3 : FuncId → List Value → List Value → Nat → Option Addr → Nat → Nat → Int → Int → Int → Int → Int → Int → World → Prop} {s7 : FuncId → List Value → List Value → Nat → Option Addr → Nat → Nat → Int → Int → Int → Int → Int → Nat → Option Addr → Nat → Nat → Int → Int → Int → Int → Int → Int → Int → World → Prop} (i3 : ∀ {z1g : FuncId} {z1f z1k : List Value} {q2 : Addr} {y2_0p : Option Addr} {y2_0n y2_0c : Nat} {y2_1 : Int} {y2_2 : Int} {y2_3 : Int} {y2_4 : Int} {z11 : Int} {z12 : Int} {w : World}, s3 z1g z1f z1k q2.block y2_0p y2_0n y2_0c y2_1 y2_2 y2_3 y2_4 z11 z12 w → St w [(q2, [(.slice y2_0p y2_0n y2_0c), (.int .i64 y2_1), (.int .i64 y2_2), (.int .i64 y2_3), (.int .i64 y2_4)])] → x3 z1g z1f z1k (some q2) z11 z12 w) (i7 : ∀ {z1g : FuncId} {z1f z1k : List Value} {q2 : Addr} {y2_0p : Option Addr} {y2_0n y2_0c : Nat} {y2_1 : Int} {y2_2 : Int} {y2_3 : Int} {y2_4 : Int} {z4 : Int} {q5 : Addr} {y5_0p : Option Addr} {y5_0n y5_0c : Nat} {y5_1 : Int} {y5_2 : Int} {y5_3 : Int} {z11 : Int} {z12 : Int} {z19 : Int} {z20 : Int} {w : World}, s7 z1g z1f z1k q2.block y2_0p y2_0n y2_0c y2_1 y2_2 y2_3 y2_4 z4 q5.block y5_0p y5_0n y5_0c y5_1 y5_2 y5_3 z11 z12 z19 z20 w → St w [(q2, [(.slice y2_0p y2_0n y2_0c), (.int .i64 y2_1), (.int .i64 y2_2), (.int .i64 y2_3), (.int .i64 y2_4)]), (q5, [(.slice y5_0p y5_0n y5_0c), (.int .i64 y5_1), (.int .i64 y5_2), (.int .i64 y5_3)])] → x7 z1g z1f z1k (some q2) z4 (some q5) z11 z12 z19 z20 w) {z1g : FuncId} {z1f z1k : List Value} {q2 : Addr} {y2_0p : Option Addr} {y2_0n y2_0c : Nat} {y2_1 : Int} {y2_2 : Int} {y2_3 : Int} {y2_4 : Int} {z11 : Int} {z12 : Int} {w : World} (h : ger_each.e3 K s3 s7 z1g z1f z1k q2.block y2_0p y2_0n y2_0c y2_1 y2_2 y2_3 y2_4 z11 z12 w) (st : St w [(q2, [(.slice y2_0p y2_0n y2_0c), (.int .i64 y2_1), (.int .i64 y2_2), (.int .i64 y2_3), (.int .i64 y2_4)])]) : ger_each.b3 K x3 x7 z1g z1f z1k (some q2) z11 z12 w := by
  unfold ger_each.b3
  unfold ger_each.e3 at h
  refine br_mono (fun h => ?_) (fun h => ?_) h
  · refine ptrSome_intro rfl ?_
    refine rd_l_i64_i64_i64_i64.bx 0 0 st rfl rfl rfl rfl rfl rfl rfl ?_
    refine CallF.mono h (fun v9 w10 h => ?_)
    obtain ⟨hK, h⟩ := h
    replace st := st.stay hK
    obtain ⟨a11, n12, c13, i14, i15, i16, h⟩ := h
    refine ⟨a11, n12, c13, i14, i15, i16, ?_⟩
    refine And.imp_right (fun h => ?_) h
    refine St.new st (fun q17 w18 hk hlt he st => ?_)
    replace h := h q17.block w18 hk hlt he
    refine St.put 0 0 st rfl rfl rfl rfl (fun w21 he st => ?_)
    replace h := h w21 he
    refine rd_i64.bx 0 2 st rfl rfl rfl ?_
    exact i7 h (st.pick [1, 0] (by decide))
  · exact h
theorem ger_each.b7_s {K : Value → World → Prop} {x3 : FuncId → List Value → List Value → Option Addr → Int → Int → World → Prop} {x7 : FuncId → List Value → List Value → Option Addr → Int → Option Addr → Int → Int → Int → Int → World → Prop} {s3 : FuncId → List Value → List Value → Nat → Option Addr → Nat → Nat → Int → Int → Int → Int → Int → Int → World → Prop} {s7 : FuncId → List Value → List Value → Nat → Option Addr → Nat → Nat → Int → Int → Int → Int → Int → Nat → Option Addr → Nat → Nat → Int → Int → Int → Int → Int → Int → Int → World → Prop} (i3 : ∀ {z1g : FuncId} {z1f z1k : List Value} {q2 : Addr} {y2_0p : Option Addr} {y2_0n y2_0c : Nat} {y2_1 : Int} {y2_2 : Int} {y2_3 : Int} {y2_4 : Int} {z11 : Int} {z12 : Int} {w : World}, s3 z1g z1f z1k q2.block y2_0p y2_0n y2_0c y2_1 y2_2 y2_3 y2_4 z11 z12 w → St w [(q2, [(.slice y2_0p y2_0n y2_0c), (.int .i64 y2_1), (.int .i64 y2_2), (.int .i64 y2_3), (.int .i64 y2_4)])] → x3 z1g z1f z1k (some q2) z11 z12 w) (i7 : ∀ {z1g : FuncId} {z1f z1k : List Value} {q2 : Addr} {y2_0p : Option Addr} {y2_0n y2_0c : Nat} {y2_1 : Int} {y2_2 : Int} {y2_3 : Int} {y2_4 : Int} {z4 : Int} {q5 : Addr} {y5_0p : Option Addr} {y5_0n y5_0c : Nat} {y5_1 : Int} {y5_2 : Int} {y5_3 : Int} {z11 : Int} {z12 : Int} {z19 : Int} {z20 : Int} {w : World}, s7 z1g z1f z1k q2.block y2_0p y2_0n y2_0c y2_1 y2_2 y2_3 y2_4 z4 q5.block y5_0p y5_0n y5_0c y5_1 y5_2 y5_3 z11 z12 z19 z20 w → St w [(q2, [(.slice y2_0p y2_0n y2_0c), (.int .i64 y2_1), (.int .i64 y2_2), (.int .i64 y2_3), (.int .i64 y2_4)]), (q5, [(.slice y5_0p y5_0n y5_0c), (.int .i64 y5_1), (.int .i64 y5_2), (.int .i64 y5_3)])] → x7 z1g z1f z1k (some q2) z4 (some q5) z11 z12 z19 z20 w) {z1g : FuncId} {z1f z1k : List Value} {q2 : Addr} {y2_0p : Option Addr} {y2_0n y2_0c : Nat} {y2_1 : Int} {y2_2 : Int} {y2_3 : Int} {y2_4 : Int} {z4 : Int} {q5 : Addr} {y5_0p : Option Addr} {y5_0n y5_0c : Nat} {y5_1 : Int} {y5_2 : Int} {y5_3 : Int} {z11 : Int} {z12 : Int} {z19 : Int} {z20 : Int} {w : World} (h : ger_each.e7 K s3 s7 z1g z1f z1k q2.block y2_0p y2_0n y2_0c y2_1 y2_2 y2_3 y2_4 z4 q5.block y5_0p y5_0n y5_0c y5_1 y5_2 y5_3 z11 z12 z19 z20 w) (st : St w [(q2, [(.slice y2_0p y2_0n y2_0c), (.int .i64 y2_1), (.int .i64 y2_2), (.int .i64 y2_3), (.int .i64 y2_4)]), (q5, [(.slice y5_0p y5_0n y5_0c), (.int .i64 y5_1), (.int .i64 y5_2), (.int .i64 y5_3)])]) : ger_each.b7 K x3 x7 z1g z1f z1k (some q2) z4 (some q5) z11 z12 z19 z20 w := by
  unfold ger_each.b7
  unfold ger_each.e7 at h
  refine br_mono (fun h => ?_) (fun h => ?_) h
  · refine ptrSome_intro rfl ?_
    refine rd_l.bx 1 0 st rfl rfl rfl ?_
    refine ptrSome_intro rfl ?_
    refine rd_i64.bx 1 1 st rfl rfl rfl ?_
    refine ptrSome_mono (fun q7 h => ?_) h
    refine And.imp_right (fun h => ?_) h
    refine And.imp_right (fun h => ?_) h
    refine CallF.mono h (fun v8 w9 h => ?_)
    obtain ⟨hK, h⟩ := h
    replace st := st.stay hK
    refine And.imp_right (fun h => ?_) h
    exact i7 h (st.pick [0, 1] (by decide))
  · exact i3 h (st.pick [0] (by decide))
theorem ger_each.H_s {K : Value → World → Prop} (fu : Nat) : (∀ {z1g : FuncId} {z1f z1k : List Value} {q2 : Addr} {y2_0p : Option Addr} {y2_0n y2_0c : Nat} {y2_1 : Int} {y2_2 : Int} {y2_3 : Int} {y2_4 : Int} {z11 : Int} {z12 : Int} {w : World}, (ger_each.I K fu).1 z1g z1f z1k q2.block y2_0p y2_0n y2_0c y2_1 y2_2 y2_3 y2_4 z11 z12 w → St w [(q2, [(.slice y2_0p y2_0n y2_0c), (.int .i64 y2_1), (.int .i64 y2_2), (.int .i64 y2_3), (.int .i64 y2_4)])] → (ger_each.H K fu).1 z1g z1f z1k (some q2) z11 z12 w) ∧ (∀ {z1g : FuncId} {z1f z1k : List Value} {q2 : Addr} {y2_0p : Option Addr} {y2_0n y2_0c : Nat} {y2_1 : Int} {y2_2 : Int} {y2_3 : Int} {y2_4 : Int} {z4 : Int} {q5 : Addr} {y5_0p : Option Addr} {y5_0n y5_0c : Nat} {y5_1 : Int} {y5_2 : Int} {y5_3 : Int} {z11 : Int} {z12 : Int} {z19 : Int} {z20 : Int} {w : World}, (ger_each.I K fu).2 z1g z1f z1k q2.block y2_0p y2_0n y2_0c y2_1 y2_2 y2_3 y2_4 z4 q5.block y5_0p y5_0n y5_0c y5_1 y5_2 y5_3 z11 z12 z19 z20 w → St w [(q2, [(.slice y2_0p y2_0n y2_0c), (.int .i64 y2_1), (.int .i64 y2_2), (.int .i64 y2_3), (.int .i64 y2_4)]), (q5, [(.slice y5_0p y5_0n y5_0c), (.int .i64 y5_1), (.int .i64 y5_2), (.int .i64 y5_3)])] → (ger_each.H K fu).2 z1g z1f z1k (some q2) z4 (some q5) z11 z12 z19 z20 w) := by
  induction fu with
  | zero => exact ⟨fun h _ => False.elim h, fun h _ => False.elim h⟩
  | succ fu ih => exact ⟨fun h st => ger_each.b3_s (K := K) (x3 := (ger_each.H K fu).1) (s3 := (ger_each.I K fu).1) (x7 := (ger_each.H K fu).2) (s7 := (ger_each.I K fu).2) ih.1 ih.2 h st, fun h st => ger_each.b7_s (K := K) (x3 := (ger_each.H K fu).1) (s3 := (ger_each.I K fu).1) (x7 := (ger_each.H K fu).2) (s7 := (ger_each.I K fu).2) ih.1 ih.2 h st⟩
theorem ger_each.os (fu : Nat) {A0_0p : Option Addr} {A0_0n A0_0c : Nat} {A0_1 : Int} {A0_2 : Int} {A0_3 : Int} {A0_4 : Int} {A1g : FuncId} {A1f A1k : List Value} {w : World} {K : Value → World → Prop} (h : ger_each.s fu A0_0p A0_0n A0_0c A0_1 A0_2 A0_3 A0_4 A1g A1f A1k w K) : ger_each.call [(.agg ⟨[(.slice A0_0p A0_0n A0_0c), (.int .i64 A0_1), (.int .i64 A0_2), (.int .i64 A0_3), (.int .i64 A0_4)]⟩), (.func (.func A1g) ⟨A1f⟩ ⟨A1k⟩)] w K := by
  refine ger_each.ok fu ?_
  have st := St.nil w
  unfold ger_each.x
  unfold ger_each.s at h
  refine St.new (St.nil _) (fun q1 w2 hk hlt he st => ?_)
  replace h := h q1.block w2 hk hlt he
  refine rd_i64.bx 0 2 st rfl rfl rfl ?_
  refine br_mono (fun h => ?_) (fun h => ?_) h
  · exact h
  · refine rd_i64.bx 0 3 st rfl rfl rfl ?_
    exact (ger_each.H_s fu).1 h (st.pick [0] (by decide))

/-! ### straightedge/ger.Ger$1: function 67 -/
def ger_Ger_1.x (A0 : Int) (A1 : Int) (A2 : Option Addr) (fv0 : Option Addr) (fv1 : Option Addr) (fv2 : Option Addr) (w : World) (K : Value → World → Prop) : Prop := ptrSome fv0 fun q2 => rd_f64 w.drew q2 fun x3 => ptrSome fv1 fun q4 => rd_l w.drew q4 fun a5 n6 c7 => ptrSome fv1 fun q8 => rd_i64 w.drew (q8.add 1) fun i9 => ptrSome fv1 fun q10 => rd_i64 w.drew (q10.add 3) fun i11 => ptrSome a5 fun q12 => (0 : Int) ≤ (IntKind.i64.wrap (i9 + (IntKind.i64.wrap (A1 * i11)))) ∧ (IntKind.i64.wrap (i9 + (IntKind.i64.wrap (A1 * i11)))) < ((n6 : Nat) : Int) ∧ rd_f64 w.drew (q12.add (Int.toNat (IntKind.i64.wrap (i9 + (IntKind.i64.wrap (A1 * i11)))))) fun x13 => fop .mul .f64 x3 x13 w.drew fun x14 w15 => ptrSome A2 fun q17 => rd_f64 w15.drew q17 fun x18 => ptrSome fv2 fun q19 => rd_l w15.drew q19 fun a20 n21 c22 => ptrSome fv2 fun q23 => rd_i64 w15.drew (q23.add 1) fun i24 => ptrSome fv2 fun q25 => rd_i64 w15.drew (q25.add 3) fun i26 => ptrSome a20 fun q27 => (0 : Int) ≤ (IntKind.i64.wrap (i24 + (IntKind.i64.wrap (A0 * i26)))) ∧ (IntKind.i64.wrap (i24 + (IntKind.i64.wrap (A0 * i26)))) < ((n21 : Nat) : Int) ∧ rd_f64 w15.drew (q27.add (Int.toNat (IntKind.i64.wrap (i24 + (IntKind.i64.wrap (A0 * i26)))))) fun x28 => fop .mul .f64 x14 x28 w15.drew fun x29 w30 => Kept w15.drew w30 ∧ fop .add .f64 x18 x29 w30 fun x31 w32 => ptrSome A2 fun q33 => stPT q33 0 [(.float .f64 x31)] w32 fun w34 => K (.tuple ⟨[]⟩) w34
theorem ger_Ger_1.ok {A0 : Int} {A1 : Int} {A2 : Option Addr} {fv0 : Option Addr} {fv1 : Option Addr} {fv2 : Option Addr} {w : World} {K : Value → World → Prop} (h : ger_Ger_1.x A0 A1 A2 fv0 fv1 fv2 w K) : ger_Ger_1.call [(.int .i64 A0), (.int .i64 A1), (.pointer A2), (.pointer fv0), (.pointer fv1), (.pointer fv2)] w K :=
  callF_of_ex0 (f := Try.f67) Try.func67 rfl mixed (by kernel_rfl) (Eq.mp (by kernel_rfl) h)

end Go.Proofs.Ytgdkahbnepafgaa

/-! ### AGmove -/
/- The explicit forms of the functions of one package, and that the calls do what they say. Written by wip/tools/wk2.py. -/
set_option maxHeartbeats 4000000
set_option maxRecDepth 100000
set_option linter.unusedVariables false
namespace Go.Proofs.Ytgdkahbnepafgaa
open Go Go.Wk

/-! ### straightedge/move.Clone: function 58 -/
def move_Clone.x (A0_0p : Option Addr) (A0_0n A0_0c : Nat) (A0_1 : Int) (A0_2 : Int) (A0_3 : Int) (A0_4 : Int) (w : World) (K : Value → World → Prop) : Prop := newB [(.slice A0_0p A0_0n A0_0c), (.int .i64 A0_1), (.int .i64 A0_2), (.int .i64 A0_3), (.int .i64 A0_4)] 24 w fun q1 w2 => newB [(.slice none 0 0), (.int .i64 0), (.int .i64 0), (.int .i64 0), (.int .i64 0)] 24 w2 fun q3 w4 => rd_l_i64_i64_i64_i64 w4 q1 fun a5 n6 c7 i8 i9 i10 i11 => view_Good.call [(.agg ⟨[(.slice a5 n6 c7), (.int .i64 i8), (.int .i64 i9), (.int .i64 i10), (.int .i64 i11)]⟩)] w4 fun v12 w13 => ∃ b14 : Bool, v12 = (.bool b14) ∧ br (!b14) (stPT q3 0 [(.slice none 0 0), (.int .i64 0), (.int .i64 0), (.int .i64 0), (.int .i64 0)] w13 fun w15 => rd_l_i64_i64_i64_i64 w15 q3 fun a16 n17 c18 i19 i20 i21 i22 => K (.tuple ⟨[(.agg ⟨[(.slice a16 n17 c18), (.int .i64 i19), (.int .i64 i20), (.int .i64 i21), (.int .i64 i22)]⟩), (.int .i64 1)]⟩) w15) (rd_i64 w13 (q1.add 2) fun i23 => br (decide (i23 > 64)) (stPT q3 0 [(.slice none 0 0), (.int .i64 0), (.int .i64 0), (.int .i64 0), (.int .i64 0)] w13 fun w24 => rd_l_i64_i64_i64_i64 w24 q3 fun a25 n26 c27 i28 i29 i30 i31 => K (.tuple ⟨[(.agg ⟨[(.slice a25 n26 c27), (.int .i64 i28), (.int .i64 i29), (.int .i64 i30), (.int .i64 i31)]⟩), (.int .i64 3)]⟩) w24) (rd_i64 w13 (q1.add 3) fun i32 => br (decide (i32 > 64)) (stPT q3 0 [(.slice none 0 0), (.int .i64 0), (.int .i64 0), (.int .i64 0), (.int .i64 0)] w13 fun w33 => rd_l_i64_i64_i64_i64 w33 q3 fun a34 n35 c36 i37 i38 i39 i40 => K (.tuple ⟨[(.agg ⟨[(.slice a34 n35 c36), (.int .i64 i37), (.int .i64 i38), (.int .i64 i39), (.int .i64 i40)]⟩), (.int .i64 3)]⟩) w33) (rd_i64 w13 (q1.add 2) fun i41 => rd_i64 w13 (q1.add 3) fun i42 => view_Dense.call [(.int .i64 i41), (.int .i64 i42), (.slice none 0 0)] w13 fun v43 w44 => ∃ (a45 : Option Addr) (n46 c47 : Nat), ∃ i48 : Int, ∃ i49 : Int, ∃ i50 : Int, ∃ i51 : Int, v43 = (.agg ⟨[(.slice a45 n46 c47), (.int .i64 i48), (.int .i64 i49), (.int .i64 i50), (.int .i64 i51)]⟩) ∧ newB [(.slice none 0 0), (.int .i64 0), (.int .i64 0), (.int .i64 0), (.int .i64 0)] 24 w44 fun q52 w53 => stPT q52 0 [(.slice a45 n46 c47), (.int .i64 i48), (.int .i64 i49), (.int .i64 i50), (.int .i64 i51)] w53 fun w54 => rd_l w54.drew q52 fun a56 n57 c58 => rd_l_i64_i64_i64_i64 w54.drew q1 fun a59 n60 c61 i62 i63 i64 i65 => view_Numbers.call [(.agg ⟨[(.slice a59 n60 c61), (.int .i64 i62), (.int .i64 i63), (.int .i64 i64), (.int .i64 i65)]⟩)] w54.drew fun v66 w67 => ∃ (a68 : Option Addr) (n69 c70 : Nat), v66 = (.slice a68 n69 c70) ∧ Kept w54.drew w67 ∧ Raw prog (Builtin.copy_ #[22, 22] 3 ⟨[(.slice a56 n57 c58), (.slice a68 n69 c70)]⟩) w67 fun v71 w72 => ∃ i73 : Int, v71 = .int .i64 i73 ∧ rd_l_i64_i64_i64_i64 w72 q52 fun a74 n75 c76 i77 i78 i79 i80 => stPT q3 0 [(.slice a74 n75 c76), (.int .i64 i77), (.int .i64 i78), (.int .i64 i79), (.int .i64 i80)] w72 fun w81 => rd_l_i64_i64_i64_i64 w81 q3 fun a82 n83 c84 i85 i86 i87 i88 => K (.tuple ⟨[(.agg ⟨[(.slice a82 n83 c84), (.int .i64 i85), (.int .i64 i86), (.int .i64 i87), (.int .i64 i88)]⟩), (.int .i64 0)]⟩) w81)))
theorem move_Clone.ok {A0_0p : Option Addr} {A0_0n A0_0c : Nat} {A0_1 : Int} {A0_2 : Int} {A0_3 : Int} {A0_4 : Int} {w : World} {K : Value → World → Prop} (h : move_Clone.x A0_0p A0_0n A0_0c A0_1 A0_2 A0_3 A0_4 w K) : move_Clone.call [(.agg ⟨[(.slice A0_0p A0_0n A0_0c), (.int .i64 A0_1), (.int .i64 A0_2), (.int .i64 A0_3), (.int .i64 A0_4)]⟩)] w K :=
  callF_of_ex0 (f := Try.f58) Try.func58 rfl mixed (by kernel_rfl) (Eq.mp (by kernel_rfl) h)
/-! the same, the local variables taken out -/
def move_Clone.s (A0_0p : Option Addr) (A0_0n A0_0c : Nat) (A0_1 : Int) (A0_2 : Int) (A0_3 : Int) (A0_4 : Int) (w : World) (K : Value → World → Prop) : Prop := ∀ (k3 : Nat) (w2 : World), k3 = w.heap.size → k3 < w2.heap.size → Ext w w2 → ∀ (k7 : Nat) (w6 : World), k7 = w2.heap.size → k7 < w6.heap.size → Ext w2 w6 → view_Good.call [(.agg ⟨[(.slice A0_0p A0_0n A0_0c), (.int .i64 A0_1), (.int .i64 A0_2), (.int .i64 A0_3), (.int .i64 A0_4)]⟩)] w6 fun v16 w17 => Stay [k7, k3] w6 w17 ∧ ∃ b18 : Bool, v16 = (.bool b18) ∧ br (!b18) (∀ w19 : World, Exc k7 w17 w19 → K (.tuple ⟨[(.agg ⟨[(.slice (none : Option Addr) (0 : Nat) (0 : Nat)), (.int .i64 (0 : Int)), (.int .i64 (0 : Int)), (.int .i64 (0 : Int)), (.int .i64 (0 : Int))]⟩), (.int .i64 1)]⟩) w19) (br (decide (A0_2 > 64)) (∀ w28 : World, Exc k7 w17 w28 → K (.tuple ⟨[(.agg ⟨[(.slice (none : Option Addr) (0 : Nat) (0 : Nat)), (.int .i64 (0 : Int)), (.int .i64 (0 : Int)), (.int .i64 (0 : Int)), (.int .i64 (0 : Int))]⟩), (.int .i64 3)]⟩) w28) (br (decide (A0_3 > 64)) (∀ w37 : World, Exc k7 w17 w37 → K (.tuple ⟨[(.agg ⟨[(.slice (none : Option Addr) (0 : Nat) (0 : Nat)), (.int .i64 (0 : Int)), (.int .i64 (0 : Int)), (.int .i64 (0 : Int)), (.int .i64 (0 : Int))]⟩), (.int .i64 3)]⟩) w37) (view_Dense.call [(.int .i64 A0_2), (.int .i64 A0_3), (.slice none 0 0)] w17 fun v47 w48 => Stay [k7, k3] w17 w48 ∧ ∃ (a49 : Option Addr) (n50 c51 : Nat), ∃ i52 : Int, ∃ i53 : Int, ∃ i54 : Int, ∃ i55 : Int, v47 = (.agg ⟨[(.slice a49 n50 c51), (.int .i64 i52), (.int .i64 i53), (.int .i64 i54), (.int .i64 i55)]⟩) ∧ ∀ (k58 : Nat) (w57 : World), k58 = w48.heap.size → k58 < w57.heap.size → Ext w48 w57 → ∀ w60 : World, Exc k58 w57 w60 → view_Numbers.call [(.agg ⟨[(.slice A0_0p A0_0n A0_0c), (.int .i64 A0_1), (.int .i64 A0_2), (.int .i64 A0_3), (.int .i64 A0_4)]⟩)] w60.drew fun v72 w73 => Stay [k58, k7, k3] w60.drew w73 ∧ ∃ (a74 : Option Addr) (n75 c76 : Nat), v72 = (.slice a74 n75 c76) ∧ Kept w60.drew w73 ∧ Raw prog (Builtin.copy_ #[22, 22] 3 ⟨[(.slice a49 n50 c51), (.slice a74 n75 c76)]⟩) w73 fun v77 w78 => Stay [k58, k7, k3] w73 w78 ∧ ∃ i79 : Int, v77 = .int .i64 i79 ∧ ∀ w87 : World, Exc k7 w78 w87 → K (.tuple ⟨[(.agg ⟨[(.slice a49 n50 c51), (.int .i64 i52), (.int .i64 i53), (.int .i64 i54), (.int .i64 i55)]⟩), (.int .i64 0)]⟩) w87)))
theorem move_Clone.os {A0_0p : Option Addr} {A0_0n A0_0c : Nat} {A0_1 : Int} {A0_2 : Int} {A0_3 : Int} {A0_4 : Int} {w : World} {K : Value → World → Prop} (h : move_Clone.s A0_0p A0_0n A0_0c A0_1 A0_2 A0_3 A0_4 w K) : move_Clone.call [(.agg ⟨[(.slice A0_0p A0_0n A0_0c), (.int .i64 A0_1), (.int .i64 A0_2), (.int .i64 A0_3), (.int .i64 A0_4)]⟩)] w K := by
  refine move_Clone.ok ?_
  have st := St.nil w
  unfold move_Clone.x
  unfold move_Clone.s at h
  refine St.new (St.nil _) (fun q1 w2 hk hlt he st => ?_)
  replace h := h q1.block w2 hk hlt he
  refine St.new st (fun q5 w6 hk hlt he st => ?_)
  replace h := h q5.block w6 hk hlt he
  refine rd_l_i64_i64_i64_i64.bx 1 0 st rfl rfl rfl rfl rfl rfl rfl ?_
  refine CallF.mono h (fun v16 w17 h => ?_)
  obtain ⟨hK, h⟩ := h
  replace st := st.stay hK
  obtain ⟨b18, h⟩ := h
  refine ⟨b18, ?_⟩
  refine And.imp_right (fun h => ?_) h
  refine br_mono (fun h => ?_) (fun h => ?_) h
  · refine St.put 0 0 st rfl rfl rfl rfl (fun w19 he st => ?_)
    replace h := h w19 he
    refine rd_l_i64_i64_i64_i64.bx 0 0 st rfl rfl rfl rfl rfl rfl rfl ?_
    exact h
  · refine rd_i64.bx 1 2 st rfl rfl rfl ?_
    refine br_mono (fun h => ?_) (fun h => ?_) h
    · refine St.put 0 0 st rfl rfl rfl rfl (fun w28 he st => ?_)
      replace h := h w28 he
      refine rd_l_i64_i64_i64_i64.bx 0 0 st rfl rfl rfl rfl rfl rfl rfl ?_
      exact h
    · refine rd_i64.bx 1 3 st rfl rfl rfl ?_
      refine br_mono (fun h => ?_) (fun h => ?_) h
      · refine St.put 0 0 st rfl rfl rfl rfl (fun w37 he st => ?_)
        replace h := h w37 he
        refine rd_l_i64_i64_i64_i64.bx 0 0 st rfl rfl rfl rfl rfl rfl rfl ?_
        exact h
      · refine rd_i64.bx 1 2 st rfl rfl rfl ?_
        refine rd_i64.bx 1 3 st rfl rfl rfl ?_
        refine CallF.mono h (fun v47 w48 h => ?_)
        obtain ⟨hK, h⟩ := h
        replace st := st.stay hK
        obtain ⟨a49, n50, c51, i52, i53, i54, i55, h⟩ := h
        refine ⟨a49, n50, c51, i52, i53, i54, i55, ?_⟩
        refine And.imp_right (fun h => ?_) h
        refine St.new st (fun q56 w57 hk hlt he st => ?_)
        replace h := h q56.block w57 hk hlt he
        refine St.put 0 0 st rfl rfl rfl rfl (fun w60 he st => ?_)
        replace h := h w60 he
        replace st := st.drew
        have st61 := st
        refine rd_l.bx 0 0 st61 rfl rfl rfl ?_
        refine rd_l_i64_i64_i64_i64.bx 2 0 st61 rfl rfl rfl rfl rfl rfl rfl ?_
        refine CallF.mono h (fun v72 w73 h => ?_)
        obtain ⟨hK, h⟩ := h
        replace st := st.stay hK
        obtain ⟨a74, n75, c76, h⟩ := h
        refine ⟨a74, n75, c76, ?_⟩
        refine And.imp_right (fun h => ?_) h
        refine And.imp_right (fun h => ?_) h
        refine Raw.mono h (fun v77 w78 h => ?_)
        obtain ⟨hK, h⟩ := h
        replace st := st.stay hK
        obtain ⟨i79, h⟩ := h
        refine ⟨i79, ?_⟩
        refine And.imp_right (fun h => ?_) h
        refine rd_l_i64_i64_i64_i64.bx 0 0 st rfl rfl rfl rfl rfl rfl rfl ?_
        refine St.put 1 0 st rfl rfl rfl rfl (fun w87 he st => ?_)
        replace h := h w87 he
        refine rd_l_i64_i64_i64_i64.bx 1 0 st rfl rfl rfl rfl rfl rfl rfl ?_
        exact h

/-! ### straightedge/move.Rows: function 61 -/
def move_Rows.x (A0_0p : Option Addr) (A0_0n A0_0c : Nat) (A0_1 : Int) (A0_2 : Int) (A0_3 : Int) (A0_4 : Int) (A1 : Int) (A2 : Int) (w : World) (K : Value → World → Prop) : Prop := newB [(.slice A0_0p A0_0n A0_0c), (.int .i64 A0_1), (.int .i64 A0_2), (.int .i64 A0_3), (.int .i64 A0_4)] 24 w fun q1 w2 => rd_l_i64_i64_i64_i64 w2 q1 fun a3 n4 c5 i6 i7 i8 i9 => view_Good.call [(.agg ⟨[(.slice a3 n4 c5), (.int .i64 i6), (.int .i64 i7), (.int .i64 i8), (.int .i64 i9)]⟩)] w2 fun v10 w11 => ∃ b12 : Bool, v10 = (.bool b12) ∧ br (!b12) (K (.int .i64 1) w11) (br (decide (A1 < 0)) (K (.int .i64 1) w11) (br (decide (A2 < 0)) (K (.int .i64 1) w11) (rd_i64 w11 (q1.add 2) fun i13 => br (decide (A1 ≥ i13)) (K (.int .i64 1) w11) (rd_i64 w11 (q1.add 2) fun i14 => br (decide (A2 ≥ i14)) (K (.int .i64 1) w11) (br (A1 != A2) (rd_l_i64_i64_i64_i64 w11.drew q1 fun a16 n17 c18 i19 i20 i21 i22 => rd_l_i64_i64_i64_i64 w11.drew q1 fun a23 n24 c25 i26 i27 i28 i29 => view_Row.call [(.agg ⟨[(.slice a16 n17 c18), (.int .i64 i19), (.int .i64 i20), (.int .i64 i21), (.int .i64 i22)]⟩), (.int .i64 A1)] w11.drew fun v30 w31 => ∃ (a32 : Option Addr) (n33 c34 : Nat), ∃ i35 : Int, ∃ i36 : Int, ∃ i37 : Int, v30 = (.agg ⟨[(.slice a32 n33 c34), (.int .i64 i35), (.int .i64 i36), (.int .i64 i37)]⟩) ∧ Kept w11.drew w31 ∧ view_Row.call [(.agg ⟨[(.slice a23 n24 c25), (.int .i64 i26), (.int .i64 i27), (.int .i64 i28), (.int .i64 i29)]⟩), (.int .i64 A2)] w31 fun v38 w39 => ∃ (a40 : Option Addr) (n41 c42 : Nat), ∃ i43 : Int, ∃ i44 : Int, ∃ i45 : Int, v38 = (.agg ⟨[(.slice a40 n41 c42), (.int .i64 i43), (.int .i64 i44), (.int .i64 i45)]⟩) ∧ move_swap.call [(.agg ⟨[(.slice a32 n33 c34), (.int .i64 i35), (.int .i64 i36), (.int .i64 i37)]⟩), (.agg ⟨[(.slice a40 n41 c42), (.int .i64 i43), (.int .i64 i44), (.int .i64 i45)]⟩)] w39 fun v46 w47 => v46 = (.tuple ⟨[]⟩) ∧ K (.int .i64 0) w47) (K (.int .i64 0) w11))))))
theorem move_Rows.ok {A0_0p : Option Addr} {A0_0n A0_0c : Nat} {A0_1 : Int} {A0_2 : Int} {A0_3 : Int} {A0_4 : Int} {A1 : Int} {A2 : Int} {w : World} {K : Value → World → Prop} (h : move_Rows.x A0_0p A0_0n A0_0c A0_1 A0_2 A0_3 A0_4 A1 A2 w K) : move_Rows.call [(.agg ⟨[(.slice A0_0p A0_0n A0_0c), (.int .i64 A0_1), (.int .i64 A0_2), (.int .i64 A0_3), (.int .i64 A0_4)]⟩), (.int .i64 A1), (.int .i64 A2)] w K :=
  callF_of_ex0 (f := Try.f61) Try.func61 rfl mixed (by kernel_rfl) (Eq.mp (by kernel_rfl) h)
/-! the same, the local variables taken out -/
def move_Rows.s (A0_0p : Option Addr) (A0_0n A0_0c : Nat) (A0_1 : Int) (A0_2 : Int) (A0_3 : Int) (A0_4 : Int) (A1 : Int) (A2 : Int) (w : World) (K : Value → World → Prop) : Prop := ∀ (k3 : Nat) (w2 : World), k3 = w.heap.size → k3 < w2.heap.size → Ext w w2 → view_Good.call [(.agg ⟨[(.slice A0_0p A0_0n A0_0c), (.int .i64 A0_1), (.int .i64 A0_2), (.int .i64 A0_3), (.int .i64 A0_4)]⟩)] w2 fun v12 w13 => Stay [k3] w2 w13 ∧ ∃ b14 : Bool, v12 = (.bool b14) ∧ br (!b14) (K (.int .i64 1) w13) (br (decide (A1 < 0)) (K (.int .i64 1) w13) (br (decide (A2 < 0)) (K (.int .i64 1) w13) (br (decide (A1 ≥ A0_2)) (K (.int .i64 1) w13) (br (decide (A2 ≥ A0_2)) (K (.int .i64 1) w13) (br (A1 != A2) (view_Row.call [(.agg ⟨[(.slice A0_0p A0_0n A0_0c), (.int .i64 A0_1), (.int .i64 A0_2), (.int .i64 A0_3), (.int .i64 A0_4)]⟩), (.int .i64 A1)] w13.drew fun v32 w33 => Stay [k3] w13.drew w33 ∧ ∃ (a34 : Option Addr) (n35 c36 : Nat), ∃ i37 : Int, ∃ i38 : Int, ∃ i39 : Int, v32 = (.agg ⟨[(.slice a34 n35 c36), (.int .i64 i37), (.int .i64 i38), (.int .i64 i39)]⟩) ∧ Kept w13.drew w33 ∧ view_Row.call [(.agg ⟨[(.slice A0_0p A0_0n A0_0c), (.int .i64 A0_1), (.int .i64 A0_2), (.int .i64 A0_3), (.int .i64 A0_4)]⟩), (.int .i64 A2)] w33 fun v40 w41 => Stay [k3] w33 w41 ∧ ∃ (a42 : Option Addr) (n43 c44 : Nat), ∃ i45 : Int, ∃ i46 : Int, ∃ i47 : Int, v40 = (.agg ⟨[(.slice a42 n43 c44), (.int .i64 i45), (.int .i64 i46), (.int .i64 i47)]⟩) ∧ move_swap.call [(.agg ⟨[(.slice a34 n35 c36), (.int .i64 i37), (.int .i64 i38), (.int .i64 i39)]⟩), (.agg ⟨[(.slice a42 n43 c44), (.int .i64 i45), (.int .i64 i46), (.int .i64 i47)]⟩)] w41 fun v48 w49 => Stay [k3] w41 w49 ∧ v48 = (.tuple ⟨[]⟩) ∧ K (.int .i64 0) w49) (K (.int .i64 0) w13))))))
theorem move_Rows.os {A0_0p : Option Addr} {A0_0n A0_0c : Nat} {A0_1 : Int} {A0_2 : Int} {A0_3 : Int} {A0_4 : Int} {A1 : Int} {A2 : Int} {w : World} {K : Value → World → Prop} (h : move_Rows.s A0_0p A0_0n A0_0c A0_1 A0_2 A0_3 A0_4 A1 A2 w K) : move_Rows.call [(.agg ⟨[(.slice A0_0p A0_0n A0_0c), (.int .i64 A0_1), (.int .i64 A0_2), (.int .i64 A0_3), (.int .i64 A0_4)]⟩), (.int .i64 A1), (.int .i64 A2)] w K := by
  refine move_Rows.ok ?_
  have st := St.nil w
  unfold move_Rows.x
  unfold move_Rows.s at h
  refine St.new (St.nil _) (fun q1 w2 hk hlt he st => ?_)
  replace h := h q1.block w2 hk hlt he
  refine rd_l_i64_i64_i64_i64.bx 0 0 st rfl rfl rfl rfl rfl rfl rfl ?_
  refine CallF.mono h (fun v12 w13 h => ?_)
  obtain ⟨hK, h⟩ := h
  replace st := st.stay hK
  obtain ⟨b14, h⟩ := h
  refine ⟨b14, ?_⟩
  refine And.imp_right (fun h => ?_) h
  refine br_mono (fun h => ?_) (fun h => ?_) h
  · exact h
  · refine br_mono (fun h => ?_) (fun h => ?_) h
    · exact h
    · refine br_mono (fun h => ?_) (fun h => ?_) h
      · exact h
      · refine rd_i64.bx 0 2 st rfl rfl rfl ?_
        refine br_mono (fun h => ?_) (fun h => ?_) h
        · exact h
        · refine rd_i64.bx 0 2 st rfl rfl rfl ?_
          refine br_mono (fun h => ?_) (fun h => ?_) h
          · exact h
          · refine br_mono (fun h => ?_) (fun h => ?_) h
            · replace st := st.drew
              have st17 := st
              refine rd_l_i64_i64_i64_i64.bx 0 0 st17 rfl rfl rfl rfl rfl rfl rfl ?_
              refine rd_l_i64_i64_i64_i64.bx 0 0 st17 rfl rfl rfl rfl rfl rfl rfl ?_
              refine CallF.mono h (fun v32 w33 h => ?_)
              obtain ⟨hK, h⟩ := h
              replace st := st.stay hK
              obtain ⟨a34, n35, c36, i37, i38, i39, h⟩ := h
              refine ⟨a34, n35, c36, i37, i38, i39, ?_⟩
              refine And.imp_right (fun h => ?_) h
              refine And.imp_right (fun h => ?_) h
              refine CallF.mono h (fun v40 w41 h => ?_)
              obtain ⟨hK, h⟩ := h
              replace st := st.stay hK
              obtain ⟨a42, n43, c44, i45, i46, i47, h⟩ := h
              refine ⟨a42, n43, c44, i45, i46, i47, ?_⟩
              refine And.imp_right (fun h => ?_) h
              refine CallF.mono h (fun v48 w49 h => ?_)
              obtain ⟨hK, h⟩ := h
              replace st := st.stay hK
              exact h
            · exact h

/-! ### straightedge/move.swap: function 77 -/
def move_swap.b2 (K : Value → World → Prop) (h2 : Option Addr → Option Addr → Int → Int → World → Prop) (z2 : Option Addr) (z3 : Option Addr) (z8 : Int) (z9 : Int) (w : World) : Prop := br (decide (z9 < z8)) (ptrSome z2 fun q2 => rd_l w.drew q2 fun a3 n4 c5 => ptrSome z2 fun q6 => rd_i64 w.drew (q6.add 1) fun i7 => ptrSome z2 fun q8 => rd_i64 w.drew (q8.add 3) fun i9 => ptrSome a3 fun q10 => (0 : Int) ≤ (IntKind.i64.wrap (i7 + (IntKind.i64.wrap (z9 * i9)))) ∧ (IntKind.i64.wrap (i7 + (IntKind.i64.wrap (z9 * i9)))) < ((n4 : Nat) : Int) ∧ ptrSome z3 fun q11 => rd_l w.drew q11 fun a12 n13 c14 => ptrSome z3 fun q15 => rd_i64 w.drew (q15.add 1) fun i16 => ptrSome z3 fun q17 => rd_i64 w.drew (q17.add 3) fun i18 => ptrSome a12 fun q19 => (0 : Int) ≤ (IntKind.i64.wrap (i16 + (IntKind.i64.wrap (z9 * i18)))) ∧ (IntKind.i64.wrap (i16 + (IntKind.i64.wrap (z9 * i18)))) < ((n13 : Nat) : Int) ∧ rd_f64 (w.drew).drew (q19.add (Int.toNat (IntKind.i64.wrap (i16 + (IntKind.i64.wrap (z9 * i18)))))) fun x21 => rd_f64 (w.drew).drew (q10.add (Int.toNat (IntKind.i64.wrap (i7 + (IntKind.i64.wrap (z9 * i9)))))) fun x22 => stPT (q10.add (Int.toNat (IntKind.i64.wrap (i7 + (IntKind.i64.wrap (z9 * i9)))))) 0 [(.float .f64 x21)] (w.drew).drew fun w23 => stPT (q19.add (Int.toNat (IntKind.i64.wrap (i16 + (IntKind.i64.wrap (z9 * i18)))))) 0 [(.float .f64 x22)] w23 fun w24 => h2 z2 z3 z8 (IntKind.i64.wrap (z9 + 1)) w24) (K (.tuple ⟨[]⟩) w)
def move_swap.c2 (K : Value → World → Prop) : Nat → Option Addr → Option Addr → Int → Int → World → Prop
  | 0 => fun _ _ _ _ _ => False
  | fu + 1 => move_swap.b2 K (move_swap.c2 K fu)
def move_swap.x (fu : Nat) (A0_0p : Option Addr) (A0_0n A0_0c : Nat) (A0_1 : Int) (A0_2 : Int) (A0_3 : Int) (A1_0p : Option Addr) (A1_0n A1_0c : Nat) (A1_1 : Int) (A1_2 : Int) (A1_3 : Int) (w : World) (K : Value → World → Prop) : Prop := newB [(.slice A0_0p A0_0n A0_0c), (.int .i64 A0_1), (.int .i64 A0_2), (.int .i64 A0_3)] 66 w fun q1 w2 => newB [(.slice A1_0p A1_0n A1_0c), (.int .i64 A1_1), (.int .i64 A1_2), (.int .i64 A1_3)] 66 w2 fun q3 w4 => rd_i64 w4 (q1.add 2) fun i5 => move_swap.c2 K fu (some q1) (some q3) i5 0 w4
def move_swap.hd (K : Value → World → Prop) (n id : Nat) (t : List Value) (w : World) : Prop :=
  match id with
  | 2 => asP (t.getD 2 undef) fun z2 => asP (t.getD 3 undef) fun z3 => asI .i64 (t.getD 8 undef) fun z8 => asI .i64 (t.getD 9 undef) fun z9 => move_swap.c2 K n z2 z3 z8 z9 w
  | _ => False
theorem move_swap.t2 (K : Value → World → Prop) (n : Nat) (z2 : Option Addr) (z3 : Option Addr) (z8 : Int) (z9 : Int) (u : Nat → Value) (w : World) (h : move_swap.c2 K (n + 1) z2 z3 z8 z9 w) :
    exT prog [2] (move_swap.hd K n) Try.f77 2 43 [(2, (.pointer z2)), (3, (.pointer z3)), (8, (.int .i64 z8)), (9, (.int .i64 z9))] u w K := Eq.mp (by kernel_rfl) h
theorem move_swap.ok (fu : Nat) {A0_0p : Option Addr} {A0_0n A0_0c : Nat} {A0_1 : Int} {A0_2 : Int} {A0_3 : Int} {A1_0p : Option Addr} {A1_0n A1_0c : Nat} {A1_1 : Int} {A1_2 : Int} {A1_3 : Int} {w : World} {K : Value → World → Prop} (h : move_swap.x fu A0_0p A0_0n A0_0c A0_1 A0_2 A0_3 A1_0p A1_0n A1_0c A1_1 A1_2 A1_3 w K) : move_swap.call [(.agg ⟨[(.slice A0_0p A0_0n A0_0c), (.int .i64 A0_1), (.int .i64 A0_2), (.int .i64 A0_3)]⟩), (.agg ⟨[(.slice A1_0p A1_0n A1_0c), (.int .i64 A1_1), (.int .i64 A1_2), (.int .i64 A1_3)]⟩)] w K := by
  refine callF_of_ex (cuts := [2]) (H := move_swap.hd K) (N := 43) Try.func77 rfl mixed (by kernel_rfl) ?_ ?_ ?_ rfl (n := fu) (Eq.mp (by kernel_rfl) h)
  · intro id hid; simp only [List.mem_cons, List.not_mem_nil, or_false] at hid; subst hid
    · exact (by kernel_rfl : (stacks (bodyOf Try.f77) []).filter (headIs 2) = [at_ (bodyOf Try.f77) 2])
  · intro id t w h
    unfold move_swap.hd at h
    split at h
    · obtain ⟨z2, _, h⟩ := asP_elim h
      obtain ⟨z3, _, h⟩ := asP_elim h
      obtain ⟨z8, _, h⟩ := asI_elim h
      obtain ⟨z9, _, h⟩ := asI_elim h
      exact h
    · exact h
  · intro n id hid t w hl h; simp only [List.mem_cons, List.not_mem_nil, or_false] at hid; subst hid
    · replace h : asP (t.getD 2 undef) fun z2 => asP (t.getD 3 undef) fun z3 => asI .i64 (t.getD 8 undef) fun z8 => asI .i64 (t.getD 9 undef) fun z9 => move_swap.c2 K (n + 1) z2 z3 z8 z9 w := h
      obtain ⟨z2, e2, h⟩ := asP_elim h
      obtain ⟨z3, e3, h⟩ := asP_elim h
      obtain ⟨z8, e8, h⟩ := asI_elim h
      obtain ⟨z9, e9, h⟩ := asI_elim h
      rw [mk_of hl [(2, (.pointer z2)), (3, (.pointer z3)), (8, (.int .i64 z8)), (9, (.int .i64 z9))] (by simp only [List.forall_mem_cons, List.not_mem_nil, false_implies, implies_true, and_true]; exact ⟨e2, e3, e8, e9⟩)]
      exact move_swap.t2 K n z2 z3 z8 z9 _ w h
/-! the same, the local variables taken out -/
def move_swap.e2 (K : Value → World → Prop) (h2 : Nat → Option Addr → Nat → Nat → Int → Int → Int → Nat → Option Addr → Nat → Nat → Int → Int → Int → Int → Int → World → Prop) (k2 : Nat) (y2_0p : Option Addr) (y2_0n y2_0c : Nat) (y2_1 : Int) (y2_2 : Int) (y2_3 : Int) (k3 : Nat) (y3_0p : Option Addr) (y3_0n y3_0c : Nat) (y3_1 : Int) (y3_2 : Int) (y3_3 : Int) (z8 : Int) (z9 : Int) (w : World) : Prop := br (decide (z9 < z8)) (ptrSome y2_0p fun q10 => (0 : Int) ≤ (IntKind.i64.wrap (y2_1 + (IntKind.i64.wrap (z9 * y2_3)))) ∧ (IntKind.i64.wrap (y2_1 + (IntKind.i64.wrap (z9 * y2_3)))) < ((y2_0n : Nat) : Int) ∧ ptrSome y3_0p fun q19 => (0 : Int) ≤ (IntKind.i64.wrap (y3_1 + (IntKind.i64.wrap (z9 * y3_3)))) ∧ (IntKind.i64.wrap (y3_1 + (IntKind.i64.wrap (z9 * y3_3)))) < ((y3_0n : Nat) : Int) ∧ rd_f64 (w.drew).drew (q19.add (Int.toNat (IntKind.i64.wrap (y3_1 + (IntKind.i64.wrap (z9 * y3_3)))))) fun x21 => rd_f64 (w.drew).drew (q10.add (Int.toNat (IntKind.i64.wrap (y2_1 + (IntKind.i64.wrap (z9 * y2_3)))))) fun x22 => stPT (q10.add (Int.toNat (IntKind.i64.wrap (y2_1 + (IntKind.i64.wrap (z9 * y2_3)))))) 0 [(.float .f64 x21)] (w.drew).drew fun w23 => Keep [k2, k3] (w.drew).drew w23 ∧ stPT (q19.add (Int.toNat (IntKind.i64.wrap (y3_1 + (IntKind.i64.wrap (z9 * y3_3)))))) 0 [(.float .f64 x22)] w23 fun w24 => Keep [k2, k3] w23 w24 ∧ h2 k2 y2_0p y2_0n y2_0c y2_1 y2_2 y2_3 k3 y3_0p y3_0n y3_0c y3_1 y3_2 y3_3 z8 (IntKind.i64.wrap (z9 + 1)) w24) (K (.tuple ⟨[]⟩) w)
def move_swap.d2 (K : Value → World → Prop) : Nat → Nat → Option Addr → Nat → Nat → Int → Int → Int → Nat → Option Addr → Nat → Nat → Int → Int → Int → Int → Int → World → Prop
  | 0 => fun _ _ _ _ _ _ _ _ _ _ _ _ _ _ _ _ _ => False
  | fu + 1 => move_swap.e2 K (move_swap.d2 K fu)
def move_swap.s (fu : Nat) (A0_0p : Option Addr) (A0_0n A0_0c : Nat) (A0_1 : Int) (A0_2 : Int) (A0_3 : Int) (A1_0p : Option Addr) (A1_0n A1_0c : Nat) (A1_1 : Int) (A1_2 : Int) (A1_3 : Int) (w : World) (K : Value → World → Prop) : Prop := ∀ (k3 : Nat) (w2 : World), k3 = w.heap.size → k3 < w2.heap.size → Ext w w2 → ∀ (k7 : Nat) (w6 : World), k7 = w2.heap.size → k7 < w6.heap.size → Ext w2 w6 → move_swap.d2 K fu k3 A0_0p A0_0n A0_0c A0_1 A0_2 A0_3 k7 A1_0p A1_0n A1_0c A1_1 A1_2 A1_3 A0_2 0 w6
theorem move_swap.b2_s {K : Value → World → Prop} {x2 : Option Addr → Option Addr → Int → Int → World → Prop} {s2 : Nat → Option Addr → Nat → Nat → Int → Int → Int → Nat → Option Addr → Nat → Nat → Int → Int → Int → Int → Int → World → Prop} (i2 : ∀ {q2 : Addr} {y2_0p : Option Addr} {y2_0n y2_0c : Nat} {y2_1 : Int} {y2_2 : Int} {y2_3 : Int} {q3 : Addr} {y3_0p : Option Addr} {y3_0n y3_0c : Nat} {y3_1 : Int} {y3_2 : Int} {y3_3 : Int} {z8 : Int} {z9 : Int} {w : World}, s2 q2.block y2_0p y2_0n y2_0c y2_1 y2_2 y2_3 q3.block y3_0p y3_0n y3_0c y3_1 y3_2 y3_3 z8 z9 w → St w [(q2, [(.slice y2_0p y2_0n y2_0c), (.int .i64 y2_1), (.int .i64 y2_2), (.int .i64 y2_3)]), (q3, [(.slice y3_0p y3_0n y3_0c), (.int .i64 y3_1), (.int .i64 y3_2), (.int .i64 y3_3)])] → x2 (some q2) (some q3) z8 z9 w) {q2 : Addr} {y2_0p : Option Addr} {y2_0n y2_0c : Nat} {y2_1 : Int} {y2_2 : Int} {y2_3 : Int} {q3 : Addr} {y3_0p : Option Addr} {y3_0n y3_0c : Nat} {y3_1 : Int} {y3_2 : Int} {y3_3 : Int} {z8 : Int} {z9 : Int} {w : World} (h : move_swap.e2 K s2 q2.block y2_0p y2_0n y2_0c y2_1 y2_2 y2_3 q3.block y3_0p y3_0n y3_0c y3_1 y3_2 y3_3 z8 z9 w) (st : St w [(q2, [(.slice y2_0p y2_0n y2_0c), (.int .i64 y2_1), (.int .i64 y2_2), (.int .i64 y2_3)]), (q3, [(.slice y3_0p y3_0n y3_0c), (.int .i64 y3_1), (.int .i64 y3_2), (.int .i64 y3_3)])]) : move_swap.b2 K x2 (some q2) (some q3) z8 z9 w := by
  unfold move_swap.b2
  unfold move_swap.e2 at h
  refine br_mono (fun h => ?_) (fun h => ?_) h
  · replace st := st.drew
    have st1 := st
    refine ptrSome_intro rfl ?_
    refine rd_l.bx 0 0 st1 rfl rfl rfl ?_
    refine ptrSome_intro rfl ?_
    refine rd_i64.bx 0 1 st1 rfl rfl rfl ?_
    refine ptrSome_intro rfl ?_
    refine rd_i64.bx 0 3 st1 rfl rfl rfl ?_
    refine ptrSome_mono (fun q10 h => ?_) h
    refine And.imp_right (fun h => ?_) h
    refine And.imp_right (fun h => ?_) h
    refine ptrSome_intro rfl ?_
    refine rd_l.bx 1 0 st1 rfl rfl rfl ?_
    refine ptrSome_intro rfl ?_
    refine rd_i64.bx 1 1 st1 rfl rfl rfl ?_
    refine ptrSome_intro rfl ?_
    refine rd_i64.bx 1 3 st1 rfl rfl rfl ?_
    refine ptrSome_mono (fun q19 h => ?_) h
    refine And.imp_right (fun h => ?_) h
    refine And.imp_right (fun h => ?_) h
    replace st := st.drew
    refine rd_f64.mono (fun x21 h => ?_) h
    refine rd_f64.mono (fun x22 h => ?_) h
    refine stPT_mono (fun w23 h => ?_) h
    obtain ⟨hK, h⟩ := h
    replace st := st.keep hK
    refine stPT_mono (fun w24 h => ?_) h
    obtain ⟨hK, h⟩ := h
    replace st := st.keep hK
    exact i2 h (st.pick [0, 1] (by decide))
  · exact h
theorem move_swap.c2_s {K : Value → World → Prop} (fu : Nat) : ∀ {q2 : Addr} {y2_0p : Option Addr} {y2_0n y2_0c : Nat} {y2_1 : Int} {y2_2 : Int} {y2_3 : Int} {q3 : Addr} {y3_0p : Option Addr} {y3_0n y3_0c : Nat} {y3_1 : Int} {y3_2 : Int} {y3_3 : Int} {z8 : Int} {z9 : Int} {w : World}, move_swap.d2 K fu q2.block y2_0p y2_0n y2_0c y2_1 y2_2 y2_3 q3.block y3_0p y3_0n y3_0c y3_1 y3_2 y3_3 z8 z9 w → St w [(q2, [(.slice y2_0p y2_0n y2_0c), (.int .i64 y2_1), (.int .i64 y2_2), (.int .i64 y2_3)]), (q3, [(.slice y3_0p y3_0n y3_0c), (.int .i64 y3_1), (.int .i64 y3_2), (.int .i64 y3_3)])] → move_swap.c2 K fu (some q2) (some q3) z8 z9 w := by
  induction fu with
  | zero => exact fun h _ => False.elim h
  | succ fu ih => exact fun h st => move_swap.b2_s (K := K) (x2 := move_swap.c2 K fu) (s2 := move_swap.d2 K fu) ih h st
theorem move_swap.os (fu : Nat) {A0_0p : Option Addr} {A0_0n A0_0c : Nat} {A0_1 : Int} {A0_2 : Int} {A0_3 : Int} {A1_0p : Option Addr} {A1_0n A1_0c : Nat} {A1_1 : Int} {A1_2 : Int} {A1_3 : Int} {w : World} {K : Value → World → Prop} (h : move_swap.s fu A0_0p A0_0n A0_0c A0_1 A0_2 A0_3 A1_0p A1_0n A1_0c A1_1 A1_2 A1_3 w K) : move_swap.call [(.agg ⟨[(.slice A0_0p A0_0n A0_0c), (.int .i64 A0_1), (.int .i64 A0_2), (.int .i64 A0_3)]⟩), (.agg ⟨[(.slice A1_0p A1_0n A1_0c), (.int .i64 A1_1), (.int .i64 A1_2), (.int .i64 A1_3)]⟩)] w K := by
  refine move_swap.ok fu ?_
  have st := St.nil w
  unfold move_swap.x
  unfold move_swap.s at h
  refine St.new (St.nil _) (fun q1 w2 hk hlt he st => ?_)
  replace h := h q1.block w2 hk hlt he
  refine St.new st (fun q5 w6 hk hlt he st => ?_)
  replace h := h q5.block w6 hk hlt he
  refine rd_i64.bx 1 2 st rfl rfl rfl ?_
  exact move_swap.c2_s fu h (st.pick [1, 0] (by decide))

end Go.Proofs.Ytgdkahbnepafgaa

/-! ### AGsums -/
/- The explicit forms of the functions of one package, and that the calls do what they say. Written by wip/tools/wk2.py. -/
set_option maxHeartbeats 4000000
set_option maxRecDepth 100000
set_option linter.unusedVariables false
namespace Go.Proofs.Ytgdkahbnepafgaa
open Go Go.Wk

/-! ### straightedge/sums.Most: function 60 -/
def sums_Most.b5 (K : Value → World → Prop) (h5 : Option Addr → Int → Int → Int → World → Prop) (z1 : Option Addr) (z4 : Int) (z10 : Int) (z11 : Int) (w : World) : Prop := br (decide (z11 < z10)) (br (decide (z4 < 0)) (h5 z1 z11 z10 (IntKind.i64.wrap (z11 + 1)) (w.drew)) (ptrSome z1 fun q2 => rd_l_i64_i64_i64 w.drew q2 fun a3 n4 c5 i6 i7 i8 => ptrSome z1 fun q9 => rd_l_i64_i64_i64 w.drew q9 fun a10 n11 c12 i13 i14 i15 => sums_at.call [(.agg ⟨[(.slice a3 n4 c5), (.int .i64 i6), (.int .i64 i7), (.int .i64 i8)]⟩), (.int .i64 z11)] w.drew fun v16 w17 => ∃ x18 : Nat, v16 = (.float .f64 x18) ∧ Kept w.drew w17 ∧ math_Abs.call [(.float .f64 x18)] w17 fun v19 w20 => ∃ x21 : Nat, v19 = (.float .f64 x21) ∧ Kept w17 w20 ∧ sums_at.call [(.agg ⟨[(.slice a10 n11 c12), (.int .i64 i13), (.int .i64 i14), (.int .i64 i15)]⟩), (.int .i64 z4)] w20 fun v22 w23 => ∃ x24 : Nat, v22 = (.float .f64 x24) ∧ math_Abs.call [(.float .f64 x24)] w23 fun v25 w26 => ∃ x27 : Nat, v25 = (.float .f64 x27) ∧ br (fgt .f64 x21 x27) (h5 z1 z11 z10 (IntKind.i64.wrap (z11 + 1)) w26) (h5 z1 z4 z10 (IntKind.i64.wrap (z11 + 1)) w26))) (K (.tuple ⟨[(.int .i64 z4), (.int .i64 0)]⟩) w)
def sums_Most.c5 (K : Value → World → Prop) : Nat → Option Addr → Int → Int → Int → World → Prop
  | 0 => fun _ _ _ _ _ => False
  | fu + 1 => sums_Most.b5 K (sums_Most.c5 K fu)
def sums_Most.x (fu : Nat) (A0_0p : Option Addr) (A0_0n A0_0c : Nat) (A0_1 : Int) (A0_2 : Int) (A0_3 : Int) (w : World) (K : Value → World → Prop) : Prop := newB [(.slice A0_0p A0_0n A0_0c), (.int .i64 A0_1), (.int .i64 A0_2), (.int .i64 A0_3)] 66 w fun q1 w2 => rd_l_i64_i64_i64 w2 q1 fun a3 n4 c5 i6 i7 i8 => view_Right.call [(.agg ⟨[(.slice a3 n4 c5), (.int .i64 i6), (.int .i64 i7), (.int .i64 i8)]⟩)] w2 fun v9 w10 => ∃ b11 : Bool, v9 = (.bool b11) ∧ br (!b11) (K (.tuple ⟨[(.int .i64 (-1)), (.int .i64 1)]⟩) w10) (rd_i64 w10 (q1.add 2) fun i12 => sums_Most.c5 K fu (some q1) (-1) i12 0 w10)
def sums_Most.hd (K : Value → World → Prop) (n id : Nat) (t : List Value) (w : World) : Prop :=
  match id with
  | 5 => asP (t.getD 1 undef) fun z1 => asI .i64 (t.getD 4 undef) fun z4 => asI .i64 (t.getD 10 undef) fun z10 => asI .i64 (t.getD 11 undef) fun z11 => sums_Most.c5 K n z1 z4 z10 z11 w
  | _ => False
theorem sums_Most.t5 (K : Value → World → Prop) (n : Nat) (z1 : Option Addr) (z4 : Int) (z10 : Int) (z11 : Int) (u : Nat → Value) (w : World) (h : sums_Most.c5 K (n + 1) z1 z4 z10 z11 w) :
    exT prog [5] (sums_Most.hd K n) Try.f60 5 30 [(1, (.pointer z1)), (4, (.int .i64 z4)), (10, (.int .i64 z10)), (11, (.int .i64 z11))] u w K := Eq.mp (by kernel_rfl) h
theorem sums_Most.ok (fu : Nat) {A0_0p : Option Addr} {A0_0n A0_0c : Nat} {A0_1 : Int} {A0_2 : Int} {A0_3 : Int} {w : World} {K : Value → World → Prop} (h : sums_Most.x fu A0_0p A0_0n A0_0c A0_1 A0_2 A0_3 w K) : sums_Most.call [(.agg ⟨[(.slice A0_0p A0_0n A0_0c), (.int .i64 A0_1), (.int .i64 A0_2), (.int .i64 A0_3)]⟩)] w K := by
  refine callF_of_ex (cuts := [5]) (H := sums_Most.hd K) (N := 30) Try.func60 rfl mixed (by kernel_rfl) ?_ ?_ ?_ rfl (n := fu) (Eq.mp (by kernel_rfl) h)
  · intro id hid; simp only [List.mem_cons, List.not_mem_nil, or_false] at hid; subst hid
    · exact (by kernel_rfl : (stacks (bodyOf Try.f60) []).filter (headIs 5) = [at_ (bodyOf Try.f60) 5])
  · intro id t w h
    unfold sums_Most.hd at h
    split at h
    · obtain ⟨z1, _, h⟩ := asP_elim h
      obtain ⟨z4, _, h⟩ := asI_elim h
      obtain ⟨z10, _, h⟩ := asI_elim h
      obtain ⟨z11, _, h⟩ := asI_elim h
      exact h
    · exact h
  · intro n id hid t w hl h; simp only [List.mem_cons, List.not_mem_nil, or_false] at hid; subst hid
    · replace h : asP (t.getD 1 undef) fun z1 => asI .i64 (t.getD 4 undef) fun z4 => asI .i64 (t.getD 10 undef) fun z10 => asI .i64 (t.getD 11 undef) fun z11 => sums_Most.c5 K (n + 1) z1 z4 z10 z11 w := h
      obtain ⟨z1, e1, h⟩ := asP_elim h
      obtain ⟨z4, e4, h⟩ := asI_elim h
      obtain ⟨z10, e10, h⟩ := asI_elim h
      obtain ⟨z11, e11, h⟩ := asI_elim h
      rw [mk_of hl [(1, (.pointer z1)), (4, (.int .i64 z4)), (10, (.int .i64 z10)), (11, (.int .i64 z11))] (by simp only [List.forall_mem_cons, List.not_mem_nil, false_implies, implies_true, and_true]; exact ⟨e1, e4, e10, e11⟩)]
      exact sums_Most.t5 K n z1 z4 z10 z11 _ w h
/-! the same, the local variables taken out -/
def sums_Most.e5 (K : Value → World → Prop) (h5 : Nat → Option Addr → Nat → Nat → Int → Int → Int → Int → Int → Int → World → Prop) (k1 : Nat) (y1_0p : Option Addr) (y1_0n y1_0c : Nat) (y1_1 : Int) (y1_2 : Int) (y1_3 : Int) (z4 : Int) (z10 : Int) (z11 : Int) (w : World) : Prop := br (decide (z11 < z10)) (br (decide (z4 < 0)) (h5 k1 y1_0p y1_0n y1_0c y1_1 y1_2 y1_3 z11 z10 (IntKind.i64.wrap (z11 + 1)) (w.drew)) (sums_at.call [(.agg ⟨[(.slice y1_0p y1_0n y1_0c), (.int .i64 y1_1), (.int .i64 y1_2), (.int .i64 y1_3)]⟩), (.int .i64 z11)] w.drew fun v16 w17 => Stay [k1] w.drew w17 ∧ ∃ x18 : Nat, v16 = (.float .f64 x18) ∧ Kept w.drew w17 ∧ math_Abs.call [(.float .f64 x18)] w17 fun v19 w20 => Stay [k1] w17 w20 ∧ ∃ x21 : Nat, v19 = (.float .f64 x21) ∧ Kept w17 w20 ∧ sums_at.call [(.agg ⟨[(.slice y1_0p y1_0n y1_0c), (.int .i64 y1_1), (.int .i64 y1_2), (.int .i64 y1_3)]⟩), (.int .i64 z4)] w20 fun v22 w23 => Stay [k1] w20 w23 ∧ ∃ x24 : Nat, v22 = (.float .f64 x24) ∧ math_Abs.call [(.float .f64 x24)] w23 fun v25 w26 => Stay [k1] w23 w26 ∧ ∃ x27 : Nat, v25 = (.float .f64 x27) ∧ br (fgt .f64 x21 x27) (h5 k1 y1_0p y1_0n y1_0c y1_1 y1_2 y1_3 z11 z10 (IntKind.i64.wrap (z11 + 1)) w26) (h5 k1 y1_0p y1_0n y1_0c y1_1 y1_2 y1_3 z4 z10 (IntKind.i64.wrap (z11 + 1)) w26))) (K (.tuple ⟨[(.int .i64 z4), (.int .i64 0)]⟩) w)
def sums_Most.d5 (K : Value → World → Prop) : Nat → Nat → Option Addr → Nat → Nat → Int → Int → Int → Int → Int → Int → World → Prop
  | 0 => fun _ _ _ _ _ _ _ _ _ _ _ => False
  | fu + 1 => sums_Most.e5 K (sums_Most.d5 K fu)
def sums_Most.s (fu : Nat) (A0_0p : Option Addr) (A0_0n A0_0c : Nat) (A0_1 : Int) (A0_2 : Int) (A0_3 : Int) (w : World) (K : Value → World → Prop) : Prop := ∀ (k3 : Nat) (w2 : World), k3 = w.heap.size → k3 < w2.heap.size → Ext w w2 → view_Right.call [(.agg ⟨[(.slice A0_0p A0_0n A0_0c), (.int .i64 A0_1), (.int .i64 A0_2), (.int .i64 A0_3)]⟩)] w2 fun v11 w12 => Stay [k3] w2 w12 ∧ ∃ b13 : Bool, v11 = (.bool b13) ∧ br (!b13) (K (.tuple ⟨[(.int .i64 (-1)), (.int .i64 1)]⟩) w12) (sums_Most.d5 K fu k3 A0_0p A0_0n A0_0c A0_1 A0_2 A0_3 (-1) A0_2 0 w12)
theorem sums_Most.b5_s {K : Value → World → Prop} {x5 : Option Addr → Int → Int → Int → World → Prop} {s5 : Nat → Option Addr → Nat → Nat → Int → Int → Int → Int → Int → Int → World → Prop} (i5 : ∀ {q1 : Addr} {y1_0p : Option Addr} {y1_0n y1_0c : Nat} {y1_1 : Int} {y1_2 : Int} {y1_3 : Int} {z4 : Int} {z10 : Int} {z11 : Int} {w : World}, s5 q1.block y1_0p y1_0n y1_0c y1_1 y1_2 y1_3 z4 z10 z11 w → St w [(q1, [(.slice y1_0p y1_0n y1_0c), (.int .i64 y1_1), (.int .i64 y1_2), (.int .i64 y1_3)])] → x5 (some q1) z4 z10 z11 w) {q1 : Addr} {y1_0p : Option Addr} {y1_0n y1_0c : Nat} {y1_1 : Int} {y1_2 : Int} {y1_3 : Int} {z4 : Int} {z10 : Int} {z11 : Int} {w : World} (h : sums_Most.e5 K s5 q1.block y1_0p y1_0n y1_0c y1_1 y1_2 y1_3 z4 z10 z11 w) (st : St w [(q1, [(.slice y1_0p y1_0n y1_0c), (.int .i64 y1_1), (.int .i64 y1_2), (.int .i64 y1_3)])]) : sums_Most.b5 K x5 (some q1) z4 z10 z11 w := by
  unfold sums_Most.b5
  unfold sums_Most.e5 at h
  refine br_mono (fun h => ?_) (fun h => ?_) h
  · replace st := st.drew
    have st1 := st
    refine br_mono (fun h => ?_) (fun h => ?_) h
    · exact i5 h (st.pick [0] (by decide))
    · refine ptrSome_intro rfl ?_
      refine rd_l_i64_i64_i64.bx 0 0 st1 rfl rfl rfl rfl rfl rfl ?_
      refine ptrSome_intro rfl ?_
      refine rd_l_i64_i64_i64.bx 0 0 st1 rfl rfl rfl rfl rfl rfl ?_
      refine CallF.mono h (fun v16 w17 h => ?_)
      obtain ⟨hK, h⟩ := h
      replace st := st.stay hK
      obtain ⟨x18, h⟩ := h
      refine ⟨x18, ?_⟩
      refine And.imp_right (fun h => ?_) h
      refine And.imp_right (fun h => ?_) h
      refine CallF.mono h (fun v19 w20 h => ?_)
      obtain ⟨hK, h⟩ := h
      replace st := st.stay hK
      obtain ⟨x21, h⟩ := h
      refine ⟨x21, ?_⟩
      refine And.imp_right (fun h => ?_) h
      refine And.imp_right (fun h => ?_) h
      refine CallF.mono h (fun v22 w23 h => ?_)
      obtain ⟨hK, h⟩ := h
      replace st := st.stay hK
      obtain ⟨x24, h⟩ := h
      refine ⟨x24, ?_⟩
      refine And.imp_right (fun h => ?_) h
      refine CallF.mono h (fun v25 w26 h => ?_)
      obtain ⟨hK, h⟩ := h
      replace st := st.stay hK
      obtain ⟨x27, h⟩ := h
      refine ⟨x27, ?_⟩
      refine And.imp_right (fun h => ?_) h
      refine br_mono (fun h => ?_) (fun h => ?_) h
      · exact i5 h (st.pick [0] (by decide))
      · exact i5 h (st.pick [0] (by decide))
  · exact h
theorem sums_Most.c5_s {K : Value → World → Prop} (fu : Nat) : ∀ {q1 : Addr} {y1_0p : Option Addr} {y1_0n y1_0c : Nat} {y1_1 : Int} {y1_2 : Int} {y1_3 : Int} {z4 : Int} {z10 : Int} {z11 : Int} {w : World}, sums_Most.d5 K fu q1.block y1_0p y1_0n y1_0c y1_1 y1_2 y1_3 z4 z10 z11 w → St w [(q1, [(.slice y1_0p y1_0n y1_0c), (.int .i64 y1_1), (.int .i64 y1_2), (.int .i64 y1_3)])] → sums_Most.c5 K fu (some q1) z4 z10 z11 w := by
  induction fu with
  | zero => exact fun h _ => False.elim h
  | succ fu ih => exact fun h st => sums_Most.b5_s (K := K) (x5 := sums_Most.c5 K fu) (s5 := sums_Most.d5 K fu) ih h st
theorem sums_Most.os (fu : Nat) {A0_0p : Option Addr} {A0_0n A0_0c : Nat} {A0_1 : Int} {A0_2 : Int} {A0_3 : Int} {w : World} {K : Value → World → Prop} (h : sums_Most.s fu A0_0p A0_0n A0_0c A0_1 A0_2 A0_3 w K) : sums_Most.call [(.agg ⟨[(.slice A0_0p A0_0n A0_0c), (.int .i64 A0_1), (.int .i64 A0_2), (.int .i64 A0_3)]⟩)] w K := by
  refine sums_Most.ok fu ?_
  have st := St.nil w
  unfold sums_Most.x
  unfold sums_Most.s at h
  refine St.new (St.nil _) (fun q1 w2 hk hlt he st => ?_)
  replace h := h q1.block w2 hk hlt he
  refine rd_l_i64_i64_i64.bx 0 0 st rfl rfl rfl rfl rfl rfl ?_
  refine CallF.mono h (fun v11 w12 h => ?_)
  obtain ⟨hK, h⟩ := h
  replace st := st.stay hK
  obtain ⟨b13, h⟩ := h
  refine ⟨b13, ?_⟩
  refine And.imp_right (fun h => ?_) h
  refine br_mono (fun h => ?_) (fun h => ?_) h
  · exact h
  · refine rd_i64.bx 0 2 st rfl rfl rfl ?_
    exact sums_Most.c5_s fu h (st.pick [0] (by decide))

/-! ### straightedge/sums.at: function 76 -/
def sums_at.x (A0_0p : Option Addr) (A0_0n A0_0c : Nat) (A0_1 : Int) (A0_2 : Int) (A0_3 : Int) (A1 : Int) (w : World) (K : Value → World → Prop) : Prop := newB [(.slice A0_0p A0_0n A0_0c), (.int .i64 A0_1), (.int .i64 A0_2), (.int .i64 A0_3)] 66 w fun q1 w2 => rd_l w2 q1 fun a3 n4 c5 => rd_i64 w2 (q1.add 1) fun i6 => rd_i64 w2 (q1.add 3) fun i7 => ptrSome a3 fun q8 => (0 : Int) ≤ (IntKind.i64.wrap (i6 + (IntKind.i64.wrap (A1 * i7)))) ∧ (IntKind.i64.wrap (i6 + (IntKind.i64.wrap (A1 * i7)))) < ((n4 : Nat) : Int) ∧ rd_f64 w2 (q8.add (Int.toNat (IntKind.i64.wrap (i6 + (IntKind.i64.wrap (A1 * i7)))))) fun x9 => K (.float .f64 x9) w2
theorem sums_at.ok {A0_0p : Option Addr} {A0_0n A0_0c : Nat} {A0_1 : Int} {A0_2 : Int} {A0_3 : Int} {A1 : Int} {w : World} {K : Value → World → Prop} (h : sums_at.x A0_0p A0_0n A0_0c A0_1 A0_2 A0_3 A1 w K) : sums_at.call [(.agg ⟨[(.slice A0_0p A0_0n A0_0c), (.int .i64 A0_1), (.int .i64 A0_2), (.int .i64 A0_3)]⟩), (.int .i64 A1)] w K :=
  callF_of_ex0 (f := Try.f76) Try.func76 rfl mixed (by kernel_rfl) (Eq.mp (by kernel_rfl) h)
/-! the same, the local variables taken out -/
def sums_at.s (A0_0p : Option Addr) (A0_0n A0_0c : Nat) (A0_1 : Int) (A0_2 : Int) (A0_3 : Int) (A1 : Int) (w : World) (K : Value → World → Prop) : Prop := ∀ (k3 : Nat) (w2 : World), k3 = w.heap.size → k3 < w2.heap.size → Ext w w2 → ptrSome A0_0p fun q10 => (0 : Int) ≤ (IntKind.i64.wrap (A0_1 + (IntKind.i64.wrap (A1 * A0_3)))) ∧ (IntKind.i64.wrap (A0_1 + (IntKind.i64.wrap (A1 * A0_3)))) < ((A0_0n : Nat) : Int) ∧ rd_f64 w2 (q10.add (Int.toNat (IntKind.i64.wrap (A0_1 + (IntKind.i64.wrap (A1 * A0_3)))))) fun x11 => K (.float .f64 x11) w2
theorem sums_at.os {A0_0p : Option Addr} {A0_0n A0_0c : Nat} {A0_1 : Int} {A0_2 : Int} {A0_3 : Int} {A1 : Int} {w : World} {K : Value → World → Prop} (h : sums_at.s A0_0p A0_0n A0_0c A0_1 A0_2 A0_3 A1 w K) : sums_at.call [(.agg ⟨[(.slice A0_0p A0_0n A0_0c), (.int .i64 A0_1), (.int .i64 A0_2), (.int .i64 A0_3)]⟩), (.int .i64 A1)] w K := by
  refine sums_at.ok ?_
  have st := St.nil w
  unfold sums_at.x
  unfold sums_at.s at h
  refine St.new (St.nil _) (fun q1 w2 hk hlt he st => ?_)
  replace h := h q1.block w2 hk hlt he
  refine rd_l.bx 0 0 st rfl rfl rfl ?_
  refine rd_i64.bx 0 1 st rfl rfl rfl ?_
  refine rd_i64.bx 0 3 st rfl rfl rfl ?_
  exact h

/-! ### straightedge/sums.Greatest: function 80 -/
def sums_Greatest.b3 (K : Value → World → Prop) (h3 : Nat → Option Addr → Nat → Nat → Int → Int → World → Prop) (z3 : Nat) (z6p : Option Addr) (z6n z6c : Nat) (z7 : Int) (z8 : Int) (w : World) : Prop := br (decide (z8 < z7)) (ptrSome z6p fun q1 => (0 : Int) ≤ z8 ∧ z8 < ((z6n : Nat) : Int) ∧ rd_f64 w (q1.add (Int.toNat z8)) fun x2 => br (fne .f64 x2 x2) (K (.float .f64 x2) w) (br (fgt .f64 x2 z3) (h3 x2 z6p z6n z6c z7 (IntKind.i64.wrap (z8 + 1)) w) (h3 z3 z6p z6n z6c z7 (IntKind.i64.wrap (z8 + 1)) w))) (K (.float .f64 z3) w)
def sums_Greatest.c3 (K : Value → World → Prop) : Nat → Nat → Option Addr → Nat → Nat → Int → Int → World → Prop
  | 0 => fun _ _ _ _ _ _ _ => False
  | fu + 1 => sums_Greatest.b3 K (sums_Greatest.c3 K fu)
def sums_Greatest.x (fu : Nat) (A0p : Option Addr) (A0n A0c : Nat) (w : World) (K : Value → World → Prop) : Prop := sums_Greatest.c3 K fu 0 A0p A0n A0c ((A0n : Nat) : Int) 0 w
def sums_Greatest.hd (K : Value → World → Prop) (n id : Nat) (t : List Value) (w : World) : Prop :=
  match id with
  | 3 => asF .f64 (t.getD 3 undef) fun z3 => asL (t.getD 6 undef) fun z6p z6n z6c => asI .i64 (t.getD 7 undef) fun z7 => asI .i64 (t.getD 8 undef) fun z8 => sums_Greatest.c3 K n z3 z6p z6n z6c z7 z8 w
  | _ => False
theorem sums_Greatest.t3 (K : Value → World → Prop) (n : Nat) (z3 : Nat) (z6p : Option Addr) (z6n z6c : Nat) (z7 : Int) (z8 : Int) (u : Nat → Value) (w : World) (h : sums_Greatest.c3 K (n + 1) z3 z6p z6n z6c z7 z8 w) :
    exT prog [3] (sums_Greatest.hd K n) Try.f80 3 22 [(3, (.float .f64 z3)), (6, (.slice z6p z6n z6c)), (7, (.int .i64 z7)), (8, (.int .i64 z8))] u w K := Eq.mp (by kernel_rfl) h
theorem sums_Greatest.ok (fu : Nat) {A0p : Option Addr} {A0n A0c : Nat} {w : World} {K : Value → World → Prop} (h : sums_Greatest.x fu A0p A0n A0c w K) : sums_Greatest.call [(.slice A0p A0n A0c)] w K := by
  refine callF_of_ex (cuts := [3]) (H := sums_Greatest.hd K) (N := 22) Try.func80 rfl mixed (by kernel_rfl) ?_ ?_ ?_ rfl (n := fu) (Eq.mp (by kernel_rfl) h)
  · intro id hid; simp only [List.mem_cons, List.not_mem_nil, or_false] at hid; subst hid
    · exact (by kernel_rfl : (stacks (bodyOf Try.f80) []).filter (headIs 3) = [at_ (bodyOf Try.f80) 3])
  · intro id t w h
    unfold sums_Greatest.hd at h
    split at h
    · obtain ⟨z3, _, h⟩ := asF_elim h
      obtain ⟨z6p, z6n, z6c, _, h⟩ := asL_elim h
      obtain ⟨z7, _, h⟩ := asI_elim h
      obtain ⟨z8, _, h⟩ := asI_elim h
      exact h
    · exact h
  · intro n id hid t w hl h; simp only [List.mem_cons, List.not_mem_nil, or_false] at hid; subst hid
    · replace h : asF .f64 (t.getD 3 undef) fun z3 => asL (t.getD 6 undef) fun z6p z6n z6c => asI .i64 (t.getD 7 undef) fun z7 => asI .i64 (t.getD 8 undef) fun z8 => sums_Greatest.c3 K (n + 1) z3 z6p z6n z6c z7 z8 w := h
      obtain ⟨z3, e3, h⟩ := asF_elim h
      obtain ⟨z6p, z6n, z6c, e6, h⟩ := asL_elim h
      obtain ⟨z7, e7, h⟩ := asI_elim h
      obtain ⟨z8, e8, h⟩ := asI_elim h
      rw [mk_of hl [(3, (.float .f64 z3)), (6, (.slice z6p z6n z6c)), (7, (.int .i64 z7)), (8, (.int .i64 z8))] (by simp only [List.forall_mem_cons, List.not_mem_nil, false_implies, implies_true, and_true]; exact ⟨e3, e6, e7, e8⟩)]
      exact sums_Greatest.t3 K n z3 z6p z6n z6c z7 z8 _ w h

end Go.Proofs.Ytgdkahbnepafgaa

/-! ### AGview -/
/- The explicit forms of the functions of one package, and that the calls do what they say. Written by wip/tools/wk2.py. -/
set_option maxHeartbeats 4000000
set_option maxRecDepth 100000
set_option linter.unusedVariables false
namespace Go.Proofs.Ytgdkahbnepafgaa
open Go Go.Wk

/-! ### straightedge/view.Dense: function 25 -/
def view_Dense.b5 (K : Value → World → Prop) (h5 : Int → Option Addr → Option Addr → Option Addr → Nat → Nat → Int → Int → World → Prop) (z1 : Int) (z6 : Option Addr) (z7 : Option Addr) (z41p : Option Addr) (z41n z41c : Nat) (z42 : Int) (z43 : Int) (w : World) : Prop := br (decide (z43 < z42)) (ptrSome z41p fun q1 => (0 : Int) ≤ z43 ∧ z43 < ((z41n : Nat) : Int) ∧ rd_f64 w (q1.add (Int.toNat z43)) fun x2 => ptrSome z7 fun q4 => rd_l w.drew q4 fun a5 n6 c7 => br (z1 == 0) (False) (br (z1 == 0) (False) (ptrSome z7 fun q8 => rd_i64 w.drew (q8.add 4) fun i9 => ptrSome a5 fun q10 => (0 : Int) ≤ (IntKind.i64.wrap ((IntKind.i64.wrap (Int.tdiv z43 z1)) + (IntKind.i64.wrap ((Int.tmod z43 z1) * i9)))) ∧ (IntKind.i64.wrap ((IntKind.i64.wrap (Int.tdiv z43 z1)) + (IntKind.i64.wrap ((Int.tmod z43 z1) * i9)))) < ((n6 : Nat) : Int) ∧ stPT (q10.add (Int.toNat (IntKind.i64.wrap ((IntKind.i64.wrap (Int.tdiv z43 z1)) + (IntKind.i64.wrap ((Int.tmod z43 z1) * i9)))))) 0 [(.float .f64 x2)] w.drew fun w11 => h5 z1 z6 z7 z41p z41n z41c z42 (IntKind.i64.wrap (z43 + 1)) w11))) (ptrSome z7 fun q12 => rd_l_i64_i64_i64_i64 w q12 fun a13 n14 c15 i16 i17 i18 i19 => ptrSome z6 fun q20 => stPT q20 0 [(.slice a13 n14 c15), (.int .i64 i16), (.int .i64 i17), (.int .i64 i18), (.int .i64 i19)] w fun w21 => ptrSome z6 fun q22 => rd_l_i64_i64_i64_i64 w21 q22 fun a23 n24 c25 i26 i27 i28 i29 => K (.agg ⟨[(.slice a23 n24 c25), (.int .i64 i26), (.int .i64 i27), (.int .i64 i28), (.int .i64 i29)]⟩) w21)
def view_Dense.c5 (K : Value → World → Prop) : Nat → Int → Option Addr → Option Addr → Option Addr → Nat → Nat → Int → Int → World → Prop
  | 0 => fun _ _ _ _ _ _ _ _ _ => False
  | fu + 1 => view_Dense.b5 K (view_Dense.c5 K fu)
def view_Dense.x (fu : Nat) (A0 : Int) (A1 : Int) (A2p : Option Addr) (A2n A2c : Nat) (w : World) (K : Value → World → Prop) : Prop := newB [(.slice none 0 0), (.int .i64 0), (.int .i64 0), (.int .i64 0), (.int .i64 0)] 24 w fun q1 w2 => br (decide (A0 < 0)) (stPT q1 0 [(.slice none 0 0), (.int .i64 0), (.int .i64 0), (.int .i64 0), (.int .i64 0)] w2 fun w3 => rd_l_i64_i64_i64_i64 w3 q1 fun a4 n5 c6 i7 i8 i9 i10 => K (.agg ⟨[(.slice a4 n5 c6), (.int .i64 i7), (.int .i64 i8), (.int .i64 i9), (.int .i64 i10)]⟩) w3) (br (decide (A1 < 0)) (stPT q1 0 [(.slice none 0 0), (.int .i64 0), (.int .i64 0), (.int .i64 0), (.int .i64 0)] w2 fun w11 => rd_l_i64_i64_i64_i64 w11 q1 fun a12 n13 c14 i15 i16 i17 i18 => K (.agg ⟨[(.slice a12 n13 c14), (.int .i64 i15), (.int .i64 i16), (.int .i64 i17), (.int .i64 i18)]⟩) w11) (br (decide (A0 > 64)) (stPT q1 0 [(.slice none 0 0), (.int .i64 0), (.int .i64 0), (.int .i64 0), (.int .i64 0)] w2 fun w19 => rd_l_i64_i64_i64_i64 w19 q1 fun a20 n21 c22 i23 i24 i25 i26 => K (.agg ⟨[(.slice a20 n21 c22), (.int .i64 i23), (.int .i64 i24), (.int .i64 i25), (.int .i64 i26)]⟩) w19) (br (decide (A1 > 64)) (stPT q1 0 [(.slice none 0 0), (.int .i64 0), (.int .i64 0), (.int .i64 0), (.int .i64 0)] w2 fun w27 => rd_l_i64_i64_i64_i64 w27 q1 fun a28 n29 c30 i31 i32 i33 i34 => K (.agg ⟨[(.slice a28 n29 c30), (.int .i64 i31), (.int .i64 i32), (.int .i64 i33), (.int .i64 i34)]⟩) w27) ((0 : Int) ≤ (IntKind.i64.wrap (A0 * A1)) ∧ ((IntKind.i64.wrap (A0 * A1)) : Int) ≤ (IntKind.i64.wrap (A0 * A1)) ∧ ((8 : Nat) : Int) * (IntKind.i64.wrap (A0 * A1)) ≤ 281474976710656 ∧ (IntKind.i64.wrap (A0 * A1)) ≤ 9223372036854775807 ∧ newB ((List.range (Int.toNat (IntKind.i64.wrap (A0 * A1)))).map fun j => List.getD [(.float .f64 0)] (j % 1) default) 38 w2 fun q35 w36 => newB [(.slice none 0 0), (.int .i64 0), (.int .i64 0), (.int .i64 0), (.int .i64 0)] 24 w36 fun q37 w38 => stPT q37 0 [(.slice (some q35) (Int.toNat (IntKind.i64.wrap (A0 * A1))) (Int.toNat (IntKind.i64.wrap (A0 * A1)))), (.int .i64 0), (.int .i64 A0), (.int .i64 A1), (.int .i64 (if 1 > A0 then 1 else A0))] w38 fun w39 => (0 : Int) ≤ (if (IntKind.i64.wrap (A0 * A1)) < ((A2n : Nat) : Int) then (IntKind.i64.wrap (A0 * A1)) else ((A2n : Nat) : Int)) ∧ (if (IntKind.i64.wrap (A0 * A1)) < ((A2n : Nat) : Int) then (IntKind.i64.wrap (A0 * A1)) else ((A2n : Nat) : Int)) ≤ ((A2c : Nat) : Int) ∧ view_Dense.c5 K fu A1 (some q1) (some q37) (if A2c = 0 then A2p else A2p.map (·.add (0 * 1))) ((Int.toNat (if (IntKind.i64.wrap (A0 * A1)) < ((A2n : Nat) : Int) then (IntKind.i64.wrap (A0 * A1)) else ((A2n : Nat) : Int))) - 0) (A2c - 0) ((((Int.toNat (if (IntKind.i64.wrap (A0 * A1)) < ((A2n : Nat) : Int) then (IntKind.i64.wrap (A0 * A1)) else ((A2n : Nat) : Int))) - 0) : Nat) : Int) 0 w39))))
def view_Dense.hd (K : Value → World → Prop) (n id : Nat) (t : List Value) (w : World) : Prop :=
  match id with
  | 5 => asI .i64 (t.getD 1 undef) fun z1 => asP (t.getD 6 undef) fun z6 => asP (t.getD 7 undef) fun z7 => asL (t.getD 41 undef) fun z41p z41n z41c => asI .i64 (t.getD 42 undef) fun z42 => asI .i64 (t.getD 43 undef) fun z43 => view_Dense.c5 K n z1 z6 z7 z41p z41n z41c z42 z43 w
  | _ => False
theorem view_Dense.t5 (K : Value → World → Prop) (n : Nat) (z1 : Int) (z6 : Option Addr) (z7 : Option Addr) (z41p : Option Addr) (z41n z41c : Nat) (z42 : Int) (z43 : Int) (u : Nat → Value) (w : World) (h : view_Dense.c5 K (n + 1) z1 z6 z7 z41p z41n z41c z42 z43 w) :
    exT prog [5] (view_Dense.hd K n) Try.f25 5 64 [(1, (.int .i64 z1)), (6, (.pointer z6)), (7, (.pointer z7)), (41, (.slice z41p z41n z41c)), (42, (.int .i64 z42)), (43, (.int .i64 z43))] u w K := Eq.mp (by kernel_rfl) h
theorem view_Dense.ok (fu : Nat) {A0 : Int} {A1 : Int} {A2p : Option Addr} {A2n A2c : Nat} {w : World} {K : Value → World → Prop} (h : view_Dense.x fu A0 A1 A2p A2n A2c w K) : view_Dense.call [(.int .i64 A0), (.int .i64 A1), (.slice A2p A2n A2c)] w K := by
  refine callF_of_ex (cuts := [5]) (H := view_Dense.hd K) (N := 64) Try.func25 rfl mixed (by kernel_rfl) ?_ ?_ ?_ rfl (n := fu) (Eq.mp (by kernel_rfl) h)
  · intro id hid; simp only [List.mem_cons, List.not_mem_nil, or_false] at hid; subst hid
    · exact (by kernel_rfl : (stacks (bodyOf Try.f25) []).filter (headIs 5) = [at_ (bodyOf Try.f25) 5])
  · intro id t w h
    unfold view_Dense.hd at h
    split at h
    · obtain ⟨z1, _, h⟩ := asI_elim h
      obtain ⟨z6, _, h⟩ := asP_elim h
      obtain ⟨z7, _, h⟩ := asP_elim h
      obtain ⟨z41p, z41n, z41c, _, h⟩ := asL_elim h
      obtain ⟨z42, _, h⟩ := asI_elim h
      obtain ⟨z43, _, h⟩ := asI_elim h
      exact h
    · exact h
  · intro n id hid t w hl h; simp only [List.mem_cons, List.not_mem_nil, or_false] at hid; subst hid
    · replace h : asI .i64 (t.getD 1 undef) fun z1 => asP (t.getD 6 undef) fun z6 => asP (t.getD 7 undef) fun z7 => asL (t.getD 41 undef) fun z41p z41n z41c => asI .i64 (t.getD 42 undef) fun z42 => asI .i64 (t.getD 43 undef) fun z43 => view_Dense.c5 K (n + 1) z1 z6 z7 z41p z41n z41c z42 z43 w := h
      obtain ⟨z1, e1, h⟩ := asI_elim h
      obtain ⟨z6, e6, h⟩ := asP_elim h
      obtain ⟨z7, e7, h⟩ := asP_elim h
      obtain ⟨z41p, z41n, z41c, e41, h⟩ := asL_elim h
      obtain ⟨z42, e42, h⟩ := asI_elim h
      obtain ⟨z43, e43, h⟩ := asI_elim h
      rw [mk_of hl [(1, (.int .i64 z1)), (6, (.pointer z6)), (7, (.pointer z7)), (41, (.slice z41p z41n z41c)), (42, (.int .i64 z42)), (43, (.int .i64 z43))] (by simp only [List.forall_mem_cons, List.not_mem_nil, false_implies, implies_true, and_true]; exact ⟨e1, e6, e7, e41, e42, e43⟩)]
      exact view_Dense.t5 K n z1 z6 z7 z41p z41n z41c z42 z43 _ w h
/-! the same, the local variables taken out -/
def view_Dense.e5 (K : Value → World → Prop) (h5 : Int → Nat → Option Addr → Nat → Nat → Int → Int → Int → Int → Nat → Option Addr → Nat → Nat → Int → Int → Int → Int → Option Addr → Nat → Nat → Int → Int → World → Prop) (z1 : Int) (k6 : Nat) (y6_0p : Option Addr) (y6_0n y6_0c : Nat) (y6_1 : Int) (y6_2 : Int) (y6_3 : Int) (y6_4 : Int) (k7 : Nat) (y7_0p : Option Addr) (y7_0n y7_0c : Nat) (y7_1 : Int) (y7_2 : Int) (y7_3 : Int) (y7_4 : Int) (z41p : Option Addr) (z41n z41c : Nat) (z42 : Int) (z43 : Int) (w : World) : Prop := br (decide (z43 < z42)) (ptrSome z41p fun q1 => (0 : Int) ≤ z43 ∧ z43 < ((z41n : Nat) : Int) ∧ rd_f64 w (q1.add (Int.toNat z43)) fun x2 => br (z1 == 0) (False) (br (z1 == 0) (False) (ptrSome y7_0p fun q10 => (0 : Int) ≤ (IntKind.i64.wrap ((IntKind.i64.wrap (Int.tdiv z43 z1)) + (IntKind.i64.wrap ((Int.tmod z43 z1) * y7_4)))) ∧ (IntKind.i64.wrap ((IntKind.i64.wrap (Int.tdiv z43 z1)) + (IntKind.i64.wrap ((Int.tmod z43 z1) * y7_4)))) < ((y7_0n : Nat) : Int) ∧ stPT (q10.add (Int.toNat (IntKind.i64.wrap ((IntKind.i64.wrap (Int.tdiv z43 z1)) + (IntKind.i64.wrap ((Int.tmod z43 z1) * y7_4)))))) 0 [(.float .f64 x2)] w.drew fun w11 => Keep [k6, k7] w.drew w11 ∧ h5 z1 k6 y6_0p y6_0n y6_0c y6_1 y6_2 y6_3 y6_4 k7 y7_0p y7_0n y7_0c y7_1 y7_2 y7_3 y7_4 z41p z41n z41c z42 (IntKind.i64.wrap (z43 + 1)) w11))) (∀ w21 : World, Exc k6 w w21 → K (.agg ⟨[(.slice y7_0p y7_0n y7_0c), (.int .i64 y7_1), (.int .i64 y7_2), (.int .i64 y7_3), (.int .i64 y7_4)]⟩) w21)
def view_Dense.d5 (K : Value → World → Prop) : Nat → Int → Nat → Option Addr → Nat → Nat → Int → Int → Int → Int → Nat → Option Addr → Nat → Nat → Int → Int → Int → Int → Option Addr → Nat → Nat → Int → Int → World → Prop
  | 0 => fun _ _ _ _ _ _ _ _ _ _ _ _ _ _ _ _ _ _ _ _ _ _ _ => False
  | fu + 1 => view_Dense.e5 K (view_Dense.d5 K fu)
def view_Dense.s (fu : Nat) (A0 : Int) (A1 : Int) (A2p : Option Addr) (A2n A2c : Nat) (w : World) (K : Value → World → Prop) : Prop := ∀ (k3 : Nat) (w2 : World), k3 = w.heap.size → k3 < w2.heap.size → Ext w w2 → br (decide (A0 < 0)) (∀ w5 : World, Exc k3 w2 w5 → K (.agg ⟨[(.slice (none : Option Addr) (0 : Nat) (0 : Nat)), (.int .i64 (0 : Int)), (.int .i64 (0 : Int)), (.int .i64 (0 : Int)), (.int .i64 (0 : Int))]⟩) w5) (br (decide (A1 < 0)) (∀ w13 : World, Exc k3 w2 w13 → K (.agg ⟨[(.slice (none : Option Addr) (0 : Nat) (0 : Nat)), (.int .i64 (0 : Int)), (.int .i64 (0 : Int)), (.int .i64 (0 : Int)), (.int .i64 (0 : Int))]⟩) w13) (br (decide (A0 > 64)) (∀ w21 : World, Exc k3 w2 w21 → K (.agg ⟨[(.slice (none : Option Addr) (0 : Nat) (0 : Nat)), (.int .i64 (0 : Int)), (.int .i64 (0 : Int)), (.int .i64 (0 : Int)), (.int .i64 (0 : Int))]⟩) w21) (br (decide (A1 > 64)) (∀ w29 : World, Exc k3 w2 w29 → K (.agg ⟨[(.slice (none : Option Addr) (0 : Nat) (0 : Nat)), (.int .i64 (0 : Int)), (.int .i64 (0 : Int)), (.int .i64 (0 : Int)), (.int .i64 (0 : Int))]⟩) w29) ((0 : Int) ≤ (IntKind.i64.wrap (A0 * A1)) ∧ ((IntKind.i64.wrap (A0 * A1)) : Int) ≤ (IntKind.i64.wrap (A0 * A1)) ∧ ((8 : Nat) : Int) * (IntKind.i64.wrap (A0 * A1)) ≤ 281474976710656 ∧ (IntKind.i64.wrap (A0 * A1)) ≤ 9223372036854775807 ∧ newB ((List.range (Int.toNat (IntKind.i64.wrap (A0 * A1)))).map fun j => List.getD [(.float .f64 0)] (j % 1) default) 38 w2 fun q37 w38 => ∀ (k41 : Nat) (w40 : World), k41 = w38.heap.size → k41 < w40.heap.size → Ext w38 w40 → ∀ w43 : World, Exc k41 w40 w43 → (0 : Int) ≤ (if (IntKind.i64.wrap (A0 * A1)) < ((A2n : Nat) : Int) then (IntKind.i64.wrap (A0 * A1)) else ((A2n : Nat) : Int)) ∧ (if (IntKind.i64.wrap (A0 * A1)) < ((A2n : Nat) : Int) then (IntKind.i64.wrap (A0 * A1)) else ((A2n : Nat) : Int)) ≤ ((A2c : Nat) : Int) ∧ view_Dense.d5 K fu A1 k3 none 0 0 0 0 0 0 k41 (some q37) (Int.toNat (IntKind.i64.wrap (A0 * A1))) (Int.toNat (IntKind.i64.wrap (A0 * A1))) 0 A0 A1 (if 1 > A0 then 1 else A0) (if A2c = 0 then A2p else A2p.map (·.add (0 * 1))) ((Int.toNat (if (IntKind.i64.wrap (A0 * A1)) < ((A2n : Nat) : Int) then (IntKind.i64.wrap (A0 * A1)) else ((A2n : Nat) : Int))) - 0) (A2c - 0) ((((Int.toNat (if (IntKind.i64.wrap (A0 * A1)) < ((A2n : Nat) : Int) then (IntKind.i64.wrap (A0 * A1)) else ((A2n : Nat) : Int))) - 0) : Nat) : Int) 0 w43))))
theorem view_Dense.b5_s {K : Value → World → Prop} {x5 : Int → Option Addr → Option Addr → Option Addr → Nat → Nat → Int → Int → World → Prop} {s5 : Int → Nat → Option Addr → Nat → Nat → Int → Int → Int → Int → Nat → Option Addr → Nat → Nat → Int → Int → Int → Int → Option Addr → Nat → Nat → Int → Int → World → Prop} (i5 : ∀ {z1 : Int} {q6 : Addr} {y6_0p : Option Addr} {y6_0n y6_0c : Nat} {y6_1 : Int} {y6_2 : Int} {y6_3 : Int} {y6_4 : Int} {q7 : Addr} {y7_0p : Option Addr} {y7_0n y7_0c : Nat} {y7_1 : Int} {y7_2 : Int} {y7_3 : Int} {y7_4 : Int} {z41p : Option Addr} {z41n z41c : Nat} {z42 : Int} {z43 : Int} {w : World}, s5 z1 q6.block y6_0p y6_0n y6_0c y6_1 y6_2 y6_3 y6_4 q7.block y7_0p y7_0n y7_0c y7_1 y7_2 y7_3 y7_4 z41p z41n z41c z42 z43 w → St w [(q6, [(.slice y6_0p y6_0n y6_0c), (.int .i64 y6_1), (.int .i64 y6_2), (.int .i64 y6_3), (.int .i64 y6_4)]), (q7, [(.slice y7_0p y7_0n y7_0c), (.int .i64 y7_1), (.int .i64 y7_2), (.int .i64 y7_3), (.int .i64 y7_4)])] → x5 z1 (some q6) (some q7) z41p z41n z41c z42 z43 w) {z1 : Int} {q6 : Addr} {y6_0p : Option Addr} {y6_0n y6_0c : Nat} {y6_1 : Int} {y6_2 : Int} {y6_3 : Int} {y6_4 : Int} {q7 : Addr} {y7_0p : Option Addr} {y7_0n y7_0c : Nat} {y7_1 : Int} {y7_2 : Int} {y7_3 : Int} {y7_4 : Int} {z41p : Option Addr} {z41n z41c : Nat} {z42 : Int} {z43 : Int} {w : World} (h : view_Dense.e5 K s5 z1 q6.block y6_0p y6_0n y6_0c y6_1 y6_2 y6_3 y6_4 q7.block y7_0p y7_0n y7_0c y7_1 y7_2 y7_3 y7_4 z41p z41n z41c z42 z43 w) (st : St w [(q6, [(.slice y6_0p y6_0n y6_0c), (.int .i64 y6_1), (.int .i64 y6_2), (.int .i64 y6_3), (.int .i64 y6_4)]), (q7, [(.slice y7_0p y7_0n y7_0c), (.int .i64 y7_1), (.int .i64 y7_2), (.int .i64 y7_3), (.int .i64 y7_4)])]) : view_Dense.b5 K x5 z1 (some q6) (some q7) z41p z41n z41c z42 z43 w := by
  unfold view_Dense.b5
  unfold view_Dense.e5 at h
  refine br_mono (fun h => ?_) (fun h => ?_) h
  · refine ptrSome_mono (fun q1 h => ?_) h
    refine And.imp_right (fun h => ?_) h
    refine And.imp_right (fun h => ?_) h
    refine rd_f64.mono (fun x2 h => ?_) h
    replace st := st.drew
    have st3 := st
    refine ptrSome_intro rfl ?_
    refine rd_l.bx 1 0 st3 rfl rfl rfl ?_
    refine br_mono (fun h => ?_) (fun h => ?_) h
    · exact h
    · refine br_mono (fun h => ?_) (fun h => ?_) h
      · exact h
      · refine ptrSome_intro rfl ?_
        refine rd_i64.bx 1 4 st3 rfl rfl rfl ?_
        refine ptrSome_mono (fun q10 h => ?_) h
        refine And.imp_right (fun h => ?_) h
        refine And.imp_right (fun h => ?_) h
        refine stPT_mono (fun w11 h => ?_) h
        obtain ⟨hK, h⟩ := h
        replace st := st.keep hK
        exact i5 h (st.pick [0, 1] (by decide))
  · refine ptrSome_intro rfl ?_
    refine rd_l_i64_i64_i64_i64.bx 1 0 st rfl rfl rfl rfl rfl rfl rfl ?_
    refine ptrSome_intro rfl ?_
    refine St.put 0 0 st rfl rfl rfl rfl (fun w21 he st => ?_)
    replace h := h w21 he
    refine ptrSome_intro rfl ?_
    refine rd_l_i64_i64_i64_i64.bx 0 0 st rfl rfl rfl rfl rfl rfl rfl ?_
    exact h
theorem view_Dense.c5_s {K : Value → World → Prop} (fu : Nat) : ∀ {z1 : Int} {q6 : Addr} {y6_0p : Option Addr} {y6_0n y6_0c : Nat} {y6_1 : Int} {y6_2 : Int} {y6_3 : Int} {y6_4 : Int} {q7 : Addr} {y7_0p : Option Addr} {y7_0n y7_0c : Nat} {y7_1 : Int} {y7_2 : Int} {y7_3 : Int} {y7_4 : Int} {z41p : Option Addr} {z41n z41c : Nat} {z42 : Int} {z43 : Int} {w : World}, view_Dense.d5 K fu z1 q6.block y6_0p y6_0n y6_0c y6_1 y6_2 y6_3 y6_4 q7.block y7_0p y7_0n y7_0c y7_1 y7_2 y7_3 y7_4 z41p z41n z41c z42 z43 w → St w [(q6, [(.slice y6_0p y6_0n y6_0c), (.int .i64 y6_1), (.int .i64 y6_2), (.int .i64 y6_3), (.int .i64 y6_4)]), (q7, [(.slice y7_0p y7_0n y7_0c), (.int .i64 y7_1), (.int .i64 y7_2), (.int .i64 y7_3), (.int .i64 y7_4)])] → view_Dense.c5 K fu z1 (some q6) (some q7) z41p z41n z41c z42 z43 w := by
  induction fu with
  | zero => exact fun h _ => False.elim h
  | succ fu ih => exact fun h st => view_Dense.b5_s (K := K) (x5 := view_Dense.c5 K fu) (s5 := view_Dense.d5 K fu) ih h st
theorem view_Dense.os (fu : Nat) {A0 : Int} {A1 : Int} {A2p : Option Addr} {A2n A2c : Nat} {w : World} {K : Value → World → Prop} (h : view_Dense.s fu A0 A1 A2p A2n A2c w K) : view_Dense.call [(.int .i64 A0), (.int .i64 A1), (.slice A2p A2n A2c)] w K := by
  refine view_Dense.ok fu ?_
  have st := St.nil w
  unfold view_Dense.x
  unfold view_Dense.s at h
  refine St.new (St.nil _) (fun q1 w2 hk hlt he st => ?_)
  replace h := h q1.block w2 hk hlt he
  refine br_mono (fun h => ?_) (fun h => ?_) h
  · refine St.put 0 0 st rfl rfl rfl rfl (fun w5 he st => ?_)
    replace h := h w5 he
    refine rd_l_i64_i64_i64_i64.bx 0 0 st rfl rfl rfl rfl rfl rfl rfl ?_
    exact h
  · refine br_mono (fun h => ?_) (fun h => ?_) h
    · refine St.put 0 0 st rfl rfl rfl rfl (fun w13 he st => ?_)
      replace h := h w13 he
      refine rd_l_i64_i64_i64_i64.bx 0 0 st rfl rfl rfl rfl rfl rfl rfl ?_
      exact h
    · refine br_mono (fun h => ?_) (fun h => ?_) h
      · refine St.put 0 0 st rfl rfl rfl rfl (fun w21 he st => ?_)
        replace h := h w21 he
        refine rd_l_i64_i64_i64_i64.bx 0 0 st rfl rfl rfl rfl rfl rfl rfl ?_
        exact h
      · refine br_mono (fun h => ?_) (fun h => ?_) h
        · refine St.put 0 0 st rfl rfl rfl rfl (fun w29 he st => ?_)
          replace h := h w29 he
          refine rd_l_i64_i64_i64_i64.bx 0 0 st rfl rfl rfl rfl rfl rfl rfl ?_
          exact h
        · refine And.imp_right (fun h => ?_) h
          refine And.imp_right (fun h => ?_) h
          refine And.imp_right (fun h => ?_) h
          refine And.imp_right (fun h => ?_) h
          refine newB_mono st h (fun q37 w38 st h => ?_)
          refine St.new st (fun q39 w40 hk hlt he st => ?_)
          replace h := h q39.block w40 hk hlt he
          refine St.put 0 0 st rfl rfl rfl rfl (fun w43 he st => ?_)
          replace h := h w43 he
          refine And.imp_right (fun h => ?_) h
          refine And.imp_right (fun h => ?_) h
          exact view_Dense.c5_s fu h (st.pick [1, 0] (by decide))

/-! ### straightedge/view.At: function 35 -/
def view_At.x (A0_0p : Option Addr) (A0_0n A0_0c : Nat) (A0_1 : Int) (A0_2 : Int) (A0_3 : Int) (A0_4 : Int) (A1 : Int) (A2 : Int) (w : World) (K : Value → World → Prop) : Prop := newB [(.slice A0_0p A0_0n A0_0c), (.int .i64 A0_1), (.int .i64 A0_2), (.int .i64 A0_3), (.int .i64 A0_4)] 24 w fun q1 w2 => rd_l_i64_i64_i64_i64 w2 q1 fun a3 n4 c5 i6 i7 i8 i9 => view_place.call [(.agg ⟨[(.slice a3 n4 c5), (.int .i64 i6), (.int .i64 i7), (.int .i64 i8), (.int .i64 i9)]⟩), (.int .i64 A1), (.int .i64 A2)] w2 fun v10 w11 => ∃ i12 : Int, v10 = (.int .i64 i12) ∧ br (decide (i12 ≥ 0)) (rd_l w11 q1 fun a13 n14 c15 => ptrSome a13 fun q16 => (0 : Int) ≤ i12 ∧ i12 < ((n14 : Nat) : Int) ∧ rd_f64 w11 (q16.add (Int.toNat i12)) fun x17 => K (.float .f64 x17) w11) (K (.float .f64 0) w11)
theorem view_At.ok {A0_0p : Option Addr} {A0_0n A0_0c : Nat} {A0_1 : Int} {A0_2 : Int} {A0_3 : Int} {A0_4 : Int} {A1 : Int} {A2 : Int} {w : World} {K : Value → World → Prop} (h : view_At.x A0_0p A0_0n A0_0c A0_1 A0_2 A0_3 A0_4 A1 A2 w K) : view_At.call [(.agg ⟨[(.slice A0_0p A0_0n A0_0c), (.int .i64 A0_1), (.int .i64 A0_2), (.int .i64 A0_3), (.int .i64 A0_4)]⟩), (.int .i64 A1), (.int .i64 A2)] w K :=
  callF_of_ex0 (f := Try.f35) Try.func35 rfl mixed (by kernel_rfl) (Eq.mp (by kernel_rfl) h)
/-! the same, the local variables taken out -/
def view_At.s (A0_0p : Option Addr) (A0_0n A0_0c : Nat) (A0_1 : Int) (A0_2 : Int) (A0_3 : Int) (A0_4 : Int) (A1 : Int) (A2 : Int) (w : World) (K : Value → World → Prop) : Prop := ∀ (k3 : Nat) (w2 : World), k3 = w.heap.size → k3 < w2.heap.size → Ext w w2 → view_place.call [(.agg ⟨[(.slice A0_0p A0_0n A0_0c), (.int .i64 A0_1), (.int .i64 A0_2), (.int .i64 A0_3), (.int .i64 A0_4)]⟩), (.int .i64 A1), (.int .i64 A2)] w2 fun v12 w13 => Stay [k3] w2 w13 ∧ ∃ i14 : Int, v12 = (.int .i64 i14) ∧ br (decide (i14 ≥ 0)) (ptrSome A0_0p fun q18 => (0 : Int) ≤ i14 ∧ i14 < ((A0_0n : Nat) : Int) ∧ rd_f64 w13 (q18.add (Int.toNat i14)) fun x19 => K (.float .f64 x19) w13) (K (.float .f64 0) w13)
theorem view_At.os {A0_0p : Option Addr} {A0_0n A0_0c : Nat} {A0_1 : Int} {A0_2 : Int} {A0_3 : Int} {A0_4 : Int} {A1 : Int} {A2 : Int} {w : World} {K : Value → World → Prop} (h : view_At.s A0_0p A0_0n A0_0c A0_1 A0_2 A0_3 A0_4 A1 A2 w K) : view_At.call [(.agg ⟨[(.slice A0_0p A0_0n A0_0c), (.int .i64 A0_1), (.int .i64 A0_2), (.int .i64 A0_3), (.int .i64 A0_4)]⟩), (.int .i64 A1), (.int .i64 A2)] w K := by
  refine view_At.ok ?_
  have st := St.nil w
  unfold view_At.x
  unfold view_At.s at h
  refine St.new (St.nil _) (fun q1 w2 hk hlt he st => ?_)
  replace h := h q1.block w2 hk hlt he
  refine rd_l_i64_i64_i64_i64.bx 0 0 st rfl rfl rfl rfl rfl rfl rfl ?_
  refine CallF.mono h (fun v12 w13 h => ?_)
  obtain ⟨hK, h⟩ := h
  replace st := st.stay hK
  obtain ⟨i14, h⟩ := h
  refine ⟨i14, ?_⟩
  refine And.imp_right (fun h => ?_) h
  refine br_mono (fun h => ?_) (fun h => ?_) h
  · refine rd_l.bx 0 0 st rfl rfl rfl ?_
    exact h
  · exact h

/-! ### straightedge/view.Part: function 37 -/
def view_Part.x (A0_0p : Option Addr) (A0_0n A0_0c : Nat) (A0_1 : Int) (A0_2 : Int) (A0_3 : Int) (A0_4 : Int) (A1 : Int) (A2 : Int) (A3 : Int) (A4 : Int) (w : World) (K : Value → World → Prop) : Prop := newB [(.slice A0_0p A0_0n A0_0c), (.int .i64 A0_1), (.int .i64 A0_2), (.int .i64 A0_3), (.int .i64 A0_4)] 24 w fun q1 w2 => newB [(.slice none 0 0), (.int .i64 0), (.int .i64 0), (.int .i64 0), (.int .i64 0)] 24 w2 fun q3 w4 => rd_l_i64_i64_i64_i64 w4 q1 fun a5 n6 c7 i8 i9 i10 i11 => view_Good.call [(.agg ⟨[(.slice a5 n6 c7), (.int .i64 i8), (.int .i64 i9), (.int .i64 i10), (.int .i64 i11)]⟩)] w4 fun v12 w13 => ∃ b14 : Bool, v12 = (.bool b14) ∧ br (!b14) (stPT q3 0 [(.slice none 0 0), (.int .i64 0), (.int .i64 0), (.int .i64 0), (.int .i64 0)] w13 fun w15 => rd_l_i64_i64_i64_i64 w15 q3 fun a16 n17 c18 i19 i20 i21 i22 => K (.agg ⟨[(.slice a16 n17 c18), (.int .i64 i19), (.int .i64 i20), (.int .i64 i21), (.int .i64 i22)]⟩) w15) (br (decide (A1 < 0)) (stPT q3 0 [(.slice none 0 0), (.int .i64 0), (.int .i64 0), (.int .i64 0), (.int .i64 0)] w13 fun w23 => rd_l_i64_i64_i64_i64 w23 q3 fun a24 n25 c26 i27 i28 i29 i30 => K (.agg ⟨[(.slice a24 n25 c26), (.int .i64 i27), (.int .i64 i28), (.int .i64 i29), (.int .i64 i30)]⟩) w23) (br (decide (A2 < 0)) (stPT q3 0 [(.slice none 0 0), (.int .i64 0), (.int .i64 0), (.int .i64 0), (.int .i64 0)] w13 fun w31 => rd_l_i64_i64_i64_i64 w31 q3 fun a32 n33 c34 i35 i36 i37 i38 => K (.agg ⟨[(.slice a32 n33 c34), (.int .i64 i35), (.int .i64 i36), (.int .i64 i37), (.int .i64 i38)]⟩) w31) (br (decide (A3 < 0)) (stPT q3 0 [(.slice none 0 0), (.int .i64 0), (.int .i64 0), (.int .i64 0), (.int .i64 0)] w13 fun w39 => rd_l_i64_i64_i64_i64 w39 q3 fun a40 n41 c42 i43 i44 i45 i46 => K (.agg ⟨[(.slice a40 n41 c42), (.int .i64 i43), (.int .i64 i44), (.int .i64 i45), (.int .i64 i46)]⟩) w39) (br (decide (A4 < 0)) (stPT q3 0 [(.slice none 0 0), (.int .i64 0), (.int .i64 0), (.int .i64 0), (.int .i64 0)] w13 fun w47 => rd_l_i64_i64_i64_i64 w47 q3 fun a48 n49 c50 i51 i52 i53 i54 => K (.agg ⟨[(.slice a48 n49 c50), (.int .i64 i51), (.int .i64 i52), (.int .i64 i53), (.int .i64 i54)]⟩) w47) (rd_i64 w13 (q1.add 2) fun i55 => br (decide (A3 > (IntKind.i64.wrap (i55 - A1)))) (stPT q3 0 [(.slice none 0 0), (.int .i64 0), (.int .i64 0), (.int .i64 0), (.int .i64 0)] w13 fun w56 => rd_l_i64_i64_i64_i64 w56 q3 fun a57 n58 c59 i60 i61 i62 i63 => K (.agg ⟨[(.slice a57 n58 c59), (.int .i64 i60), (.int .i64 i61), (.int .i64 i62), (.int .i64 i63)]⟩) w56) (rd_i64 w13 (q1.add 3) fun i64 => br (decide (A4 > (IntKind.i64.wrap (i64 - A2)))) (stPT q3 0 [(.slice none 0 0), (.int .i64 0), (.int .i64 0), (.int .i64 0), (.int .i64 0)] w13 fun w65 => rd_l_i64_i64_i64_i64 w65 q3 fun a66 n67 c68 i69 i70 i71 i72 => K (.agg ⟨[(.slice a66 n67 c68), (.int .i64 i69), (.int .i64 i70), (.int .i64 i71), (.int .i64 i72)]⟩) w65) (rd_l w13 q1 fun a73 n74 c75 => rd_i64 w13 (q1.add 1) fun i76 => rd_i64 w13 (q1.add 4) fun i77 => newB [(.slice none 0 0), (.int .i64 0), (.int .i64 0), (.int .i64 0), (.int .i64 0)] 24 w13 fun q78 w79 => stPT q78 0 [(.slice a73 n74 c75), (.int .i64 i76), (.int .i64 A3), (.int .i64 A4), (.int .i64 i77)] w79 fun w80 => br (decide (A3 > 0)) (br (decide (A4 > 0)) (rd_i64 w80 (q78.add 1) fun i81 => rd_i64 w80 (q1.add 4) fun i82 => stPT (q78.add 1) 0 [(.int .i64 (IntKind.i64.wrap (i81 + (IntKind.i64.wrap (A1 + (IntKind.i64.wrap (A2 * i82)))))))] w80 fun w83 => rd_l_i64_i64_i64_i64 w83 q78 fun a84 n85 c86 i87 i88 i89 i90 => stPT q3 0 [(.slice a84 n85 c86), (.int .i64 i87), (.int .i64 i88), (.int .i64 i89), (.int .i64 i90)] w83 fun w91 => rd_l_i64_i64_i64_i64 w91 q3 fun a92 n93 c94 i95 i96 i97 i98 => K (.agg ⟨[(.slice a92 n93 c94), (.int .i64 i95), (.int .i64 i96), (.int .i64 i97), (.int .i64 i98)]⟩) w91) (rd_l_i64_i64_i64_i64 w80 q78 fun a99 n100 c101 i102 i103 i104 i105 => stPT q3 0 [(.slice a99 n100 c101), (.int .i64 i102), (.int .i64 i103), (.int .i64 i104), (.int .i64 i105)] w80 fun w106 => rd_l_i64_i64_i64_i64 w106 q3 fun a107 n108 c109 i110 i111 i112 i113 => K (.agg ⟨[(.slice a107 n108 c109), (.int .i64 i110), (.int .i64 i111), (.int .i64 i112), (.int .i64 i113)]⟩) w106)) (rd_l_i64_i64_i64_i64 w80 q78 fun a114 n115 c116 i117 i118 i119 i120 => stPT q3 0 [(.slice a114 n115 c116), (.int .i64 i117), (.int .i64 i118), (.int .i64 i119), (.int .i64 i120)] w80 fun w121 => rd_l_i64_i64_i64_i64 w121 q3 fun a122 n123 c124 i125 i126 i127 i128 => K (.agg ⟨[(.slice a122 n123 c124), (.int .i64 i125), (.int .i64 i126), (.int .i64 i127), (.int .i64 i128)]⟩) w121))))))))
theorem view_Part.ok {A0_0p : Option Addr} {A0_0n A0_0c : Nat} {A0_1 : Int} {A0_2 : Int} {A0_3 : Int} {A0_4 : Int} {A1 : Int} {A2 : Int} {A3 : Int} {A4 : Int} {w : World} {K : Value → World → Prop} (h : view_Part.x A0_0p A0_0n A0_0c A0_1 A0_2 A0_3 A0_4 A1 A2 A3 A4 w K) : view_Part.call [(.agg ⟨[(.slice A0_0p A0_0n A0_0c), (.int .i64 A0_1), (.int .i64 A0_2), (.int .i64 A0_3), (.int .i64 A0_4)]⟩), (.int .i64 A1), (.int .i64 A2), (.int .i64 A3), (.int .i64 A4)] w K :=
  callF_of_ex0 (f := Try.f37) Try.func37 rfl mixed (by kernel_rfl) (Eq.mp (by kernel_rfl) h)
/-! the same, the local variables taken out -/
def view_Part.s (A0_0p : Option Addr) (A0_0n A0_0c : Nat) (A0_1 : Int) (A0_2 : Int) (A0_3 : Int) (A0_4 : Int) (A1 : Int) (A2 : Int) (A3 : Int) (A4 : Int) (w : World) (K : Value → World → Prop) : Prop := ∀ (k3 : Nat) (w2 : World), k3 = w.heap.size → k3 < w2.heap.size → Ext w w2 → ∀ (k7 : Nat) (w6 : World), k7 = w2.heap.size → k7 < w6.heap.size → Ext w2 w6 → view_Good.call [(.agg ⟨[(.slice A0_0p A0_0n A0_0c), (.int .i64 A0_1), (.int .i64 A0_2), (.int .i64 A0_3), (.int .i64 A0_4)]⟩)] w6 fun v16 w17 => Stay [k7, k3] w6 w17 ∧ ∃ b18 : Bool, v16 = (.bool b18) ∧ br (!b18) (∀ w19 : World, Exc k7 w17 w19 → K (.agg ⟨[(.slice (none : Option Addr) (0 : Nat) (0 : Nat)), (.int .i64 (0 : Int)), (.int .i64 (0 : Int)), (.int .i64 (0 : Int)), (.int .i64 (0 : Int))]⟩) w19) (br (decide (A1 < 0)) (∀ w27 : World, Exc k7 w17 w27 → K (.agg ⟨[(.slice (none : Option Addr) (0 : Nat) (0 : Nat)), (.int .i64 (0 : Int)), (.int .i64 (0 : Int)), (.int .i64 (0 : Int)), (.int .i64 (0 : Int))]⟩) w27) (br (decide (A2 < 0)) (∀ w35 : World, Exc k7 w17 w35 → K (.agg ⟨[(.slice (none : Option Addr) (0 : Nat) (0 : Nat)), (.int .i64 (0 : Int)), (.int .i64 (0 : Int)), (.int .i64 (0 : Int)), (.int .i64 (0 : Int))]⟩) w35) (br (decide (A3 < 0)) (∀ w43 : World, Exc k7 w17 w43 → K (.agg ⟨[(.slice (none : Option Addr) (0 : Nat) (0 : Nat)), (.int .i64 (0 : Int)), (.int .i64 (0 : Int)), (.int .i64 (0 : Int)), (.int .i64 (0 : Int))]⟩) w43) (br (decide (A4 < 0)) (∀ w51 : World, Exc k7 w17 w51 → K (.agg ⟨[(.slice (none : Option Addr) (0 : Nat) (0 : Nat)), (.int .i64 (0 : Int)), (.int .i64 (0 : Int)), (.int .i64 (0 : Int)), (.int .i64 (0 : Int))]⟩) w51) (br (decide (A3 > (IntKind.i64.wrap (A0_2 - A1)))) (∀ w60 : World, Exc k7 w17 w60 → K (.agg ⟨[(.slice (none : Option Addr) (0 : Nat) (0 : Nat)), (.int .i64 (0 : Int)), (.int .i64 (0 : Int)), (.int .i64 (0 : Int)), (.int .i64 (0 : Int))]⟩) w60) (br (decide (A4 > (IntKind.i64.wrap (A0_3 - A2)))) (∀ w69 : World, Exc k7 w17 w69 → K (.agg ⟨[(.slice (none : Option Addr) (0 : Nat) (0 : Nat)), (.int .i64 (0 : Int)), (.int .i64 (0 : Int)), (.int .i64 (0 : Int)), (.int .i64 (0 : Int))]⟩) w69) (∀ (k84 : Nat) (w83 : World), k84 = w17.heap.size → k84 < w83.heap.size → Ext w17 w83 → ∀ w86 : World, Exc k84 w83 w86 → br (decide (A3 > 0)) (br (decide (A4 > 0)) (∀ w89 : World, Exc k84 w86 w89 → ∀ w97 : World, Exc k7 w89 w97 → K (.agg ⟨[(.slice A0_0p A0_0n A0_0c), (.int .i64 (IntKind.i64.wrap (A0_1 + (IntKind.i64.wrap (A1 + (IntKind.i64.wrap (A2 * A0_4))))))), (.int .i64 A3), (.int .i64 A4), (.int .i64 A0_4)]⟩) w97) (∀ w112 : World, Exc k7 w86 w112 → K (.agg ⟨[(.slice A0_0p A0_0n A0_0c), (.int .i64 A0_1), (.int .i64 A3), (.int .i64 A4), (.int .i64 A0_4)]⟩) w112)) (∀ w127 : World, Exc k7 w86 w127 → K (.agg ⟨[(.slice A0_0p A0_0n A0_0c), (.int .i64 A0_1), (.int .i64 A3), (.int .i64 A4), (.int .i64 A0_4)]⟩) w127))))))))
theorem view_Part.os {A0_0p : Option Addr} {A0_0n A0_0c : Nat} {A0_1 : Int} {A0_2 : Int} {A0_3 : Int} {A0_4 : Int} {A1 : Int} {A2 : Int} {A3 : Int} {A4 : Int} {w : World} {K : Value → World → Prop} (h : view_Part.s A0_0p A0_0n A0_0c A0_1 A0_2 A0_3 A0_4 A1 A2 A3 A4 w K) : view_Part.call [(.agg ⟨[(.slice A0_0p A0_0n A0_0c), (.int .i64 A0_1), (.int .i64 A0_2), (.int .i64 A0_3), (.int .i64 A0_4)]⟩), (.int .i64 A1), (.int .i64 A2), (.int .i64 A3), (.int .i64 A4)] w K := by
  refine view_Part.ok ?_
  have st := St.nil w
  unfold view_Part.x
  unfold view_Part.s at h
  refine St.new (St.nil _) (fun q1 w2 hk hlt he st => ?_)
  replace h := h q1.block w2 hk hlt he
  refine St.new st (fun q5 w6 hk hlt he st => ?_)
  replace h := h q5.block w6 hk hlt he
  refine rd_l_i64_i64_i64_i64.bx 1 0 st rfl rfl rfl rfl rfl rfl rfl ?_
  refine CallF.mono h (fun v16 w17 h => ?_)
  obtain ⟨hK, h⟩ := h
  replace st := st.stay hK
  obtain ⟨b18, h⟩ := h
  refine ⟨b18, ?_⟩
  refine And.imp_right (fun h => ?_) h
  refine br_mono (fun h => ?_) (fun h => ?_) h
  · refine St.put 0 0 st rfl rfl rfl rfl (fun w19 he st => ?_)
    replace h := h w19 he
    refine rd_l_i64_i64_i64_i64.bx 0 0 st rfl rfl rfl rfl rfl rfl rfl ?_
    exact h
  · refine br_mono (fun h => ?_) (fun h => ?_) h
    · refine St.put 0 0 st rfl rfl rfl rfl (fun w27 he st => ?_)
      replace h := h w27 he
      refine rd_l_i64_i64_i64_i64.bx 0 0 st rfl rfl rfl rfl rfl rfl rfl ?_
      exact h
    · refine br_mono (fun h => ?_) (fun h => ?_) h
      · refine St.put 0 0 st rfl rfl rfl rfl (fun w35 he st => ?_)
        replace h := h w35 he
        refine rd_l_i64_i64_i64_i64.bx 0 0 st rfl rfl rfl rfl rfl rfl rfl ?_
        exact h
      · refine br_mono (fun h => ?_) (fun h => ?_) h
        · refine St.put 0 0 st rfl rfl rfl rfl (fun w43 he st => ?_)
          replace h := h w43 he
          refine rd_l_i64_i64_i64_i64.bx 0 0 st rfl rfl rfl rfl rfl rfl rfl ?_
          exact h
        · refine br_mono (fun h => ?_) (fun h => ?_) h
          · refine St.put 0 0 st rfl rfl rfl rfl (fun w51 he st => ?_)
            replace h := h w51 he
            refine rd_l_i64_i64_i64_i64.bx 0 0 st rfl rfl rfl rfl rfl rfl rfl ?_
            exact h
          · refine rd_i64.bx 1 2 st rfl rfl rfl ?_
            refine br_mono (fun h => ?_) (fun h => ?_) h
            · refine St.put 0 0 st rfl rfl rfl rfl (fun w60 he st => ?_)
              replace h := h w60 he
              refine rd_l_i64_i64_i64_i64.bx 0 0 st rfl rfl rfl rfl rfl rfl rfl ?_
              exact h
            · refine rd_i64.bx 1 3 st rfl rfl rfl ?_
              refine br_mono (fun h => ?_) (fun h => ?_) h
              · refine St.put 0 0 st rfl rfl rfl rfl (fun w69 he st => ?_)
                replace h := h w69 he
                refine rd_l_i64_i64_i64_i64.bx 0 0 st rfl rfl rfl rfl rfl rfl rfl ?_
                exact h
              · refine rd_l.bx 1 0 st rfl rfl rfl ?_
                refine rd_i64.bx 1 1 st rfl rfl rfl ?_
                refine rd_i64.bx 1 4 st rfl rfl rfl ?_
                refine St.new st (fun q82 w83 hk hlt he st => ?_)
                replace h := h q82.block w83 hk hlt he
                refine St.put 0 0 st rfl rfl rfl rfl (fun w86 he st => ?_)
                replace h := h w86 he
                refine br_mono (fun h => ?_) (fun h => ?_) h
                · refine br_mono (fun h => ?_) (fun h => ?_) h
                  · refine rd_i64.bx 0 1 st rfl rfl rfl ?_
                    refine rd_i64.bx 2 4 st rfl rfl rfl ?_
                    refine St.put 0 1 st rfl rfl rfl rfl (fun w89 he st => ?_)
                    replace h := h w89 he
                    refine rd_l_i64_i64_i64_i64.bx 0 0 st rfl rfl rfl rfl rfl rfl rfl ?_
                    refine St.put 1 0 st rfl rfl rfl rfl (fun w97 he st => ?_)
                    replace h := h w97 he
                    refine rd_l_i64_i64_i64_i64.bx 1 0 st rfl rfl rfl rfl rfl rfl rfl ?_
                    exact h
                  · refine rd_l_i64_i64_i64_i64.bx 0 0 st rfl rfl rfl rfl rfl rfl rfl ?_
                    refine St.put 1 0 st rfl rfl rfl rfl (fun w112 he st => ?_)
                    replace h := h w112 he
                    refine rd_l_i64_i64_i64_i64.bx 1 0 st rfl rfl rfl rfl rfl rfl rfl ?_
                    exact h
                · refine rd_l_i64_i64_i64_i64.bx 0 0 st rfl rfl rfl rfl rfl rfl rfl ?_
                  refine St.put 1 0 st rfl rfl rfl rfl (fun w127 he st => ?_)
                  replace h := h w127 he
                  refine rd_l_i64_i64_i64_i64.bx 1 0 st rfl rfl rfl rfl rfl rfl rfl ?_
                  exact h

/-! ### straightedge/view.Good: function 57 -/
def view_Good.x (A0_0p : Option Addr) (A0_0n A0_0c : Nat) (A0_1 : Int) (A0_2 : Int) (A0_3 : Int) (A0_4 : Int) (w : World) (K : Value → World → Prop) : Prop := newB [(.slice A0_0p A0_0n A0_0c), (.int .i64 A0_1), (.int .i64 A0_2), (.int .i64 A0_3), (.int .i64 A0_4)] 24 w fun q1 w2 => rd_i64 w2 (q1.add 2) fun i3 => br (decide (i3 < 0)) (K (.bool false) w2) (rd_i64 w2 (q1.add 3) fun i4 => br (decide (i4 < 0)) (K (.bool false) w2) (rd_i64 w2 (q1.add 1) fun i5 => br (decide (i5 < 0)) (K (.bool false) w2) (rd_i64 w2 (q1.add 4) fun i6 => br (decide (i6 < 1)) (K (.bool false) w2) (rd_i64 w2 (q1.add 4) fun i7 => rd_i64 w2 (q1.add 2) fun i8 => br (decide (i7 < i8)) (K (.bool false) w2) (rd_i64 w2 (q1.add 2) fun i9 => br (i9 == 0) (K (.bool true) w2) (rd_i64 w2 (q1.add 3) fun i10 => br (i10 == 0) (K (.bool true) w2) (rd_l w2 q1 fun a11 n12 c13 => rd_i64 w2 (q1.add 1) fun i14 => rd_i64 w2 (q1.add 3) fun i15 => rd_i64 w2 (q1.add 4) fun i16 => rd_i64 w2 (q1.add 2) fun i17 => view_fits.call [(.int .i64 ((n12 : Nat) : Int)), (.int .i64 i14), (.int .i64 (IntKind.i64.wrap (i15 - 1))), (.int .i64 i16), (.int .i64 (IntKind.i64.wrap (i17 - 1)))] w2 fun v18 w19 => ∃ b20 : Bool, v18 = (.bool b20) ∧ K (.bool b20) w19)))))))
theorem view_Good.ok {A0_0p : Option Addr} {A0_0n A0_0c : Nat} {A0_1 : Int} {A0_2 : Int} {A0_3 : Int} {A0_4 : Int} {w : World} {K : Value → World → Prop} (h : view_Good.x A0_0p A0_0n A0_0c A0_1 A0_2 A0_3 A0_4 w K) : view_Good.call [(.agg ⟨[(.slice A0_0p A0_0n A0_0c), (.int .i64 A0_1), (.int .i64 A0_2), (.int .i64 A0_3), (.int .i64 A0_4)]⟩)] w K :=
  callF_of_ex0 (f := Try.f57) Try.func57 rfl mixed (by kernel_rfl) (Eq.mp (by kernel_rfl) h)
/-! the same, the local variables taken out -/
def view_Good.s (A0_0p : Option Addr) (A0_0n A0_0c : Nat) (A0_1 : Int) (A0_2 : Int) (A0_3 : Int) (A0_4 : Int) (w : World) (K : Value → World → Prop) : Prop := ∀ (k3 : Nat) (w2 : World), k3 = w.heap.size → k3 < w2.heap.size → Ext w w2 → br (decide (A0_2 < 0)) (K (.bool false) w2) (br (decide (A0_3 < 0)) (K (.bool false) w2) (br (decide (A0_1 < 0)) (K (.bool false) w2) (br (decide (A0_4 < 1)) (K (.bool false) w2) (br (decide (A0_4 < A0_2)) (K (.bool false) w2) (br (A0_2 == 0) (K (.bool true) w2) (br (A0_3 == 0) (K (.bool true) w2) (view_fits.call [(.int .i64 ((A0_0n : Nat) : Int)), (.int .i64 A0_1), (.int .i64 (IntKind.i64.wrap (A0_3 - 1))), (.int .i64 A0_4), (.int .i64 (IntKind.i64.wrap (A0_2 - 1)))] w2 fun v20 w21 => Stay [k3] w2 w21 ∧ ∃ b22 : Bool, v20 = (.bool b22) ∧ K (.bool b22) w21)))))))
theorem view_Good.os {A0_0p : Option Addr} {A0_0n A0_0c : Nat} {A0_1 : Int} {A0_2 : Int} {A0_3 : Int} {A0_4 : Int} {w : World} {K : Value → World → Prop} (h : view_Good.s A0_0p A0_0n A0_0c A0_1 A0_2 A0_3 A0_4 w K) : view_Good.call [(.agg ⟨[(.slice A0_0p A0_0n A0_0c), (.int .i64 A0_1), (.int .i64 A0_2), (.int .i64 A0_3), (.int .i64 A0_4)]⟩)] w K := by
  refine view_Good.ok ?_
  have st := St.nil w
  unfold view_Good.x
  unfold view_Good.s at h
  refine St.new (St.nil _) (fun q1 w2 hk hlt he st => ?_)
  replace h := h q1.block w2 hk hlt he
  refine rd_i64.bx 0 2 st rfl rfl rfl ?_
  refine br_mono (fun h => ?_) (fun h => ?_) h
  · exact h
  · refine rd_i64.bx 0 3 st rfl rfl rfl ?_
    refine br_mono (fun h => ?_) (fun h => ?_) h
    · exact h
    · refine rd_i64.bx 0 1 st rfl rfl rfl ?_
      refine br_mono (fun h => ?_) (fun h => ?_) h
      · exact h
      · refine rd_i64.bx 0 4 st rfl rfl rfl ?_
        refine br_mono (fun h => ?_) (fun h => ?_) h
        · exact h
        · refine rd_i64.bx 0 4 st rfl rfl rfl ?_
          refine rd_i64.bx 0 2 st rfl rfl rfl ?_
          refine br_mono (fun h => ?_) (fun h => ?_) h
          · exact h
          · refine rd_i64.bx 0 2 st rfl rfl rfl ?_
            refine br_mono (fun h => ?_) (fun h => ?_) h
            · exact h
            · refine rd_i64.bx 0 3 st rfl rfl rfl ?_
              refine br_mono (fun h => ?_) (fun h => ?_) h
              · exact h
              · refine rd_l.bx 0 0 st rfl rfl rfl ?_
                refine rd_i64.bx 0 1 st rfl rfl rfl ?_
                refine rd_i64.bx 0 3 st rfl rfl rfl ?_
                refine rd_i64.bx 0 4 st rfl rfl rfl ?_
                refine rd_i64.bx 0 2 st rfl rfl rfl ?_
                refine CallF.mono h (fun v20 w21 h => ?_)
                obtain ⟨hK, h⟩ := h
                replace st := st.stay hK
                exact h

/-! ### straightedge/view.Col: function 59 -/
def view_Col.x (A0_0p : Option Addr) (A0_0n A0_0c : Nat) (A0_1 : Int) (A0_2 : Int) (A0_3 : Int) (A0_4 : Int) (A1 : Int) (w : World) (K : Value → World → Prop) : Prop := newB [(.slice A0_0p A0_0n A0_0c), (.int .i64 A0_1), (.int .i64 A0_2), (.int .i64 A0_3), (.int .i64 A0_4)] 24 w fun q1 w2 => newB [(.slice none 0 0), (.int .i64 0), (.int .i64 0), (.int .i64 0)] 66 w2 fun q3 w4 => rd_l_i64_i64_i64_i64 w4 q1 fun a5 n6 c7 i8 i9 i10 i11 => view_Good.call [(.agg ⟨[(.slice a5 n6 c7), (.int .i64 i8), (.int .i64 i9), (.int .i64 i10), (.int .i64 i11)]⟩)] w4 fun v12 w13 => ∃ b14 : Bool, v12 = (.bool b14) ∧ br (!b14) (stPT q3 0 [(.slice none 0 0), (.int .i64 0), (.int .i64 0), (.int .i64 0)] w13 fun w15 => rd_l_i64_i64_i64 w15 q3 fun a16 n17 c18 i19 i20 i21 => K (.agg ⟨[(.slice a16 n17 c18), (.int .i64 i19), (.int .i64 i20), (.int .i64 i21)]⟩) w15) (br (decide (A1 < 0)) (stPT q3 0 [(.slice none 0 0), (.int .i64 0), (.int .i64 0), (.int .i64 0)] w13 fun w22 => rd_l_i64_i64_i64 w22 q3 fun a23 n24 c25 i26 i27 i28 => K (.agg ⟨[(.slice a23 n24 c25), (.int .i64 i26), (.int .i64 i27), (.int .i64 i28)]⟩) w22) (rd_i64 w13 (q1.add 3) fun i29 => br (decide (A1 ≥ i29)) (stPT q3 0 [(.slice none 0 0), (.int .i64 0), (.int .i64 0), (.int .i64 0)] w13 fun w30 => rd_l_i64_i64_i64 w30 q3 fun a31 n32 c33 i34 i35 i36 => K (.agg ⟨[(.slice a31 n32 c33), (.int .i64 i34), (.int .i64 i35), (.int .i64 i36)]⟩) w30) (rd_l w13 q1 fun a37 n38 c39 => rd_i64 w13 (q1.add 1) fun i40 => rd_i64 w13 (q1.add 2) fun i41 => newB [(.slice none 0 0), (.int .i64 0), (.int .i64 0), (.int .i64 0)] 66 w13 fun q42 w43 => stPT q42 0 [(.slice a37 n38 c39), (.int .i64 i40), (.int .i64 i41), (.int .i64 1)] w43 fun w44 => rd_i64 w44 (q1.add 2) fun i45 => br (decide (i45 > 0)) (rd_i64 w44 (q42.add 1) fun i46 => rd_i64 w44 (q1.add 4) fun i47 => stPT (q42.add 1) 0 [(.int .i64 (IntKind.i64.wrap (i46 + (IntKind.i64.wrap (A1 * i47)))))] w44 fun w48 => rd_l_i64_i64_i64 w48 q42 fun a49 n50 c51 i52 i53 i54 => stPT q3 0 [(.slice a49 n50 c51), (.int .i64 i52), (.int .i64 i53), (.int .i64 i54)] w48 fun w55 => rd_l_i64_i64_i64 w55 q3 fun a56 n57 c58 i59 i60 i61 => K (.agg ⟨[(.slice a56 n57 c58), (.int .i64 i59), (.int .i64 i60), (.int .i64 i61)]⟩) w55) (rd_l_i64_i64_i64 w44 q42 fun a62 n63 c64 i65 i66 i67 => stPT q3 0 [(.slice a62 n63 c64), (.int .i64 i65), (.int .i64 i66), (.int .i64 i67)] w44 fun w68 => rd_l_i64_i64_i64 w68 q3 fun a69 n70 c71 i72 i73 i74 => K (.agg ⟨[(.slice a69 n70 c71), (.int .i64 i72), (.int .i64 i73), (.int .i64 i74)]⟩) w68))))
theorem view_Col.ok {A0_0p : Option Addr} {A0_0n A0_0c : Nat} {A0_1 : Int} {A0_2 : Int} {A0_3 : Int} {A0_4 : Int} {A1 : Int} {w : World} {K : Value → World → Prop} (h : view_Col.x A0_0p A0_0n A0_0c A0_1 A0_2 A0_3 A0_4 A1 w K) : view_Col.call [(.agg ⟨[(.slice A0_0p A0_0n A0_0c), (.int .i64 A0_1), (.int .i64 A0_2), (.int .i64 A0_3), (.int .i64 A0_4)]⟩), (.int .i64 A1)] w K :=
  callF_of_ex0 (f := Try.f59) Try.func59 rfl mixed (by kernel_rfl) (Eq.mp (by kernel_rfl) h)
/-! the same, the local variables taken out -/
def view_Col.s (A0_0p : Option Addr) (A0_0n A0_0c : Nat) (A0_1 : Int) (A0_2 : Int) (A0_3 : Int) (A0_4 : Int) (A1 : Int) (w : World) (K : Value → World → Prop) : Prop := ∀ (k3 : Nat) (w2 : World), k3 = w.heap.size → k3 < w2.heap.size → Ext w w2 → ∀ (k7 : Nat) (w6 : World), k7 = w2.heap.size → k7 < w6.heap.size → Ext w2 w6 → view_Good.call [(.agg ⟨[(.slice A0_0p A0_0n A0_0c), (.int .i64 A0_1), (.int .i64 A0_2), (.int .i64 A0_3), (.int .i64 A0_4)]⟩)] w6 fun v16 w17 => Stay [k7, k3] w6 w17 ∧ ∃ b18 : Bool, v16 = (.bool b18) ∧ br (!b18) (∀ w19 : World, Exc k7 w17 w19 → K (.agg ⟨[(.slice (none : Option Addr) (0 : Nat) (0 : Nat)), (.int .i64 (0 : Int)), (.int .i64 (0 : Int)), (.int .i64 (0 : Int))]⟩) w19) (br (decide (A1 < 0)) (∀ w26 : World, Exc k7 w17 w26 → K (.agg ⟨[(.slice (none : Option Addr) (0 : Nat) (0 : Nat)), (.int .i64 (0 : Int)), (.int .i64 (0 : Int)), (.int .i64 (0 : Int))]⟩) w26) (br (decide (A1 ≥ A0_3)) (∀ w34 : World, Exc k7 w17 w34 → K (.agg ⟨[(.slice (none : Option Addr) (0 : Nat) (0 : Nat)), (.int .i64 (0 : Int)), (.int .i64 (0 : Int)), (.int .i64 (0 : Int))]⟩) w34) (∀ (k48 : Nat) (w47 : World), k48 = w17.heap.size → k48 < w47.heap.size → Ext w17 w47 → ∀ w50 : World, Exc k48 w47 w50 → br (decide (A0_2 > 0)) (∀ w54 : World, Exc k48 w50 w54 → ∀ w61 : World, Exc k7 w54 w61 → K (.agg ⟨[(.slice A0_0p A0_0n A0_0c), (.int .i64 (IntKind.i64.wrap (A0_1 + (IntKind.i64.wrap (A1 * A0_4))))), (.int .i64 A0_2), (.int .i64 (1 : Int))]⟩) w61) (∀ w74 : World, Exc k7 w50 w74 → K (.agg ⟨[(.slice A0_0p A0_0n A0_0c), (.int .i64 A0_1), (.int .i64 A0_2), (.int .i64 (1 : Int))]⟩) w74))))
theorem view_Col.os {A0_0p : Option Addr} {A0_0n A0_0c : Nat} {A0_1 : Int} {A0_2 : Int} {A0_3 : Int} {A0_4 : Int} {A1 : Int} {w : World} {K : Value → World → Prop} (h : view_Col.s A0_0p A0_0n A0_0c A0_1 A0_2 A0_3 A0_4 A1 w K) : view_Col.call [(.agg ⟨[(.slice A0_0p A0_0n A0_0c), (.int .i64 A0_1), (.int .i64 A0_2), (.int .i64 A0_3), (.int .i64 A0_4)]⟩), (.int .i64 A1)] w K := by
  refine view_Col.ok ?_
  have st := St.nil w
  unfold view_Col.x
  unfold view_Col.s at h
  refine St.new (St.nil _) (fun q1 w2 hk hlt he st => ?_)
  replace h := h q1.block w2 hk hlt he
  refine St.new st (fun q5 w6 hk hlt he st => ?_)
  replace h := h q5.block w6 hk hlt he
  refine rd_l_i64_i64_i64_i64.bx 1 0 st rfl rfl rfl rfl rfl rfl rfl ?_
  refine CallF.mono h (fun v16 w17 h => ?_)
  obtain ⟨hK, h⟩ := h
  replace st := st.stay hK
  obtain ⟨b18, h⟩ := h
  refine ⟨b18, ?_⟩
  refine And.imp_right (fun h => ?_) h
  refine br_mono (fun h => ?_) (fun h => ?_) h
  · refine St.put 0 0 st rfl rfl rfl rfl (fun w19 he st => ?_)
    replace h := h w19 he
    refine rd_l_i64_i64_i64.bx 0 0 st rfl rfl rfl rfl rfl rfl ?_
    exact h
  · refine br_mono (fun h => ?_) (fun h => ?_) h
    · refine St.put 0 0 st rfl rfl rfl rfl (fun w26 he st => ?_)
      replace h := h w26 he
      refine rd_l_i64_i64_i64.bx 0 0 st rfl rfl rfl rfl rfl rfl ?_
      exact h
    · refine rd_i64.bx 1 3 st rfl rfl rfl ?_
      refine br_mono (fun h => ?_) (fun h => ?_) h
      · refine St.put 0 0 st rfl rfl rfl rfl (fun w34 he st => ?_)
        replace h := h w34 he
        refine rd_l_i64_i64_i64.bx 0 0 st rfl rfl rfl rfl rfl rfl ?_
        exact h
      · refine rd_l.bx 1 0 st rfl rfl rfl ?_
        refine rd_i64.bx 1 1 st rfl rfl rfl ?_
        refine rd_i64.bx 1 2 st rfl rfl rfl ?_
        refine St.new st (fun q46 w47 hk hlt he st => ?_)
        replace h := h q46.block w47 hk hlt he
        refine St.put 0 0 st rfl rfl rfl rfl (fun w50 he st => ?_)
        replace h := h w50 he
        refine rd_i64.bx 2 2 st rfl rfl rfl ?_
        refine br_mono (fun h => ?_) (fun h => ?_) h
        · refine rd_i64.bx 0 1 st rfl rfl rfl ?_
          refine rd_i64.bx 2 4 st rfl rfl rfl ?_
          refine St.put 0 1 st rfl rfl rfl rfl (fun w54 he st => ?_)
          replace h := h w54 he
          refine rd_l_i64_i64_i64.bx 0 0 st rfl rfl rfl rfl rfl rfl ?_
          refine St.put 1 0 st rfl rfl rfl rfl (fun w61 he st => ?_)
          replace h := h w61 he
          refine rd_l_i64_i64_i64.bx 1 0 st rfl rfl rfl rfl rfl rfl ?_
          exact h
        · refine rd_l_i64_i64_i64.bx 0 0 st rfl rfl rfl rfl rfl rfl ?_
          refine St.put 1 0 st rfl rfl rfl rfl (fun w74 he st => ?_)
          replace h := h w74 he
          refine rd_l_i64_i64_i64.bx 1 0 st rfl rfl rfl rfl rfl rfl ?_
          exact h

/-! ### straightedge/view.place: function 62 -/
def view_place.x (A0_0p : Option Addr) (A0_0n A0_0c : Nat) (A0_1 : Int) (A0_2 : Int) (A0_3 : Int) (A0_4 : Int) (A1 : Int) (A2 : Int) (w : World) (K : Value → World → Prop) : Prop := newB [(.slice A0_0p A0_0n A0_0c), (.int .i64 A0_1), (.int .i64 A0_2), (.int .i64 A0_3), (.int .i64 A0_4)] 24 w fun q1 w2 => rd_l_i64_i64_i64_i64 w2 q1 fun a3 n4 c5 i6 i7 i8 i9 => view_Good.call [(.agg ⟨[(.slice a3 n4 c5), (.int .i64 i6), (.int .i64 i7), (.int .i64 i8), (.int .i64 i9)]⟩)] w2 fun v10 w11 => ∃ b12 : Bool, v10 = (.bool b12) ∧ br (!b12) (K (.int .i64 (-1)) w11) (br (decide (A1 < 0)) (K (.int .i64 (-1)) w11) (br (decide (A2 < 0)) (K (.int .i64 (-1)) w11) (rd_i64 w11 (q1.add 2) fun i13 => br (decide (A1 ≥ i13)) (K (.int .i64 (-1)) w11) (rd_i64 w11 (q1.add 3) fun i14 => br (decide (A2 ≥ i14)) (K (.int .i64 (-1)) w11) (rd_i64 w11 (q1.add 1) fun i15 => rd_i64 w11 (q1.add 4) fun i16 => K (.int .i64 (IntKind.i64.wrap ((IntKind.i64.wrap (i15 + A1)) + (IntKind.i64.wrap (A2 * i16))))) w11)))))
theorem view_place.ok {A0_0p : Option Addr} {A0_0n A0_0c : Nat} {A0_1 : Int} {A0_2 : Int} {A0_3 : Int} {A0_4 : Int} {A1 : Int} {A2 : Int} {w : World} {K : Value → World → Prop} (h : view_place.x A0_0p A0_0n A0_0c A0_1 A0_2 A0_3 A0_4 A1 A2 w K) : view_place.call [(.agg ⟨[(.slice A0_0p A0_0n A0_0c), (.int .i64 A0_1), (.int .i64 A0_2), (.int .i64 A0_3), (.int .i64 A0_4)]⟩), (.int .i64 A1), (.int .i64 A2)] w K :=
  callF_of_ex0 (f := Try.f62) Try.func62 rfl mixed (by kernel_rfl) (Eq.mp (by kernel_rfl) h)
/-! the same, the local variables taken out -/
def view_place.s (A0_0p : Option Addr) (A0_0n A0_0c : Nat) (A0_1 : Int) (A0_2 : Int) (A0_3 : Int) (A0_4 : Int) (A1 : Int) (A2 : Int) (w : World) (K : Value → World → Prop) : Prop := ∀ (k3 : Nat) (w2 : World), k3 = w.heap.size → k3 < w2.heap.size → Ext w w2 → view_Good.call [(.agg ⟨[(.slice A0_0p A0_0n A0_0c), (.int .i64 A0_1), (.int .i64 A0_2), (.int .i64 A0_3), (.int .i64 A0_4)]⟩)] w2 fun v12 w13 => Stay [k3] w2 w13 ∧ ∃ b14 : Bool, v12 = (.bool b14) ∧ br (!b14) (K (.int .i64 (-1)) w13) (br (decide (A1 < 0)) (K (.int .i64 (-1)) w13) (br (decide (A2 < 0)) (K (.int .i64 (-1)) w13) (br (decide (A1 ≥ A0_2)) (K (.int .i64 (-1)) w13) (br (decide (A2 ≥ A0_3)) (K (.int .i64 (-1)) w13) (K (.int .i64 (IntKind.i64.wrap ((IntKind.i64.wrap (A0_1 + A1)) + (IntKind.i64.wrap (A2 * A0_4))))) w13)))))
theorem view_place.os {A0_0p : Option Addr} {A0_0n A0_0c : Nat} {A0_1 : Int} {A0_2 : Int} {A0_3 : Int} {A0_4 : Int} {A1 : Int} {A2 : Int} {w : World} {K : Value → World → Prop} (h : view_place.s A0_0p A0_0n A0_0c A0_1 A0_2 A0_3 A0_4 A1 A2 w K) : view_place.call [(.agg ⟨[(.slice A0_0p A0_0n A0_0c), (.int .i64 A0_1), (.int .i64 A0_2), (.int .i64 A0_3), (.int .i64 A0_4)]⟩), (.int .i64 A1), (.int .i64 A2)] w K := by
  refine view_place.ok ?_
  have st := St.nil w
  unfold view_place.x
  unfold view_place.s at h
  refine St.new (St.nil _) (fun q1 w2 hk hlt he st => ?_)
  replace h := h q1.block w2 hk hlt he
  refine rd_l_i64_i64_i64_i64.bx 0 0 st rfl rfl rfl rfl rfl rfl rfl ?_
  refine CallF.mono h (fun v12 w13 h => ?_)
  obtain ⟨hK, h⟩ := h
  replace st := st.stay hK
  obtain ⟨b14, h⟩ := h
  refine ⟨b14, ?_⟩
  refine And.imp_right (fun h => ?_) h
  refine br_mono (fun h => ?_) (fun h => ?_) h
  · exact h
  · refine br_mono (fun h => ?_) (fun h => ?_) h
    · exact h
    · refine br_mono (fun h => ?_) (fun h => ?_) h
      · exact h
      · refine rd_i64.bx 0 2 st rfl rfl rfl ?_
        refine br_mono (fun h => ?_) (fun h => ?_) h
        · exact h
        · refine rd_i64.bx 0 3 st rfl rfl rfl ?_
          refine br_mono (fun h => ?_) (fun h => ?_) h
          · exact h
          · refine rd_i64.bx 0 1 st rfl rfl rfl ?_
            refine rd_i64.bx 0 4 st rfl rfl rfl ?_
            exact h

/-! ### straightedge/view.Right: function 63 -/
def view_Right.x (A0_0p : Option Addr) (A0_0n A0_0c : Nat) (A0_1 : Int) (A0_2 : Int) (A0_3 : Int) (w : World) (K : Value → World → Prop) : Prop := newB [(.slice A0_0p A0_0n A0_0c), (.int .i64 A0_1), (.int .i64 A0_2), (.int .i64 A0_3)] 66 w fun q1 w2 => rd_i64 w2 (q1.add 2) fun i3 => br (decide (i3 < 0)) (K (.bool false) w2) (rd_i64 w2 (q1.add 3) fun i4 => br (decide (i4 < 1)) (K (.bool false) w2) (rd_i64 w2 (q1.add 1) fun i5 => br (decide (i5 < 0)) (K (.bool false) w2) (rd_i64 w2 (q1.add 2) fun i6 => br (i6 == 0) (K (.bool true) w2) (rd_l w2 q1 fun a7 n8 c9 => rd_i64 w2 (q1.add 1) fun i10 => rd_i64 w2 (q1.add 2) fun i11 => rd_i64 w2 (q1.add 3) fun i12 => view_fits.call [(.int .i64 ((n8 : Nat) : Int)), (.int .i64 i10), (.int .i64 (IntKind.i64.wrap (i11 - 1))), (.int .i64 i12), (.int .i64 0)] w2 fun v13 w14 => ∃ b15 : Bool, v13 = (.bool b15) ∧ K (.bool b15) w14))))
theorem view_Right.ok {A0_0p : Option Addr} {A0_0n A0_0c : Nat} {A0_1 : Int} {A0_2 : Int} {A0_3 : Int} {w : World} {K : Value → World → Prop} (h : view_Right.x A0_0p A0_0n A0_0c A0_1 A0_2 A0_3 w K) : view_Right.call [(.agg ⟨[(.slice A0_0p A0_0n A0_0c), (.int .i64 A0_1), (.int .i64 A0_2), (.int .i64 A0_3)]⟩)] w K :=
  callF_of_ex0 (f := Try.f63) Try.func63 rfl mixed (by kernel_rfl) (Eq.mp (by kernel_rfl) h)
/-! the same, the local variables taken out -/
def view_Right.s (A0_0p : Option Addr) (A0_0n A0_0c : Nat) (A0_1 : Int) (A0_2 : Int) (A0_3 : Int) (w : World) (K : Value → World → Prop) : Prop := ∀ (k3 : Nat) (w2 : World), k3 = w.heap.size → k3 < w2.heap.size → Ext w w2 → br (decide (A0_2 < 0)) (K (.bool false) w2) (br (decide (A0_3 < 1)) (K (.bool false) w2) (br (decide (A0_1 < 0)) (K (.bool false) w2) (br (A0_2 == 0) (K (.bool true) w2) (view_fits.call [(.int .i64 ((A0_0n : Nat) : Int)), (.int .i64 A0_1), (.int .i64 (IntKind.i64.wrap (A0_2 - 1))), (.int .i64 A0_3), (.int .i64 0)] w2 fun v15 w16 => Stay [k3] w2 w16 ∧ ∃ b17 : Bool, v15 = (.bool b17) ∧ K (.bool b17) w16))))
theorem view_Right.os {A0_0p : Option Addr} {A0_0n A0_0c : Nat} {A0_1 : Int} {A0_2 : Int} {A0_3 : Int} {w : World} {K : Value → World → Prop} (h : view_Right.s A0_0p A0_0n A0_0c A0_1 A0_2 A0_3 w K) : view_Right.call [(.agg ⟨[(.slice A0_0p A0_0n A0_0c), (.int .i64 A0_1), (.int .i64 A0_2), (.int .i64 A0_3)]⟩)] w K := by
  refine view_Right.ok ?_
  have st := St.nil w
  unfold view_Right.x
  unfold view_Right.s at h
  refine St.new (St.nil _) (fun q1 w2 hk hlt he st => ?_)
  replace h := h q1.block w2 hk hlt he
  refine rd_i64.bx 0 2 st rfl rfl rfl ?_
  refine br_mono (fun h => ?_) (fun h => ?_) h
  · exact h
  · refine rd_i64.bx 0 3 st rfl rfl rfl ?_
    refine br_mono (fun h => ?_) (fun h => ?_) h
    · exact h
    · refine rd_i64.bx 0 1 st rfl rfl rfl ?_
      refine br_mono (fun h => ?_) (fun h => ?_) h
      · exact h
      · refine rd_i64.bx 0 2 st rfl rfl rfl ?_
        refine br_mono (fun h => ?_) (fun h => ?_) h
        · exact h
        · refine rd_l.bx 0 0 st rfl rfl rfl ?_
          refine rd_i64.bx 0 1 st rfl rfl rfl ?_
          refine rd_i64.bx 0 2 st rfl rfl rfl ?_
          refine rd_i64.bx 0 3 st rfl rfl rfl ?_
          refine CallF.mono h (fun v15 w16 h => ?_)
          obtain ⟨hK, h⟩ := h
          replace st := st.stay hK
          exact h

/-! ### straightedge/view.Meet: function 64 -/
def view_Meet.x (A0_0p : Option Addr) (A0_0n A0_0c : Nat) (A0_1 : Int) (A0_2 : Int) (A0_3 : Int) (A0_4 : Int) (A1_0p : Option Addr) (A1_0n A1_0c : Nat) (A1_1 : Int) (A1_2 : Int) (A1_3 : Int) (A1_4 : Int) (w : World) (K : Value → World → Prop) : Prop := newB [(.slice A0_0p A0_0n A0_0c), (.int .i64 A0_1), (.int .i64 A0_2), (.int .i64 A0_3), (.int .i64 A0_4)] 24 w fun q1 w2 => newB [(.slice A1_0p A1_0n A1_0c), (.int .i64 A1_1), (.int .i64 A1_2), (.int .i64 A1_3), (.int .i64 A1_4)] 24 w2 fun q3 w4 => rd_l_i64_i64_i64_i64 w4 q1 fun a5 n6 c7 i8 i9 i10 i11 => view_span.call [(.agg ⟨[(.slice a5 n6 c7), (.int .i64 i8), (.int .i64 i9), (.int .i64 i10), (.int .i64 i11)]⟩)] w4 fun v12 w13 => ∃ i14 : Int, ∃ i15 : Int, ∃ b16 : Bool, v12 = (.tuple ⟨[(.int .i64 i14), (.int .i64 i15), (.bool b16)]⟩) ∧ rd_l_i64_i64_i64_i64 w13 q3 fun a17 n18 c19 i20 i21 i22 i23 => view_span.call [(.agg ⟨[(.slice a17 n18 c19), (.int .i64 i20), (.int .i64 i21), (.int .i64 i22), (.int .i64 i23)]⟩)] w13 fun v24 w25 => ∃ i26 : Int, ∃ i27 : Int, ∃ b28 : Bool, v24 = (.tuple ⟨[(.int .i64 i26), (.int .i64 i27), (.bool b28)]⟩) ∧ br b16 (br b28 (rd_l w25.drew q1 fun a30 n31 c32 => ptrSome a30 fun q33 => (0 : Int) ≤ 0 ∧ 0 < ((n31 : Nat) : Int) ∧ rd_l w25.drew q3 fun a34 n35 c36 => ptrSome a34 fun q37 => (0 : Int) ≤ 0 ∧ 0 < ((n35 : Nat) : Int) ∧ Raw prog (do eqGuard .eql 101 (.tmp 30) (.tmp 33) (.pointer (some (q33.add (Int.toNat 0)))) (.pointer (some (q37.add (Int.toNat 0)))); binOp .eql 101 (.pointer (some (q33.add (Int.toNat 0)))) (.pointer (some (q37.add (Int.toNat 0))))) w25.drew fun v38 w39 => ∃ b40, v38 = .bool b40 ∧ br b40 (br (decide (i14 ≤ i27)) (K (.bool (decide (i26 ≤ i15))) w39) (K (.bool false) w39)) (K (.bool false) w39)) (K (.bool false) w25.drew)) (K (.bool false) w25.drew)
theorem view_Meet.ok {A0_0p : Option Addr} {A0_0n A0_0c : Nat} {A0_1 : Int} {A0_2 : Int} {A0_3 : Int} {A0_4 : Int} {A1_0p : Option Addr} {A1_0n A1_0c : Nat} {A1_1 : Int} {A1_2 : Int} {A1_3 : Int} {A1_4 : Int} {w : World} {K : Value → World → Prop} (h : view_Meet.x A0_0p A0_0n A0_0c A0_1 A0_2 A0_3 A0_4 A1_0p A1_0n A1_0c A1_1 A1_2 A1_3 A1_4 w K) : view_Meet.call [(.agg ⟨[(.slice A0_0p A0_0n A0_0c), (.int .i64 A0_1), (.int .i64 A0_2), (.int .i64 A0_3), (.int .i64 A0_4)]⟩), (.agg ⟨[(.slice A1_0p A1_0n A1_0c), (.int .i64 A1_1), (.int .i64 A1_2), (.int .i64 A1_3), (.int .i64 A1_4)]⟩)] w K :=
  callF_of_ex0 (f := Try.f64) Try.func64 rfl mixed (by kernel_rfl) (Eq.mp (by kernel_rfl) h)
/-! the same, the local variables taken out -/
def view_Meet.s (A0_0p : Option Addr) (A0_0n A0_0c : Nat) (A0_1 : Int) (A0_2 : Int) (A0_3 : Int) (A0_4 : Int) (A1_0p : Option Addr) (A1_0n A1_0c : Nat) (A1_1 : Int) (A1_2 : Int) (A1_3 : Int) (A1_4 : Int) (w : World) (K : Value → World → Prop) : Prop := ∀ (k3 : Nat) (w2 : World), k3 = w.heap.size → k3 < w2.heap.size → Ext w w2 → ∀ (k7 : Nat) (w6 : World), k7 = w2.heap.size → k7 < w6.heap.size → Ext w2 w6 → view_span.call [(.agg ⟨[(.slice A0_0p A0_0n A0_0c), (.int .i64 A0_1), (.int .i64 A0_2), (.int .i64 A0_3), (.int .i64 A0_4)]⟩)] w6 fun v16 w17 => Stay [k7, k3] w6 w17 ∧ ∃ i18 : Int, ∃ i19 : Int, ∃ b20 : Bool, v16 = (.tuple ⟨[(.int .i64 i18), (.int .i64 i19), (.bool b20)]⟩) ∧ view_span.call [(.agg ⟨[(.slice A1_0p A1_0n A1_0c), (.int .i64 A1_1), (.int .i64 A1_2), (.int .i64 A1_3), (.int .i64 A1_4)]⟩)] w17 fun v28 w29 => Stay [k7, k3] w17 w29 ∧ ∃ i30 : Int, ∃ i31 : Int, ∃ b32 : Bool, v28 = (.tuple ⟨[(.int .i64 i30), (.int .i64 i31), (.bool b32)]⟩) ∧ br b20 (br b32 (ptrSome A0_0p fun q37 => (0 : Int) ≤ 0 ∧ 0 < ((A0_0n : Nat) : Int) ∧ ptrSome A1_0p fun q41 => (0 : Int) ≤ 0 ∧ 0 < ((A1_0n : Nat) : Int) ∧ Raw prog (do eqGuard .eql 101 (.tmp 30) (.tmp 33) (.pointer (some (q37.add (Int.toNat 0)))) (.pointer (some (q41.add (Int.toNat 0)))); binOp .eql 101 (.pointer (some (q37.add (Int.toNat 0)))) (.pointer (some (q41.add (Int.toNat 0))))) w29.drew fun v42 w43 => Stay [k7, k3] w29.drew w43 ∧ ∃ b44, v42 = .bool b44 ∧ br b44 (br (decide (i18 ≤ i31)) (K (.bool (decide (i30 ≤ i19))) w43) (K (.bool false) w43)) (K (.bool false) w43)) (K (.bool false) w29.drew)) (K (.bool false) w29.drew)
theorem view_Meet.os {A0_0p : Option Addr} {A0_0n A0_0c : Nat} {A0_1 : Int} {A0_2 : Int} {A0_3 : Int} {A0_4 : Int} {A1_0p : Option Addr} {A1_0n A1_0c : Nat} {A1_1 : Int} {A1_2 : Int} {A1_3 : Int} {A1_4 : Int} {w : World} {K : Value → World → Prop} (h : view_Meet.s A0_0p A0_0n A0_0c A0_1 A0_2 A0_3 A0_4 A1_0p A1_0n A1_0c A1_1 A1_2 A1_3 A1_4 w K) : view_Meet.call [(.agg ⟨[(.slice A0_0p A0_0n A0_0c), (.int .i64 A0_1), (.int .i64 A0_2), (.int .i64 A0_3), (.int .i64 A0_4)]⟩), (.agg ⟨[(.slice A1_0p A1_0n A1_0c), (.int .i64 A1_1), (.int .i64 A1_2), (.int .i64 A1_3), (.int .i64 A1_4)]⟩)] w K := by
  refine view_Meet.ok ?_
  have st := St.nil w
  unfold view_Meet.x
  unfold view_Meet.s at h
  refine St.new (St.nil _) (fun q1 w2 hk hlt he st => ?_)
  replace h := h q1.block w2 hk hlt he
  refine St.new st (fun q5 w6 hk hlt he st => ?_)
  replace h := h q5.block w6 hk hlt he
  refine rd_l_i64_i64_i64_i64.bx 1 0 st rfl rfl rfl rfl rfl rfl rfl ?_
  refine CallF.mono h (fun v16 w17 h => ?_)
  obtain ⟨hK, h⟩ := h
  replace st := st.stay hK
  obtain ⟨i18, i19, b20, h⟩ := h
  refine ⟨i18, i19, b20, ?_⟩
  refine And.imp_right (fun h => ?_) h
  refine rd_l_i64_i64_i64_i64.bx 0 0 st rfl rfl rfl rfl rfl rfl rfl ?_
  refine CallF.mono h (fun v28 w29 h => ?_)
  obtain ⟨hK, h⟩ := h
  replace st := st.stay hK
  obtain ⟨i30, i31, b32, h⟩ := h
  refine ⟨i30, i31, b32, ?_⟩
  refine And.imp_right (fun h => ?_) h
  replace st := st.drew
  have st33 := st
  refine br_mono (fun h => ?_) (fun h => ?_) h
  · refine br_mono (fun h => ?_) (fun h => ?_) h
    · refine rd_l.bx 1 0 st33 rfl rfl rfl ?_
      refine ptrSome_mono (fun q37 h => ?_) h
      refine And.imp_right (fun h => ?_) h
      refine And.imp_right (fun h => ?_) h
      refine rd_l.bx 0 0 st33 rfl rfl rfl ?_
      refine ptrSome_mono (fun q41 h => ?_) h
      refine And.imp_right (fun h => ?_) h
      refine And.imp_right (fun h => ?_) h
      refine Raw.mono h (fun v42 w43 h => ?_)
      obtain ⟨hK, h⟩ := h
      replace st := st.stay hK
      exact h
    · exact h
  · exact h

/-! ### straightedge/view.fits: function 73 -/
def view_fits.x (A0 : Int) (A1 : Int) (A2 : Int) (A3 : Int) (A4 : Int) (w : World) (K : Value → World → Prop) : Prop := br (decide (A1 < 0)) (K (.bool false) w) (br (decide (A1 ≥ A0)) (K (.bool false) w) (br (decide (A4 ≥ (IntKind.i64.wrap (A0 - A1)))) (K (.bool false) w) (br (A3 == 0) (False) (K (.bool (decide (A2 ≤ (IntKind.i64.wrap (Int.tdiv (IntKind.i64.wrap ((IntKind.i64.wrap ((IntKind.i64.wrap (A0 - 1)) - A1)) - A4)) A3))))) w))))
theorem view_fits.ok {A0 : Int} {A1 : Int} {A2 : Int} {A3 : Int} {A4 : Int} {w : World} {K : Value → World → Prop} (h : view_fits.x A0 A1 A2 A3 A4 w K) : view_fits.call [(.int .i64 A0), (.int .i64 A1), (.int .i64 A2), (.int .i64 A3), (.int .i64 A4)] w K :=
  callF_of_ex0 (f := Try.f73) Try.func73 rfl mixed (by kernel_rfl) (Eq.mp (by kernel_rfl) h)

/-! ### straightedge/view.Numbers: function 74 -/
def view_Numbers.b6 (K : Value → World → Prop) (h6 : Option Addr → Option Addr → Nat → Nat → Int → Int → World → Prop) (h10 : Option Addr → Option Addr → Nat → Nat → Option Addr → Int → Int → Int → Int → World → Prop) (z1 : Option Addr) (z6p : Option Addr) (z6n z6c : Nat) (z19 : Int) (z20 : Int) (w : World) : Prop := br (decide (z20 < z19)) (ptrSome z1 fun q1 => rd_l_i64_i64_i64_i64 w q1 fun a2 n3 c4 i5 i6 i7 i8 => view_Col.call [(.agg ⟨[(.slice a2 n3 c4), (.int .i64 i5), (.int .i64 i6), (.int .i64 i7), (.int .i64 i8)]⟩), (.int .i64 z20)] w fun v9 w10 => ∃ (a11 : Option Addr) (n12 c13 : Nat), ∃ i14 : Int, ∃ i15 : Int, ∃ i16 : Int, v9 = (.agg ⟨[(.slice a11 n12 c13), (.int .i64 i14), (.int .i64 i15), (.int .i64 i16)]⟩) ∧ newB [(.slice none 0 0), (.int .i64 0), (.int .i64 0), (.int .i64 0)] 66 w10 fun q17 w18 => stPT q17 0 [(.slice a11 n12 c13), (.int .i64 i14), (.int .i64 i15), (.int .i64 i16)] w18 fun w19 => rd_i64 w19 (q17.add 2) fun i20 => h10 z1 z6p z6n z6c (some q17) z19 z20 i20 0 w19) (K (.slice z6p z6n z6c) w)
def view_Numbers.b10 (K : Value → World → Prop) (h6 : Option Addr → Option Addr → Nat → Nat → Int → Int → World → Prop) (h10 : Option Addr → Option Addr → Nat → Nat → Option Addr → Int → Int → Int → Int → World → Prop) (z1 : Option Addr) (z6p : Option Addr) (z6n z6c : Nat) (z8 : Option Addr) (z19 : Int) (z20 : Int) (z27 : Int) (z28 : Int) (w : World) : Prop := br (decide (z28 < z27)) (ptrSome z8 fun q1 => rd_l w q1 fun a2 n3 c4 => ptrSome z8 fun q5 => rd_i64 w (q5.add 1) fun i6 => ptrSome a2 fun q7 => (0 : Int) ≤ (IntKind.i64.wrap (i6 + z28)) ∧ (IntKind.i64.wrap (i6 + z28)) < ((n3 : Nat) : Int) ∧ rd_f64 w (q7.add (Int.toNat (IntKind.i64.wrap (i6 + z28)))) fun x8 => newB [(.float .f64 x8)] 38 w fun q9 w10 => Raw prog (Builtin.append_ #[22, 22] 22 ⟨[(.slice z6p z6n z6c), (.slice (some q9) 1 1)]⟩) w10 fun v11 w12 => ∃ (a13 : Option Addr) (n14 c15 : Nat), v11 = .slice a13 n14 c15 ∧ h10 z1 a13 n14 c15 z8 z19 z20 z27 (IntKind.i64.wrap (z28 + 1)) w12) (h6 z1 z6p z6n z6c z19 (IntKind.i64.wrap (z20 + 1)) w)
def view_Numbers.H (K : Value → World → Prop) : Nat → (Option Addr → Option Addr → Nat → Nat → Int → Int → World → Prop) × (Option Addr → Option Addr → Nat → Nat → Option Addr → Int → Int → Int → Int → World → Prop)
  | 0 => (fun _ _ _ _ _ _ _ => False, fun _ _ _ _ _ _ _ _ _ _ => False)
  | fu + 1 => (view_Numbers.b6 K (view_Numbers.H K fu).1 (view_Numbers.H K fu).2, view_Numbers.b10 K (view_Numbers.H K fu).1 (view_Numbers.H K fu).2)
def view_Numbers.x (fu : Nat) (A0_0p : Option Addr) (A0_0n A0_0c : Nat) (A0_1 : Int) (A0_2 : Int) (A0_3 : Int) (A0_4 : Int) (w : World) (K : Value → World → Prop) : Prop := newB [(.slice A0_0p A0_0n A0_0c), (.int .i64 A0_1), (.int .i64 A0_2), (.int .i64 A0_3), (.int .i64 A0_4)] 24 w fun q1 w2 => rd_l_i64_i64_i64_i64 w2 q1 fun a3 n4 c5 i6 i7 i8 i9 => view_span.call [(.agg ⟨[(.slice a3 n4 c5), (.int .i64 i6), (.int .i64 i7), (.int .i64 i8), (.int .i64 i9)]⟩)] w2 fun v10 w11 => ∃ i12 : Int, ∃ i13 : Int, ∃ b14 : Bool, v10 = (.tuple ⟨[(.int .i64 i12), (.int .i64 i13), (.bool b14)]⟩) ∧ br (!b14) (K (.slice none 0 0) w11) (rd_i64 w11 (q1.add 3) fun i15 => (view_Numbers.H K fu).1 (some q1) none 0 0 i15 0 w11)
def view_Numbers.hd (K : Value → World → Prop) (n id : Nat) (t : List Value) (w : World) : Prop :=
  match id with
  | 6 => asP (t.getD 1 undef) fun z1 => asL (t.getD 6 undef) fun z6p z6n z6c => asI .i64 (t.getD 19 undef) fun z19 => asI .i64 (t.getD 20 undef) fun z20 => (view_Numbers.H K n).1 z1 z6p z6n z6c z19 z20 w
  | 10 => asP (t.getD 1 undef) fun z1 => asL (t.getD 6 undef) fun z6p z6n z6c => asP (t.getD 8 undef) fun z8 => asI .i64 (t.getD 19 undef) fun z19 => asI .i64 (t.getD 20 undef) fun z20 => asI .i64 (t.getD 27 undef) fun z27 => asI .i64 (t.getD 28 undef) fun z28 => (view_Numbers.H K n).2 z1 z6p z6n z6c z8 z19 z20 z27 z28 w
  | _ => False
theorem view_Numbers.t6 (K : Value → World → Prop) (n : Nat) (z1 : Option Addr) (z6p : Option Addr) (z6n z6c : Nat) (z19 : Int) (z20 : Int) (u : Nat → Value) (w : World) (h : (view_Numbers.H K (n + 1)).1 z1 z6p z6n z6c z19 z20 w) :
    exT prog [6, 10] (view_Numbers.hd K n) Try.f74 6 45 [(1, (.pointer z1)), (6, (.slice z6p z6n z6c)), (19, (.int .i64 z19)), (20, (.int .i64 z20))] u w K := Eq.mp (by kernel_rfl) h
theorem view_Numbers.t10 (K : Value → World → Prop) (n : Nat) (z1 : Option Addr) (z6p : Option Addr) (z6n z6c : Nat) (z8 : Option Addr) (z19 : Int) (z20 : Int) (z27 : Int) (z28 : Int) (u : Nat → Value) (w : World) (h : (view_Numbers.H K (n + 1)).2 z1 z6p z6n z6c z8 z19 z20 z27 z28 w) :
    exT prog [6, 10] (view_Numbers.hd K n) Try.f74 10 45 [(1, (.pointer z1)), (6, (.slice z6p z6n z6c)), (8, (.pointer z8)), (19, (.int .i64 z19)), (20, (.int .i64 z20)), (27, (.int .i64 z27)), (28, (.int .i64 z28))] u w K := Eq.mp (by kernel_rfl) h
theorem view_Numbers.ok (fu : Nat) {A0_0p : Option Addr} {A0_0n A0_0c : Nat} {A0_1 : Int} {A0_2 : Int} {A0_3 : Int} {A0_4 : Int} {w : World} {K : Value → World → Prop} (h : view_Numbers.x fu A0_0p A0_0n A0_0c A0_1 A0_2 A0_3 A0_4 w K) : view_Numbers.call [(.agg ⟨[(.slice A0_0p A0_0n A0_0c), (.int .i64 A0_1), (.int .i64 A0_2), (.int .i64 A0_3), (.int .i64 A0_4)]⟩)] w K := by
  refine callF_of_ex (cuts := [6, 10]) (H := view_Numbers.hd K) (N := 45) Try.func74 rfl mixed (by kernel_rfl) ?_ ?_ ?_ rfl (n := fu) (Eq.mp (by kernel_rfl) h)
  · intro id hid; simp only [List.mem_cons, List.not_mem_nil, or_false] at hid; rcases hid with rfl | rfl
    · exact (by kernel_rfl : (stacks (bodyOf Try.f74) []).filter (headIs 6) = [at_ (bodyOf Try.f74) 6])
    · exact (by kernel_rfl : (stacks (bodyOf Try.f74) []).filter (headIs 10) = [at_ (bodyOf Try.f74) 10])
  · intro id t w h
    unfold view_Numbers.hd at h
    split at h
    · obtain ⟨z1, _, h⟩ := asP_elim h
      obtain ⟨z6p, z6n, z6c, _, h⟩ := asL_elim h
      obtain ⟨z19, _, h⟩ := asI_elim h
      obtain ⟨z20, _, h⟩ := asI_elim h
      exact h
    · obtain ⟨z1, _, h⟩ := asP_elim h
      obtain ⟨z6p, z6n, z6c, _, h⟩ := asL_elim h
      obtain ⟨z8, _, h⟩ := asP_elim h
      obtain ⟨z19, _, h⟩ := asI_elim h
      obtain ⟨z20, _, h⟩ := asI_elim h
      obtain ⟨z27, _, h⟩ := asI_elim h
      obtain ⟨z28, _, h⟩ := asI_elim h
      exact h
    · exact h
  · intro n id hid t w hl h; simp only [List.mem_cons, List.not_mem_nil, or_false] at hid; rcases hid with rfl | rfl
    · replace h : asP (t.getD 1 undef) fun z1 => asL (t.getD 6 undef) fun z6p z6n z6c => asI .i64 (t.getD 19 undef) fun z19 => asI .i64 (t.getD 20 undef) fun z20 => (view_Numbers.H K (n + 1)).1 z1 z6p z6n z6c z19 z20 w := h
      obtain ⟨z1, e1, h⟩ := asP_elim h
      obtain ⟨z6p, z6n, z6c, e6, h⟩ := asL_elim h
      obtain ⟨z19, e19, h⟩ := asI_elim h
      obtain ⟨z20, e20, h⟩ := asI_elim h
      rw [mk_of hl [(1, (.pointer z1)), (6, (.slice z6p z6n z6c)), (19, (.int .i64 z19)), (20, (.int .i64 z20))] (by simp only [List.forall_mem_cons, List.not_mem_nil, false_implies, implies_true, and_true]; exact ⟨e1, e6, e19, e20⟩)]
      exact view_Numbers.t6 K n z1 z6p z6n z6c z19 z20 _ w h
    · replace h : asP (t.getD 1 undef) fun z1 => asL (t.getD 6 undef) fun z6p z6n z6c => asP (t.getD 8 undef) fun z8 => asI .i64 (t.getD 19 undef) fun z19 => asI .i64 (t.getD 20 undef) fun z20 => asI .i64 (t.getD 27 undef) fun z27 => asI .i64 (t.getD 28 undef) fun z28 => (view_Numbers.H K (n + 1)).2 z1 z6p z6n z6c z8 z19 z20 z27 z28 w := h
      obtain ⟨z1, e1, h⟩ := asP_elim h
      obtain ⟨z6p, z6n, z6c, e6, h⟩ := asL_elim h
      obtain ⟨z8, e8, h⟩ := asP_elim h
      obtain ⟨z19, e19, h⟩ := asI_elim h
      obtain ⟨z20, e20, h⟩ := asI_elim h
      obtain ⟨z27, e27, h⟩ := asI_elim h
      obtain ⟨z28, e28, h⟩ := asI_elim h
      rw [mk_of hl [(1, (.pointer z1)), (6, (.slice z6p z6n z6c)), (8, (.pointer z8)), (19, (.int .i64 z19)), (20, (.int .i64 z20)), (27, (.int .i64 z27)), (28, (.int .i64 z28))] (by simp only [List.forall_mem_cons, List.not_mem_nil, false_implies, implies_true, and_true]; exact ⟨e1, e6, e8, e19, e20, e27, e28⟩)]
      exact view_Numbers.t10 K n z1 z6p z6n z6c z8 z19 z20 z27 z28 _ w h
/-! the same, the local variables taken out -/
def view_Numbers.e6 (K : Value → World → Prop) (h6 : Nat → Option Addr → Nat → Nat → Int → Int → Int → Int → Option Addr → Nat → Nat → Int → Int → World → Prop) (h10 : Nat → Option Addr → Nat → Nat → Int → Int → Int → Int → Option Addr → Nat → Nat → Nat → Option Addr → Nat → Nat → Int → Int → Int → Int → Int → Int → Int → World → Prop) (k1 : Nat) (y1_0p : Option Addr) (y1_0n y1_0c : Nat) (y1_1 : Int) (y1_2 : Int) (y1_3 : Int) (y1_4 : Int) (z6p : Option Addr) (z6n z6c : Nat) (z19 : Int) (z20 : Int) (w : World) : Prop := br (decide (z20 < z19)) (view_Col.call [(.agg ⟨[(.slice y1_0p y1_0n y1_0c), (.int .i64 y1_1), (.int .i64 y1_2), (.int .i64 y1_3), (.int .i64 y1_4)]⟩), (.int .i64 z20)] w fun v9 w10 => Stay [k1] w w10 ∧ ∃ (a11 : Option Addr) (n12 c13 : Nat), ∃ i14 : Int, ∃ i15 : Int, ∃ i16 : Int, v9 = (.agg ⟨[(.slice a11 n12 c13), (.int .i64 i14), (.int .i64 i15), (.int .i64 i16)]⟩) ∧ ∀ (k19 : Nat) (w18 : World), k19 = w10.heap.size → k19 < w18.heap.size → Ext w10 w18 → ∀ w21 : World, Exc k19 w18 w21 → h10 k1 y1_0p y1_0n y1_0c y1_1 y1_2 y1_3 y1_4 z6p z6n z6c k19 a11 n12 c13 i14 i15 i16 z19 z20 i15 0 w21) (K (.slice z6p z6n z6c) w)
def view_Numbers.e10 (K : Value → World → Prop) (h6 : Nat → Option Addr → Nat → Nat → Int → Int → Int → Int → Option Addr → Nat → Nat → Int → Int → World → Prop) (h10 : Nat → Option Addr → Nat → Nat → Int → Int → Int → Int → Option Addr → Nat → Nat → Nat → Option Addr → Nat → Nat → Int → Int → Int → Int → Int → Int → Int → World → Prop) (k1 : Nat) (y1_0p : Option Addr) (y1_0n y1_0c : Nat) (y1_1 : Int) (y1_2 : Int) (y1_3 : Int) (y1_4 : Int) (z6p : Option Addr) (z6n z6c : Nat) (k8 : Nat) (y8_0p : Option Addr) (y8_0n y8_0c : Nat) (y8_1 : Int) (y8_2 : Int) (y8_3 : Int) (z19 : Int) (z20 : Int) (z27 : Int) (z28 : Int) (w : World) : Prop := br (decide (z28 < z27)) (ptrSome y8_0p fun q7 => (0 : Int) ≤ (IntKind.i64.wrap (y8_1 + z28)) ∧ (IntKind.i64.wrap (y8_1 + z28)) < ((y8_0n : Nat) : Int) ∧ rd_f64 w (q7.add (Int.toNat (IntKind.i64.wrap (y8_1 + z28)))) fun x8 => newB [(.float .f64 x8)] 38 w fun q9 w10 => Raw prog (Builtin.append_ #[22, 22] 22 ⟨[(.slice z6p z6n z6c), (.slice (some q9) 1 1)]⟩) w10 fun v11 w12 => Stay [k1, k8] w10 w12 ∧ ∃ (a13 : Option Addr) (n14 c15 : Nat), v11 = .slice a13 n14 c15 ∧ h10 k1 y1_0p y1_0n y1_0c y1_1 y1_2 y1_3 y1_4 a13 n14 c15 k8 y8_0p y8_0n y8_0c y8_1 y8_2 y8_3 z19 z20 z27 (IntKind.i64.wrap (z28 + 1)) w12) (h6 k1 y1_0p y1_0n y1_0c y1_1 y1_2 y1_3 y1_4 z6p z6n z6c z19 (IntKind.i64.wrap (z20 + 1)) w)
def view_Numbers.I (K : Value → World → Prop) : Nat → (Nat → Option Addr → Nat → Nat → Int → Int → Int → Int → Option Addr → Nat → Nat → Int → Int → World → Prop) × (Nat → Option Addr → Nat → Nat → Int → Int → Int → Int → Option Addr → Nat → Nat → Nat → Option Addr → Nat → Nat → Int → Int → Int → Int → Int → Int → Int → World → Prop)
  | 0 => (fun _ _ _ _ _ _ _ _ _ _ _ _ _ _ => False, fun _ _ _ _ _ _ _ _ _ _ _ _ _ _ _ _ _ _ _ _ _ _ _ => False)
  | fu + 1 => (view_Numbers.e6 K (view_Numbers.I K fu).1 (view_Numbers.I K fu).2, view_Numbers.e10 K (view_Numbers.I K fu).1 (view_Numbers.I K fu).2)
def view_Numbers.s (fu : Nat) (A0_0p : Option Addr) (A0_0n A0_0c : Nat) (A0_1 : Int) (A0_2 : Int) (A0_3 : Int) (A0_4 : Int) (w : World) (K : Value → World → Prop) : Prop := ∀ (k3 : Nat) (w2 : World), k3 = w.heap.size → k3 < w2.heap.size → Ext w w2 → view_span.call [(.agg ⟨[(.slice A0_0p A0_0n A0_0c), (.int .i64 A0_1), (.int .i64 A0_2), (.int .i64 A0_3), (.int .i64 A0_4)]⟩)] w2 fun v12 w13 => Stay [k3] w2 w13 ∧ ∃ i14 : Int, ∃ i15 : Int, ∃ b16 : Bool, v12 = (.tuple ⟨[(.int .i64 i14), (.int .i64 i15), (.bool b16)]⟩) ∧ br (!b16) (K (.slice none 0 0) w13) ((view_Numbers.I K fu).1 k3 A0_0p A0_0n A0_0c A0_1 A0_2 A0_3 A0_4 none 0 0 A0_3 0 w13)
theorem view_Numbers.b6_s {K : Value → World → Prop} {x6 : Option Addr → Option Addr → Nat → Nat → Int → Int → World → Prop} {x10 : Option Addr → Option Addr → Nat → Nat → Option Addr → Int → Int → Int → Int → World → Prop} {s6 : Nat → Option Addr → Nat → Nat → Int → Int → Int → Int → Option Addr → Nat → Nat → Int → Int → World → Prop} {s10 : Nat → Option Addr → Nat → Nat → Int → Int → Int → Int → Option Addr → Nat → Nat → Nat → Option Addr → Nat → Nat → Int → Int → Int → Int → Int → Int → Int → World → Prop} (i6 : ∀ {q1 : Addr} {y1_0p : Option Addr} {y1_0n y1_0c : Nat} {y1_1 : Int} {y1_2 : Int} {y1_3 : Int} {y1_4 : Int} {z6p : Option Addr} {z6n z6c : Nat} {z19 : Int} {z20 : Int} {w : World}, s6 q1.block y1_0p y1_0n y1_0c y1_1 y1_2 y1_3 y1_4 z6p z6n z6c z19 z20 w → St w [(q1, [(.slice y1_0p y1_0n y1_0c), (.int .i64 y1_1), (.int .i64 y1_2), (.int .i64 y1_3), (.int .i64 y1_4)])] → x6 (some q1) z6p z6n z6c z19 z20 w) (i10 : ∀ {q1 : Addr} {y1_0p : Option Addr} {y1_0n y1_0c : Nat} {y1_1 : Int} {y1_2 : Int} {y1_3 : Int} {y1_4 : Int} {z6p : Option Addr} {z6n z6c : Nat} {q8 : Addr} {y8_0p : Option Addr} {y8_0n y8_0c : Nat} {y8_1 : Int} {y8_2 : Int} {y8_3 : Int} {z19 : Int} {z20 : Int} {z27 : Int} {z28 : Int} {w : World}, s10 q1.block y1_0p y1_0n y1_0c y1_1 y1_2 y1_3 y1_4 z6p z6n z6c q8.block y8_0p y8_0n y8_0c y8_1 y8_2 y8_3 z19 z20 z27 z28 w → St w [(q1, [(.slice y1_0p y1_0n y1_0c), (.int .i64 y1_1), (.int .i64 y1_2), (.int .i64 y1_3), (.int .i64 y1_4)]), (q8, [(.slice y8_0p y8_0n y8_0c), (.int .i64 y8_1), (.int .i64 y8_2), (.int .i64 y8_3)])] → x10 (some q1) z6p z6n z6c (some q8) z19 z20 z27 z28 w) {q1 : Addr} {y1_0p : Option Addr} {y1_0n y1_0c : Nat} {y1_1 : Int} {y1_2 : Int} {y1_3 : Int} {y1_4 : Int} {z6p : Option Addr} {z6n z6c : Nat} {z19 : Int} {z20 : Int} {w : World} (h : view_Numbers.e6 K s6 s10 q1.block y1_0p y1_0n y1_0c y1_1 y1_2 y1_3 y1_4 z6p z6n z6c z19 z20 w) (st : St w [(q1, [(.slice y1_0p y1_0n y1_0c), (.int .i64 y1_1), (.int .i64 y1_2), (.int .i64 y1_3), (.int .i64 y1_4)])]) : view_Numbers.b6 K x6 x10 (some q1) z6p z6n z6c z19 z20 w := by
  unfold view_Numbers.b6
  unfold view_Numbers.e6 at h
  refine br_mono (fun h => ?_) (fun h => ?_) h
  · refine ptrSome_intro rfl ?_
    refine rd_l_i64_i64_i64_i64.bx 0 0 st rfl rfl rfl rfl rfl rfl rfl ?_
    refine CallF.mono h (fun v9 w10 h => ?_)
    obtain ⟨hK, h⟩ := h
    replace st := st.stay hK
    obtain ⟨a11, n12, c13, i14, i15, i16, h⟩ := h
    refine ⟨a11, n12, c13, i14, i15, i16, ?_⟩
    refine And.imp_right (fun h => ?_) h
    refine St.new st (fun q17 w18 hk hlt he st => ?_)
    replace h := h q17.block w18 hk hlt he
    refine St.put 0 0 st rfl rfl rfl rfl (fun w21 he st => ?_)
    replace h := h w21 he
    refine rd_i64.bx 0 2 st rfl rfl rfl ?_
    exact i10 h (st.pick [1, 0] (by decide))
  · exact h
theorem view_Numbers.b10_s {K : Value → World → Prop} {x6 : Option Addr → Option Addr → Nat → Nat → Int → Int → World → Prop} {x10 : Option Addr → Option Addr → Nat → Nat → Option Addr → Int → Int → Int → Int → World → Prop} {s6 : Nat → Option Addr → Nat → Nat → Int → Int → Int → Int → Option Addr → Nat → Nat → Int → Int → World → Prop} {s10 : Nat → Option Addr → Nat → Nat → Int → Int → Int → Int → Option Addr → Nat → Nat → Nat → Option Addr → Nat → Nat → Int → Int → Int → Int → Int → Int → Int → World → Prop} (i6 : ∀ {q1 : Addr} {y1_0p : Option Addr} {y1_0n y1_0c : Nat} {y1_1 : Int} {y1_2 : Int} {y1_3 : Int} {y1_4 : Int} {z6p : Option Addr} {z6n z6c : Nat} {z19 : Int} {z20 : Int} {w : World}, s6 q1.block y1_0p y1_0n y1_0c y1_1 y1_2 y1_3 y1_4 z6p z6n z6c z19 z20 w → St w [(q1, [(.slice y1_0p y1_0n y1_0c), (.int .i64 y1_1), (.int .i64 y1_2), (.int .i64 y1_3), (.int .i64 y1_4)])] → x6 (some q1) z6p z6n z6c z19 z20 w) (i10 : ∀ {q1 : Addr} {y1_0p : Option Addr} {y1_0n y1_0c : Nat} {y1_1 : Int} {y1_2 : Int} {y1_3 : Int} {y1_4 : Int} {z6p : Option Addr} {z6n z6c : Nat} {q8 : Addr} {y8_0p : Option Addr} {y8_0n y8_0c : Nat} {y8_1 : Int} {y8_2 : Int} {y8_3 : Int} {z19 : Int} {z20 : Int} {z27 : Int} {z28 : Int} {w : World}, s10 q1.block y1_0p y1_0n y1_0c y1_1 y1_2 y1_3 y1_4 z6p z6n z6c q8.block y8_0p y8_0n y8_0c y8_1 y8_2 y8_3 z19 z20 z27 z28 w → St w [(q1, [(.slice y1_0p y1_0n y1_0c), (.int .i64 y1_1), (.int .i64 y1_2), (.int .i64 y1_3), (.int .i64 y1_4)]), (q8, [(.slice y8_0p y8_0n y8_0c), (.int .i64 y8_1), (.int .i64 y8_2), (.int .i64 y8_3)])] → x10 (some q1) z6p z6n z6c (some q8) z19 z20 z27 z28 w) {q1 : Addr} {y1_0p : Option Addr} {y1_0n y1_0c : Nat} {y1_1 : Int} {y1_2 : Int} {y1_3 : Int} {y1_4 : Int} {z6p : Option Addr} {z6n z6c : Nat} {q8 : Addr} {y8_0p : Option Addr} {y8_0n y8_0c : Nat} {y8_1 : Int} {y8_2 : Int} {y8_3 : Int} {z19 : Int} {z20 : Int} {z27 : Int} {z28 : Int} {w : World} (h : view_Numbers.e10 K s6 s10 q1.block y1_0p y1_0n y1_0c y1_1 y1_2 y1_3 y1_4 z6p z6n z6c q8.block y8_0p y8_0n y8_0c y8_1 y8_2 y8_3 z19 z20 z27 z28 w) (st : St w [(q1, [(.slice y1_0p y1_0n y1_0c), (.int .i64 y1_1), (.int .i64 y1_2), (.int .i64 y1_3), (.int .i64 y1_4)]), (q8, [(.slice y8_0p y8_0n y8_0c), (.int .i64 y8_1), (.int .i64 y8_2), (.int .i64 y8_3)])]) : view_Numbers.b10 K x6 x10 (some q1) z6p z6n z6c (some q8) z19 z20 z27 z28 w := by
  unfold view_Numbers.b10
  unfold view_Numbers.e10 at h
  refine br_mono (fun h => ?_) (fun h => ?_) h
  · refine ptrSome_intro rfl ?_
    refine rd_l.bx 1 0 st rfl rfl rfl ?_
    refine ptrSome_intro rfl ?_
    refine rd_i64.bx 1 1 st rfl rfl rfl ?_
    refine ptrSome_mono (fun q7 h => ?_) h
    refine And.imp_right (fun h => ?_) h
    refine And.imp_right (fun h => ?_) h
    refine rd_f64.mono (fun x8 h => ?_) h
    refine newB_mono st h (fun q9 w10 st h => ?_)
    refine Raw.mono h (fun v11 w12 h => ?_)
    obtain ⟨hK, h⟩ := h
    replace st := st.stay hK
    obtain ⟨a13, n14, c15, h⟩ := h
    refine ⟨a13, n14, c15, ?_⟩
    refine And.imp_right (fun h => ?_) h
    exact i10 h (st.pick [0, 1] (by decide))
  · exact i6 h (st.pick [0] (by decide))
theorem view_Numbers.H_s {K : Value → World → Prop} (fu : Nat) : (∀ {q1 : Addr} {y1_0p : Option Addr} {y1_0n y1_0c : Nat} {y1_1 : Int} {y1_2 : Int} {y1_3 : Int} {y1_4 : Int} {z6p : Option Addr} {z6n z6c : Nat} {z19 : Int} {z20 : Int} {w : World}, (view_Numbers.I K fu).1 q1.block y1_0p y1_0n y1_0c y1_1 y1_2 y1_3 y1_4 z6p z6n z6c z19 z20 w → St w [(q1, [(.slice y1_0p y1_0n y1_0c), (.int .i64 y1_1), (.int .i64 y1_2), (.int .i64 y1_3), (.int .i64 y1_4)])] → (view_Numbers.H K fu).1 (some q1) z6p z6n z6c z19 z20 w) ∧ (∀ {q1 : Addr} {y1_0p : Option Addr} {y1_0n y1_0c : Nat} {y1_1 : Int} {y1_2 : Int} {y1_3 : Int} {y1_4 : Int} {z6p : Option Addr} {z6n z6c : Nat} {q8 : Addr} {y8_0p : Option Addr} {y8_0n y8_0c : Nat} {y8_1 : Int} {y8_2 : Int} {y8_3 : Int} {z19 : Int} {z20 : Int} {z27 : Int} {z28 : Int} {w : World}, (view_Numbers.I K fu).2 q1.block y1_0p y1_0n y1_0c y1_1 y1_2 y1_3 y1_4 z6p z6n z6c q8.block y8_0p y8_0n y8_0c y8_1 y8_2 y8_3 z19 z20 z27 z28 w → St w [(q1, [(.slice y1_0p y1_0n y1_0c), (.int .i64 y1_1), (.int .i64 y1_2), (.int .i64 y1_3), (.int .i64 y1_4)]), (q8, [(.slice y8_0p y8_0n y8_0c), (.int .i64 y8_1), (.int .i64 y8_2), (.int .i64 y8_3)])] → (view_Numbers.H K fu).2 (some q1) z6p z6n z6c (some q8) z19 z20 z27 z28 w) := by
  induction fu with
  | zero => exact ⟨fun h _ => False.elim h, fun h _ => False.elim h⟩
  | succ fu ih => exact ⟨fun h st => view_Numbers.b6_s (K := K) (x6 := (view_Numbers.H K fu).1) (s6 := (view_Numbers.I K fu).1) (x10 := (view_Numbers.H K fu).2) (s10 := (view_Numbers.I K fu).2) ih.1 ih.2 h st, fun h st => view_Numbers.b10_s (K := K) (x6 := (view_Numbers.H K fu).1) (s6 := (view_Numbers.I K fu).1) (x10 := (view_Numbers.H K fu).2) (s10 := (view_Numbers.I K fu).2) ih.1 ih.2 h st⟩
theorem view_Numbers.os (fu : Nat) {A0_0p : Option Addr} {A0_0n A0_0c : Nat} {A0_1 : Int} {A0_2 : Int} {A0_3 : Int} {A0_4 : Int} {w : World} {K : Value → World → Prop} (h : view_Numbers.s fu A0_0p A0_0n A0_0c A0_1 A0_2 A0_3 A0_4 w K) : view_Numbers.call [(.agg ⟨[(.slice A0_0p A0_0n A0_0c), (.int .i64 A0_1), (.int .i64 A0_2), (.int .i64 A0_3), (.int .i64 A0_4)]⟩)] w K := by
  refine view_Numbers.ok fu ?_
  have st := St.nil w
  unfold view_Numbers.x
  unfold view_Numbers.s at h
  refine St.new (St.nil _) (fun q1 w2 hk hlt he st => ?_)
  replace h := h q1.block w2 hk hlt he
  refine rd_l_i64_i64_i64_i64.bx 0 0 st rfl rfl rfl rfl rfl rfl rfl ?_
  refine CallF.mono h (fun v12 w13 h => ?_)
  obtain ⟨hK, h⟩ := h
  replace st := st.stay hK
  obtain ⟨i14, i15, b16, h⟩ := h
  refine ⟨i14, i15, b16, ?_⟩
  refine And.imp_right (fun h => ?_) h
  refine br_mono (fun h => ?_) (fun h => ?_) h
  · exact h
  · refine rd_i64.bx 0 3 st rfl rfl rfl ?_
    exact (view_Numbers.H_s fu).1 h (st.pick [0] (by decide))

/-! ### straightedge/view.Row: function 78 -/
def view_Row.x (A0_0p : Option Addr) (A0_0n A0_0c : Nat) (A0_1 : Int) (A0_2 : Int) (A0_3 : Int) (A0_4 : Int) (A1 : Int) (w : World) (K : Value → World → Prop) : Prop := newB [(.slice A0_0p A0_0n A0_0c), (.int .i64 A0_1), (.int .i64 A0_2), (.int .i64 A0_3), (.int .i64 A0_4)] 24 w fun q1 w2 => newB [(.slice none 0 0), (.int .i64 0), (.int .i64 0), (.int .i64 0)] 66 w2 fun q3 w4 => rd_l_i64_i64_i64_i64 w4 q1 fun a5 n6 c7 i8 i9 i10 i11 => view_Good.call [(.agg ⟨[(.slice a5 n6 c7), (.int .i64 i8), (.int .i64 i9), (.int .i64 i10), (.int .i64 i11)]⟩)] w4 fun v12 w13 => ∃ b14 : Bool, v12 = (.bool b14) ∧ br (!b14) (stPT q3 0 [(.slice none 0 0), (.int .i64 0), (.int .i64 0), (.int .i64 0)] w13 fun w15 => rd_l_i64_i64_i64 w15 q3 fun a16 n17 c18 i19 i20 i21 => K (.agg ⟨[(.slice a16 n17 c18), (.int .i64 i19), (.int .i64 i20), (.int .i64 i21)]⟩) w15) (br (decide (A1 < 0)) (stPT q3 0 [(.slice none 0 0), (.int .i64 0), (.int .i64 0), (.int .i64 0)] w13 fun w22 => rd_l_i64_i64_i64 w22 q3 fun a23 n24 c25 i26 i27 i28 => K (.agg ⟨[(.slice a23 n24 c25), (.int .i64 i26), (.int .i64 i27), (.int .i64 i28)]⟩) w22) (rd_i64 w13 (q1.add 2) fun i29 => br (decide (A1 ≥ i29)) (stPT q3 0 [(.slice none 0 0), (.int .i64 0), (.int .i64 0), (.int .i64 0)] w13 fun w30 => rd_l_i64_i64_i64 w30 q3 fun a31 n32 c33 i34 i35 i36 => K (.agg ⟨[(.slice a31 n32 c33), (.int .i64 i34), (.int .i64 i35), (.int .i64 i36)]⟩) w30) (rd_l w13 q1 fun a37 n38 c39 => rd_i64 w13 (q1.add 1) fun i40 => rd_i64 w13 (q1.add 3) fun i41 => rd_i64 w13 (q1.add 4) fun i42 => newB [(.slice none 0 0), (.int .i64 0), (.int .i64 0), (.int .i64 0)] 66 w13 fun q43 w44 => stPT q43 0 [(.slice a37 n38 c39), (.int .i64 i40), (.int .i64 i41), (.int .i64 i42)] w44 fun w45 => rd_i64 w45 (q1.add 3) fun i46 => br (decide (i46 > 0)) (rd_i64 w45 (q43.add 1) fun i47 => stPT (q43.add 1) 0 [(.int .i64 (IntKind.i64.wrap (i47 + A1)))] w45 fun w48 => rd_l_i64_i64_i64 w48 q43 fun a49 n50 c51 i52 i53 i54 => stPT q3 0 [(.slice a49 n50 c51), (.int .i64 i52), (.int .i64 i53), (.int .i64 i54)] w48 fun w55 => rd_l_i64_i64_i64 w55 q3 fun a56 n57 c58 i59 i60 i61 => K (.agg ⟨[(.slice a56 n57 c58), (.int .i64 i59), (.int .i64 i60), (.int .i64 i61)]⟩) w55) (rd_l_i64_i64_i64 w45 q43 fun a62 n63 c64 i65 i66 i67 => stPT q3 0 [(.slice a62 n63 c64), (.int .i64 i65), (.int .i64 i66), (.int .i64 i67)] w45 fun w68 => rd_l_i64_i64_i64 w68 q3 fun a69 n70 c71 i72 i73 i74 => K (.agg ⟨[(.slice a69 n70 c71), (.int .i64 i72), (.int .i64 i73), (.int .i64 i74)]⟩) w68))))
theorem view_Row.ok {A0_0p : Option Addr} {A0_0n A0_0c : Nat} {A0_1 : Int} {A0_2 : Int} {A0_3 : Int} {A0_4 : Int} {A1 : Int} {w : World} {K : Value → World → Prop} (h : view_Row.x A0_0p A0_0n A0_0c A0_1 A0_2 A0_3 A0_4 A1 w K) : view_Row.call [(.agg ⟨[(.slice A0_0p A0_0n A0_0c), (.int .i64 A0_1), (.int .i64 A0_2), (.int .i64 A0_3), (.int .i64 A0_4)]⟩), (.int .i64 A1)] w K :=
  callF_of_ex0 (f := Try.f78) Try.func78 rfl mixed (by kernel_rfl) (Eq.mp (by kernel_rfl) h)
/-! the same, the local variables taken out -/
def view_Row.s (A0_0p : Option Addr) (A0_0n A0_0c : Nat) (A0_1 : Int) (A0_2 : Int) (A0_3 : Int) (A0_4 : Int) (A1 : Int) (w : World) (K : Value → World → Prop) : Prop := ∀ (k3 : Nat) (w2 : World), k3 = w.heap.size → k3 < w2.heap.size → Ext w w2 → ∀ (k7 : Nat) (w6 : World), k7 = w2.heap.size → k7 < w6.heap.size → Ext w2 w6 → view_Good.call [(.agg ⟨[(.slice A0_0p A0_0n A0_0c), (.int .i64 A0_1), (.int .i64 A0_2), (.int .i64 A0_3), (.int .i64 A0_4)]⟩)] w6 fun v16 w17 => Stay [k7, k3] w6 w17 ∧ ∃ b18 : Bool, v16 = (.bool b18) ∧ br (!b18) (∀ w19 : World, Exc k7 w17 w19 → K (.agg ⟨[(.slice (none : Option Addr) (0 : Nat) (0 : Nat)), (.int .i64 (0 : Int)), (.int .i64 (0 : Int)), (.int .i64 (0 : Int))]⟩) w19) (br (decide (A1 < 0)) (∀ w26 : World, Exc k7 w17 w26 → K (.agg ⟨[(.slice (none : Option Addr) (0 : Nat) (0 : Nat)), (.int .i64 (0 : Int)), (.int .i64 (0 : Int)), (.int .i64 (0 : Int))]⟩) w26) (br (decide (A1 ≥ A0_2)) (∀ w34 : World, Exc k7 w17 w34 → K (.agg ⟨[(.slice (none : Option Addr) (0 : Nat) (0 : Nat)), (.int .i64 (0 : Int)), (.int .i64 (0 : Int)), (.int .i64 (0 : Int))]⟩) w34) (∀ (k49 : Nat) (w48 : World), k49 = w17.heap.size → k49 < w48.heap.size → Ext w17 w48 → ∀ w51 : World, Exc k49 w48 w51 → br (decide (A0_3 > 0)) (∀ w54 : World, Exc k49 w51 w54 → ∀ w61 : World, Exc k7 w54 w61 → K (.agg ⟨[(.slice A0_0p A0_0n A0_0c), (.int .i64 (IntKind.i64.wrap (A0_1 + A1))), (.int .i64 A0_3), (.int .i64 A0_4)]⟩) w61) (∀ w74 : World, Exc k7 w51 w74 → K (.agg ⟨[(.slice A0_0p A0_0n A0_0c), (.int .i64 A0_1), (.int .i64 A0_3), (.int .i64 A0_4)]⟩) w74))))
theorem view_Row.os {A0_0p : Option Addr} {A0_0n A0_0c : Nat} {A0_1 : Int} {A0_2 : Int} {A0_3 : Int} {A0_4 : Int} {A1 : Int} {w : World} {K : Value → World → Prop} (h : view_Row.s A0_0p A0_0n A0_0c A0_1 A0_2 A0_3 A0_4 A1 w K) : view_Row.call [(.agg ⟨[(.slice A0_0p A0_0n A0_0c), (.int .i64 A0_1), (.int .i64 A0_2), (.int .i64 A0_3), (.int .i64 A0_4)]⟩), (.int .i64 A1)] w K := by
  refine view_Row.ok ?_
  have st := St.nil w
  unfold view_Row.x
  unfold view_Row.s at h
  refine St.new (St.nil _) (fun q1 w2 hk hlt he st => ?_)
  replace h := h q1.block w2 hk hlt he
  refine St.new st (fun q5 w6 hk hlt he st => ?_)
  replace h := h q5.block w6 hk hlt he
  refine rd_l_i64_i64_i64_i64.bx 1 0 st rfl rfl rfl rfl rfl rfl rfl ?_
  refine CallF.mono h (fun v16 w17 h => ?_)
  obtain ⟨hK, h⟩ := h
  replace st := st.stay hK
  obtain ⟨b18, h⟩ := h
  refine ⟨b18, ?_⟩
  refine And.imp_right (fun h => ?_) h
  refine br_mono (fun h => ?_) (fun h => ?_) h
  · refine St.put 0 0 st rfl rfl rfl rfl (fun w19 he st => ?_)
    replace h := h w19 he
    refine rd_l_i64_i64_i64.bx 0 0 st rfl rfl rfl rfl rfl rfl ?_
    exact h
  · refine br_mono (fun h => ?_) (fun h => ?_) h
    · refine St.put 0 0 st rfl rfl rfl rfl (fun w26 he st => ?_)
      replace h := h w26 he
      refine rd_l_i64_i64_i64.bx 0 0 st rfl rfl rfl rfl rfl rfl ?_
      exact h
    · refine rd_i64.bx 1 2 st rfl rfl rfl ?_
      refine br_mono (fun h => ?_) (fun h => ?_) h
      · refine St.put 0 0 st rfl rfl rfl rfl (fun w34 he st => ?_)
        replace h := h w34 he
        refine rd_l_i64_i64_i64.bx 0 0 st rfl rfl rfl rfl rfl rfl ?_
        exact h
      · refine rd_l.bx 1 0 st rfl rfl rfl ?_
        refine rd_i64.bx 1 1 st rfl rfl rfl ?_
        refine rd_i64.bx 1 3 st rfl rfl rfl ?_
        refine rd_i64.bx 1 4 st rfl rfl rfl ?_
        refine St.new st (fun q47 w48 hk hlt he st => ?_)
        replace h := h q47.block w48 hk hlt he
        refine St.put 0 0 st rfl rfl rfl rfl (fun w51 he st => ?_)
        replace h := h w51 he
        refine rd_i64.bx 2 3 st rfl rfl rfl ?_
        refine br_mono (fun h => ?_) (fun h => ?_) h
        · refine rd_i64.bx 0 1 st rfl rfl rfl ?_
          refine St.put 0 1 st rfl rfl rfl rfl (fun w54 he st => ?_)
          replace h := h w54 he
          refine rd_l_i64_i64_i64.bx 0 0 st rfl rfl rfl rfl rfl rfl ?_
          refine St.put 1 0 st rfl rfl rfl rfl (fun w61 he st => ?_)
          replace h := h w61 he
          refine rd_l_i64_i64_i64.bx 1 0 st rfl rfl rfl rfl rfl rfl ?_
          exact h
        · refine rd_l_i64_i64_i64.bx 0 0 st rfl rfl rfl rfl rfl rfl ?_
          refine St.put 1 0 st rfl rfl rfl rfl (fun w74 he st => ?_)
          replace h := h w74 he
          refine rd_l_i64_i64_i64.bx 1 0 st rfl rfl rfl rfl rfl rfl ?_
          exact h

/-! ### straightedge/view.span: function 79 -/
def view_span.x (A0_0p : Option Addr) (A0_0n A0_0c : Nat) (A0_1 : Int) (A0_2 : Int) (A0_3 : Int) (A0_4 : Int) (w : World) (K : Value → World → Prop) : Prop := newB [(.slice A0_0p A0_0n A0_0c), (.int .i64 A0_1), (.int .i64 A0_2), (.int .i64 A0_3), (.int .i64 A0_4)] 24 w fun q1 w2 => rd_l_i64_i64_i64_i64 w2 q1 fun a3 n4 c5 i6 i7 i8 i9 => view_Good.call [(.agg ⟨[(.slice a3 n4 c5), (.int .i64 i6), (.int .i64 i7), (.int .i64 i8), (.int .i64 i9)]⟩)] w2 fun v10 w11 => ∃ b12 : Bool, v10 = (.bool b12) ∧ br (!b12) (K (.tuple ⟨[(.int .i64 0), (.int .i64 0), (.bool false)]⟩) w11) (rd_i64 w11 (q1.add 2) fun i13 => br (i13 == 0) (K (.tuple ⟨[(.int .i64 0), (.int .i64 0), (.bool false)]⟩) w11) (rd_i64 w11 (q1.add 3) fun i14 => br (i14 == 0) (K (.tuple ⟨[(.int .i64 0), (.int .i64 0), (.bool false)]⟩) w11) (rd_i64 w11.drew (q1.add 1) fun i16 => rd_i64 w11.drew (q1.add 1) fun i17 => rd_i64 w11.drew (q1.add 3) fun i18 => rd_i64 w11.drew (q1.add 4) fun i19 => rd_i64 w11.drew (q1.add 2) fun i20 => K (.tuple ⟨[(.int .i64 i16), (.int .i64 (IntKind.i64.wrap ((IntKind.i64.wrap ((IntKind.i64.wrap (i17 + (IntKind.i64.wrap ((IntKind.i64.wrap (i18 - 1)) * i19)))) + i20)) - 1))), (.bool true)]⟩) w11.drew)))
theorem view_span.ok {A0_0p : Option Addr} {A0_0n A0_0c : Nat} {A0_1 : Int} {A0_2 : Int} {A0_3 : Int} {A0_4 : Int} {w : World} {K : Value → World → Prop} (h : view_span.x A0_0p A0_0n A0_0c A0_1 A0_2 A0_3 A0_4 w K) : view_span.call [(.agg ⟨[(.slice A0_0p A0_0n A0_0c), (.int .i64 A0_1), (.int .i64 A0_2), (.int .i64 A0_3), (.int .i64 A0_4)]⟩)] w K :=
  callF_of_ex0 (f := Try.f79) Try.func79 rfl mixed (by kernel_rfl) (Eq.mp (by kernel_rfl) h)
/-! the same, the local variables taken out -/
def view_span.s (A0_0p : Option Addr) (A0_0n A0_0c : Nat) (A0_1 : Int) (A0_2 : Int) (A0_3 : Int) (A0_4 : Int) (w : World) (K : Value → World → Prop) : Prop := ∀ (k3 : Nat) (w2 : World), k3 = w.heap.size → k3 < w2.heap.size → Ext w w2 → view_Good.call [(.agg ⟨[(.slice A0_0p A0_0n A0_0c), (.int .i64 A0_1), (.int .i64 A0_2), (.int .i64 A0_3), (.int .i64 A0_4)]⟩)] w2 fun v12 w13 => Stay [k3] w2 w13 ∧ ∃ b14 : Bool, v12 = (.bool b14) ∧ br (!b14) (K (.tuple ⟨[(.int .i64 0), (.int .i64 0), (.bool false)]⟩) w13) (br (A0_2 == 0) (K (.tuple ⟨[(.int .i64 0), (.int .i64 0), (.bool false)]⟩) w13) (br (A0_3 == 0) (K (.tuple ⟨[(.int .i64 0), (.int .i64 0), (.bool false)]⟩) w13) (K (.tuple ⟨[(.int .i64 A0_1), (.int .i64 (IntKind.i64.wrap ((IntKind.i64.wrap ((IntKind.i64.wrap (A0_1 + (IntKind.i64.wrap ((IntKind.i64.wrap (A0_3 - 1)) * A0_4)))) + A0_2)) - 1))), (.bool true)]⟩) w13.drew)))
theorem view_span.os {A0_0p : Option Addr} {A0_0n A0_0c : Nat} {A0_1 : Int} {A0_2 : Int} {A0_3 : Int} {A0_4 : Int} {w : World} {K : Value → World → Prop} (h : view_span.s A0_0p A0_0n A0_0c A0_1 A0_2 A0_3 A0_4 w K) : view_span.call [(.agg ⟨[(.slice A0_0p A0_0n A0_0c), (.int .i64 A0_1), (.int .i64 A0_2), (.int .i64 A0_3), (.int .i64 A0_4)]⟩)] w K := by
  refine view_span.ok ?_
  have st := St.nil w
  unfold view_span.x
  unfold view_span.s at h
  refine St.new (St.nil _) (fun q1 w2 hk hlt he st => ?_)
  replace h := h q1.block w2 hk hlt he
  refine rd_l_i64_i64_i64_i64.bx 0 0 st rfl rfl rfl rfl rfl rfl rfl ?_
  refine CallF.mono h (fun v12 w13 h => ?_)
  obtain ⟨hK, h⟩ := h
  replace st := st.stay hK
  obtain ⟨b14, h⟩ := h
  refine ⟨b14, ?_⟩
  refine And.imp_right (fun h => ?_) h
  refine br_mono (fun h => ?_) (fun h => ?_) h
  · exact h
  · refine rd_i64.bx 0 2 st rfl rfl rfl ?_
    refine br_mono (fun h => ?_) (fun h => ?_) h
    · exact h
    · refine rd_i64.bx 0 3 st rfl rfl rfl ?_
      refine br_mono (fun h => ?_) (fun h => ?_) h
      · exact h
      · replace st := st.drew
        have st17 := st
        refine rd_i64.bx 0 1 st17 rfl rfl rfl ?_
        refine rd_i64.bx 0 1 st17 rfl rfl rfl ?_
        refine rd_i64.bx 0 3 st17 rfl rfl rfl ?_
        refine rd_i64.bx 0 4 st17 rfl rfl rfl ?_
        refine rd_i64.bx 0 2 st17 rfl rfl rfl ?_
        exact h

end Go.Proofs.Ytgdkahbnepafgaa
