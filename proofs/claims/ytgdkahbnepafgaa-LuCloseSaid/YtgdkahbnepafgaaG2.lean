/- A part of the proof. -/
import Derived.Test.YtgdkahbnepafgaaG0
set_option linter.unusedVariables false

/-! ### AGref16 -/
/- The explicit forms of the functions of one package, and that the calls do what they say. Written by wip/tools/wk2.py. -/
set_option maxHeartbeats 4000000
set_option maxRecDepth 100000
set_option linter.unusedVariables false
namespace Go.Proofs.Ytgdkahbnepafgaa
open Go Go.Wk

/-! ### straightedge/straightedgeref16.Piv: function 11 -/
def straightedgeref16_Piv.b2 (K : Value → World → Prop) (h2 : Option Addr → Nat → Nat → Int → World → Prop) (z0p : Option Addr) (z0n z0c : Nat) (z3 : Int) (w : World) : Prop := br (decide (z3 < ((z0n : Nat) : Int))) (ptrSome z0p fun q1 => (0 : Int) ≤ z3 ∧ z3 < ((z0n : Nat) : Int) ∧ rd_i64 w (q1.add (Int.toNat z3)) fun i2 => br (decide (i2 < z3)) (K (.bool false) w) (ptrSome z0p fun q3 => (0 : Int) ≤ z3 ∧ z3 < ((z0n : Nat) : Int) ∧ rd_i64 w (q3.add (Int.toNat z3)) fun i4 => br (decide (i4 ≥ ((z0n : Nat) : Int))) (K (.bool false) w) (h2 z0p z0n z0c (IntKind.i64.wrap (z3 + 1)) w))) (K (.bool true) w)
def straightedgeref16_Piv.c2 (K : Value → World → Prop) : Nat → Option Addr → Nat → Nat → Int → World → Prop
  | 0 => fun _ _ _ _ _ => False
  | fu + 1 => straightedgeref16_Piv.b2 K (straightedgeref16_Piv.c2 K fu)
def straightedgeref16_Piv.x (fu : Nat) (A0p : Option Addr) (A0n A0c : Nat) (w : World) (K : Value → World → Prop) : Prop := straightedgeref16_Piv.c2 K fu A0p A0n A0c 0 w
def straightedgeref16_Piv.hd (K : Value → World → Prop) (n id : Nat) (t : List Value) (w : World) : Prop :=
  match id with
  | 2 => asL (t.getD 0 undef) fun z0p z0n z0c => asI .i64 (t.getD 3 undef) fun z3 => straightedgeref16_Piv.c2 K n z0p z0n z0c z3 w
  | _ => False
theorem straightedgeref16_Piv.t2 (K : Value → World → Prop) (n : Nat) (z0p : Option Addr) (z0n z0c : Nat) (z3 : Int) (u : Nat → Value) (w : World) (h : straightedgeref16_Piv.c2 K (n + 1) z0p z0n z0c z3 w) :
    exT prog [2] (straightedgeref16_Piv.hd K n) Try.f11 2 25 [(0, (.slice z0p z0n z0c)), (3, (.int .i64 z3))] u w K := Eq.mp (by kernel_rfl) h
theorem straightedgeref16_Piv.ok (fu : Nat) {A0p : Option Addr} {A0n A0c : Nat} {w : World} {K : Value → World → Prop} (h : straightedgeref16_Piv.x fu A0p A0n A0c w K) : straightedgeref16_Piv.call [(.slice A0p A0n A0c)] w K := by
  refine callF_of_ex (cuts := [2]) (H := straightedgeref16_Piv.hd K) (N := 25) Try.func11 rfl mixed (by kernel_rfl) ?_ ?_ ?_ rfl (n := fu) (Eq.mp (by kernel_rfl) h)
  · intro id hid; simp only [List.mem_cons, List.not_mem_nil, or_false] at hid; subst hid
    · exact (by kernel_rfl : (stacks (bodyOf Try.f11) []).filter (headIs 2) = [at_ (bodyOf Try.f11) 2])
  · intro id t w h
    unfold straightedgeref16_Piv.hd at h
    split at h
    · obtain ⟨z0p, z0n, z0c, _, h⟩ := asL_elim h
      obtain ⟨z3, _, h⟩ := asI_elim h
      exact h
    · exact h
  · intro n id hid t w hl h; simp only [List.mem_cons, List.not_mem_nil, or_false] at hid; subst hid
    · replace h : asL (t.getD 0 undef) fun z0p z0n z0c => asI .i64 (t.getD 3 undef) fun z3 => straightedgeref16_Piv.c2 K (n + 1) z0p z0n z0c z3 w := h
      obtain ⟨z0p, z0n, z0c, e0, h⟩ := asL_elim h
      obtain ⟨z3, e3, h⟩ := asI_elim h
      rw [mk_of hl [(0, (.slice z0p z0n z0c)), (3, (.int .i64 z3))] (by simp only [List.forall_mem_cons, List.not_mem_nil, false_implies, implies_true, and_true]; exact ⟨e0, e3⟩)]
      exact straightedgeref16_Piv.t2 K n z0p z0n z0c z3 _ w h

/-! ### straightedge/straightedgeref16.Parts: function 40 -/
def straightedgeref16_Parts.b3 (K : Value → World → Prop) (h3 : Option Addr → Option Addr → Option Addr → Option Addr → Option Addr → Int → World → Prop) (h6 : Option Addr → Option Addr → Option Addr → Option Addr → Option Addr → Int → Int → World → Prop) (z1 : Option Addr) (z2 : Option Addr) (z3 : Option Addr) (z4 : Option Addr) (z5 : Option Addr) (z6 : Int) (w : World) : Prop := ptrSome z1 fun q1 => rd_i64 w q1 fun i2 => br (decide (z6 < i2)) (h6 z1 z2 z3 z4 z5 z6 0 w) (∃ S4 : Nat → Prop, ptrSome z4 fun q5 => S4 q5.block ∧ rd_i64_i64_l w.drew q5 fun i6 i7 a8 n9 c10 => ptrSome z5 fun q11 => S4 q11.block ∧ rd_i64_i64_l w.drew q11 fun i12 i13 a14 n15 c16 => ptrSome z2 fun q17 => stPT q17 0 [(.int .i64 i6), (.int .i64 i7), (.slice a8 n9 c10)] w.drew fun w18 => KeptS S4 w.drew w18 ∧ ptrSome z3 fun q19 => stPT q19 0 [(.int .i64 i12), (.int .i64 i13), (.slice a14 n15 c16)] w18 fun w20 => ptrSome z2 fun q21 => rd_i64_i64_l w20 q21 fun i22 i23 a24 n25 c26 => ptrSome z3 fun q27 => rd_i64_i64_l w20 q27 fun i28 i29 a30 n31 c32 => K (.tuple ⟨[(.agg ⟨[(.int .i64 i22), (.int .i64 i23), (.slice a24 n25 c26)]⟩), (.agg ⟨[(.int .i64 i28), (.int .i64 i29), (.slice a30 n31 c32)]⟩)]⟩) w20)
def straightedgeref16_Parts.b6 (K : Value → World → Prop) (h3 : Option Addr → Option Addr → Option Addr → Option Addr → Option Addr → Int → World → Prop) (h6 : Option Addr → Option Addr → Option Addr → Option Addr → Option Addr → Int → Int → World → Prop) (z1 : Option Addr) (z2 : Option Addr) (z3 : Option Addr) (z4 : Option Addr) (z5 : Option Addr) (z6 : Int) (z7 : Int) (w : World) : Prop := ptrSome z1 fun q1 => rd_i64 w q1 fun i2 => br (decide (z7 < i2)) (br (decide (z6 > z7)) (ptrSome z4 fun q4 => rd_i64_i64_l w.drew q4 fun i5 i6 a7 n8 c9 => ptrSome z1 fun q10 => rd_i64_i64_l w.drew q10 fun i11 i12 a13 n14 c15 => straightedgeref03_M_At.call [(.agg ⟨[(.int .i64 i11), (.int .i64 i12), (.slice a13 n14 c15)]⟩), (.int .i64 z6), (.int .i64 z7)] w.drew fun v16 w17 => ∃ x18 : Nat, v16 = (.float .f64 x18) ∧ Kept w.drew w17 ∧ straightedgeref03_M_Set.call [(.agg ⟨[(.int .i64 i5), (.int .i64 i6), (.slice a7 n8 c9)]⟩), (.int .i64 z6), (.int .i64 z7), (.float .f64 x18)] w17 fun v19 w20 => v19 = (.tuple ⟨[]⟩) ∧ h6 z1 z2 z3 z4 z5 z6 (IntKind.i64.wrap (z7 + 1)) w20) (ptrSome z5 fun q22 => rd_i64_i64_l w.drew q22 fun i23 i24 a25 n26 c27 => ptrSome z1 fun q28 => rd_i64_i64_l w.drew q28 fun i29 i30 a31 n32 c33 => straightedgeref03_M_At.call [(.agg ⟨[(.int .i64 i29), (.int .i64 i30), (.slice a31 n32 c33)]⟩), (.int .i64 z6), (.int .i64 z7)] w.drew fun v34 w35 => ∃ x36 : Nat, v34 = (.float .f64 x36) ∧ Kept w.drew w35 ∧ straightedgeref03_M_Set.call [(.agg ⟨[(.int .i64 i23), (.int .i64 i24), (.slice a25 n26 c27)]⟩), (.int .i64 z6), (.int .i64 z7), (.float .f64 x36)] w35 fun v37 w38 => v37 = (.tuple ⟨[]⟩) ∧ h6 z1 z2 z3 z4 z5 z6 (IntKind.i64.wrap (z7 + 1)) w38)) (ptrSome z4 fun q39 => rd_i64_i64_l w q39 fun i40 i41 a42 n43 c44 => straightedgeref03_M_Set.call [(.agg ⟨[(.int .i64 i40), (.int .i64 i41), (.slice a42 n43 c44)]⟩), (.int .i64 z6), (.int .i64 z6), (.float .f64 4607182418800017408)] w fun v45 w46 => v45 = (.tuple ⟨[]⟩) ∧ h3 z1 z2 z3 z4 z5 (IntKind.i64.wrap (z6 + 1)) w46)
def straightedgeref16_Parts.H (K : Value → World → Prop) : Nat → (Option Addr → Option Addr → Option Addr → Option Addr → Option Addr → Int → World → Prop) × (Option Addr → Option Addr → Option Addr → Option Addr → Option Addr → Int → Int → World → Prop)
  | 0 => (fun _ _ _ _ _ _ _ => False, fun _ _ _ _ _ _ _ _ => False)
  | fu + 1 => (straightedgeref16_Parts.b3 K (straightedgeref16_Parts.H K fu).1 (straightedgeref16_Parts.H K fu).2, straightedgeref16_Parts.b6 K (straightedgeref16_Parts.H K fu).1 (straightedgeref16_Parts.H K fu).2)
def straightedgeref16_Parts.x (fu : Nat) (A0_0 : Int) (A0_1 : Int) (A0_2p : Option Addr) (A0_2n A0_2c : Nat) (w : World) (K : Value → World → Prop) : Prop := newB [(.int .i64 A0_0), (.int .i64 A0_1), (.slice A0_2p A0_2n A0_2c)] 29 w fun q1 w2 => newB [(.int .i64 0), (.int .i64 0), (.slice none 0 0)] 29 w2 fun q3 w4 => newB [(.int .i64 0), (.int .i64 0), (.slice none 0 0)] 29 w4 fun q5 w6 => rd_i64 w6.drew q1 fun i8 => rd_i64 w6.drew q1 fun i9 => rd_i64 w6.drew q1 fun i10 => rd_i64 w6.drew q1 fun i11 => (straightedgeref03_New.call [(.int .i64 i8), (.int .i64 i9)] w6.drew fun v12 w13 => ∃ i14 : Int, ∃ i15 : Int, ∃ (a16 : Option Addr) (n17 c18 : Nat), v12 = (.agg ⟨[(.int .i64 i14), (.int .i64 i15), (.slice a16 n17 c18)]⟩) ∧ Kept w6.drew w13 ∧ (straightedgeref03_New.call [(.int .i64 i10), (.int .i64 i11)] w13 fun v19 w20 => ∃ i21 : Int, ∃ i22 : Int, ∃ (a23 : Option Addr) (n24 c25 : Nat), v19 = (.agg ⟨[(.int .i64 i21), (.int .i64 i22), (.slice a23 n24 c25)]⟩) ∧ (newB [(.int .i64 0), (.int .i64 0), (.slice none 0 0)] 29 w20 fun q26 w27 => Kept w20 w27 ∧ newB [(.int .i64 0), (.int .i64 0), (.slice none 0 0)] 29 w27 fun q28 w29 => Kept w27 w29 ∧ stPT q26 0 [(.int .i64 i14), (.int .i64 i15), (.slice a16 n17 c18)] w29 fun w30 => stPT q28 0 [(.int .i64 i21), (.int .i64 i22), (.slice a23 n24 c25)] w30 fun w31 => (straightedgeref16_Parts.H K fu).1 (some q1) (some q3) (some q5) (some q26) (some q28) 0 w31) ∧ (newB [(.int .i64 0), (.int .i64 0), (.slice none 0 0)] 29 w20 fun q32 w33 => Kept w20 w33 ∧ newB [(.int .i64 0), (.int .i64 0), (.slice none 0 0)] 29 w33 fun q34 w35 => Kept w33 w35 ∧ stPT q34 0 [(.int .i64 i14), (.int .i64 i15), (.slice a16 n17 c18)] w35 fun w36 => stPT q32 0 [(.int .i64 i21), (.int .i64 i22), (.slice a23 n24 c25)] w36 fun w37 => (straightedgeref16_Parts.H K fu).1 (some q1) (some q3) (some q5) (some q34) (some q32) 0 w37)) ∧ (newB [(.int .i64 0), (.int .i64 0), (.slice none 0 0)] 29 w13 fun q38 w39 => Kept w13 w39 ∧ (straightedgeref03_New.call [(.int .i64 i10), (.int .i64 i11)] w39 fun v40 w41 => ∃ i42 : Int, ∃ i43 : Int, ∃ (a44 : Option Addr) (n45 c46 : Nat), v40 = (.agg ⟨[(.int .i64 i42), (.int .i64 i43), (.slice a44 n45 c46)]⟩) ∧ newB [(.int .i64 0), (.int .i64 0), (.slice none 0 0)] 29 w41 fun q47 w48 => Kept w41 w48 ∧ stPT q38 0 [(.int .i64 i14), (.int .i64 i15), (.slice a16 n17 c18)] w48 fun w49 => stPT q47 0 [(.int .i64 i42), (.int .i64 i43), (.slice a44 n45 c46)] w49 fun w50 => (straightedgeref16_Parts.H K fu).1 (some q1) (some q3) (some q5) (some q38) (some q47) 0 w50) ∧ (newB [(.int .i64 0), (.int .i64 0), (.slice none 0 0)] 29 w39 fun q51 w52 => Kept w39 w52 ∧ straightedgeref03_New.call [(.int .i64 i10), (.int .i64 i11)] w52 fun v53 w54 => ∃ i55 : Int, ∃ i56 : Int, ∃ (a57 : Option Addr) (n58 c59 : Nat), v53 = (.agg ⟨[(.int .i64 i55), (.int .i64 i56), (.slice a57 n58 c59)]⟩) ∧ stPT q38 0 [(.int .i64 i14), (.int .i64 i15), (.slice a16 n17 c18)] w54 fun w60 => stPT q51 0 [(.int .i64 i55), (.int .i64 i56), (.slice a57 n58 c59)] w60 fun w61 => (straightedgeref16_Parts.H K fu).1 (some q1) (some q3) (some q5) (some q38) (some q51) 0 w61)) ∧ (newB [(.int .i64 0), (.int .i64 0), (.slice none 0 0)] 29 w13 fun q62 w63 => Kept w13 w63 ∧ (straightedgeref03_New.call [(.int .i64 i10), (.int .i64 i11)] w63 fun v64 w65 => ∃ i66 : Int, ∃ i67 : Int, ∃ (a68 : Option Addr) (n69 c70 : Nat), v64 = (.agg ⟨[(.int .i64 i66), (.int .i64 i67), (.slice a68 n69 c70)]⟩) ∧ newB [(.int .i64 0), (.int .i64 0), (.slice none 0 0)] 29 w65 fun q71 w72 => Kept w65 w72 ∧ stPT q71 0 [(.int .i64 i14), (.int .i64 i15), (.slice a16 n17 c18)] w72 fun w73 => stPT q62 0 [(.int .i64 i66), (.int .i64 i67), (.slice a68 n69 c70)] w73 fun w74 => (straightedgeref16_Parts.H K fu).1 (some q1) (some q3) (some q5) (some q71) (some q62) 0 w74) ∧ (newB [(.int .i64 0), (.int .i64 0), (.slice none 0 0)] 29 w63 fun q75 w76 => Kept w63 w76 ∧ straightedgeref03_New.call [(.int .i64 i10), (.int .i64 i11)] w76 fun v77 w78 => ∃ i79 : Int, ∃ i80 : Int, ∃ (a81 : Option Addr) (n82 c83 : Nat), v77 = (.agg ⟨[(.int .i64 i79), (.int .i64 i80), (.slice a81 n82 c83)]⟩) ∧ stPT q75 0 [(.int .i64 i14), (.int .i64 i15), (.slice a16 n17 c18)] w78 fun w84 => stPT q62 0 [(.int .i64 i79), (.int .i64 i80), (.slice a81 n82 c83)] w84 fun w85 => (straightedgeref16_Parts.H K fu).1 (some q1) (some q3) (some q5) (some q75) (some q62) 0 w85))) ∧ (newB [(.int .i64 0), (.int .i64 0), (.slice none 0 0)] 29 w6.drew fun q86 w87 => Kept w6.drew w87 ∧ (straightedgeref03_New.call [(.int .i64 i8), (.int .i64 i9)] w87 fun v88 w89 => ∃ i90 : Int, ∃ i91 : Int, ∃ (a92 : Option Addr) (n93 c94 : Nat), v88 = (.agg ⟨[(.int .i64 i90), (.int .i64 i91), (.slice a92 n93 c94)]⟩) ∧ Kept w87 w89 ∧ (straightedgeref03_New.call [(.int .i64 i10), (.int .i64 i11)] w89 fun v95 w96 => ∃ i97 : Int, ∃ i98 : Int, ∃ (a99 : Option Addr) (n100 c101 : Nat), v95 = (.agg ⟨[(.int .i64 i97), (.int .i64 i98), (.slice a99 n100 c101)]⟩) ∧ newB [(.int .i64 0), (.int .i64 0), (.slice none 0 0)] 29 w96 fun q102 w103 => Kept w96 w103 ∧ stPT q86 0 [(.int .i64 i90), (.int .i64 i91), (.slice a92 n93 c94)] w103 fun w104 => stPT q102 0 [(.int .i64 i97), (.int .i64 i98), (.slice a99 n100 c101)] w104 fun w105 => (straightedgeref16_Parts.H K fu).1 (some q1) (some q3) (some q5) (some q86) (some q102) 0 w105) ∧ (newB [(.int .i64 0), (.int .i64 0), (.slice none 0 0)] 29 w89 fun q106 w107 => Kept w89 w107 ∧ straightedgeref03_New.call [(.int .i64 i10), (.int .i64 i11)] w107 fun v108 w109 => ∃ i110 : Int, ∃ i111 : Int, ∃ (a112 : Option Addr) (n113 c114 : Nat), v108 = (.agg ⟨[(.int .i64 i110), (.int .i64 i111), (.slice a112 n113 c114)]⟩) ∧ stPT q86 0 [(.int .i64 i90), (.int .i64 i91), (.slice a92 n93 c94)] w109 fun w115 => stPT q106 0 [(.int .i64 i110), (.int .i64 i111), (.slice a112 n113 c114)] w115 fun w116 => (straightedgeref16_Parts.H K fu).1 (some q1) (some q3) (some q5) (some q86) (some q106) 0 w116)) ∧ (newB [(.int .i64 0), (.int .i64 0), (.slice none 0 0)] 29 w87 fun q117 w118 => Kept w87 w118 ∧ straightedgeref03_New.call [(.int .i64 i8), (.int .i64 i9)] w118 fun v119 w120 => ∃ i121 : Int, ∃ i122 : Int, ∃ (a123 : Option Addr) (n124 c125 : Nat), v119 = (.agg ⟨[(.int .i64 i121), (.int .i64 i122), (.slice a123 n124 c125)]⟩) ∧ Kept w118 w120 ∧ straightedgeref03_New.call [(.int .i64 i10), (.int .i64 i11)] w120 fun v126 w127 => ∃ i128 : Int, ∃ i129 : Int, ∃ (a130 : Option Addr) (n131 c132 : Nat), v126 = (.agg ⟨[(.int .i64 i128), (.int .i64 i129), (.slice a130 n131 c132)]⟩) ∧ stPT q86 0 [(.int .i64 i121), (.int .i64 i122), (.slice a123 n124 c125)] w127 fun w133 => stPT q117 0 [(.int .i64 i128), (.int .i64 i129), (.slice a130 n131 c132)] w133 fun w134 => (straightedgeref16_Parts.H K fu).1 (some q1) (some q3) (some q5) (some q86) (some q117) 0 w134)) ∧ (newB [(.int .i64 0), (.int .i64 0), (.slice none 0 0)] 29 w6.drew fun q135 w136 => Kept w6.drew w136 ∧ (straightedgeref03_New.call [(.int .i64 i8), (.int .i64 i9)] w136 fun v137 w138 => ∃ i139 : Int, ∃ i140 : Int, ∃ (a141 : Option Addr) (n142 c143 : Nat), v137 = (.agg ⟨[(.int .i64 i139), (.int .i64 i140), (.slice a141 n142 c143)]⟩) ∧ Kept w136 w138 ∧ (straightedgeref03_New.call [(.int .i64 i10), (.int .i64 i11)] w138 fun v144 w145 => ∃ i146 : Int, ∃ i147 : Int, ∃ (a148 : Option Addr) (n149 c150 : Nat), v144 = (.agg ⟨[(.int .i64 i146), (.int .i64 i147), (.slice a148 n149 c150)]⟩) ∧ newB [(.int .i64 0), (.int .i64 0), (.slice none 0 0)] 29 w145 fun q151 w152 => Kept w145 w152 ∧ stPT q151 0 [(.int .i64 i139), (.int .i64 i140), (.slice a141 n142 c143)] w152 fun w153 => stPT q135 0 [(.int .i64 i146), (.int .i64 i147), (.slice a148 n149 c150)] w153 fun w154 => (straightedgeref16_Parts.H K fu).1 (some q1) (some q3) (some q5) (some q151) (some q135) 0 w154) ∧ (newB [(.int .i64 0), (.int .i64 0), (.slice none 0 0)] 29 w138 fun q155 w156 => Kept w138 w156 ∧ straightedgeref03_New.call [(.int .i64 i10), (.int .i64 i11)] w156 fun v157 w158 => ∃ i159 : Int, ∃ i160 : Int, ∃ (a161 : Option Addr) (n162 c163 : Nat), v157 = (.agg ⟨[(.int .i64 i159), (.int .i64 i160), (.slice a161 n162 c163)]⟩) ∧ stPT q155 0 [(.int .i64 i139), (.int .i64 i140), (.slice a141 n142 c143)] w158 fun w164 => stPT q135 0 [(.int .i64 i159), (.int .i64 i160), (.slice a161 n162 c163)] w164 fun w165 => (straightedgeref16_Parts.H K fu).1 (some q1) (some q3) (some q5) (some q155) (some q135) 0 w165)) ∧ (newB [(.int .i64 0), (.int .i64 0), (.slice none 0 0)] 29 w136 fun q166 w167 => Kept w136 w167 ∧ straightedgeref03_New.call [(.int .i64 i8), (.int .i64 i9)] w167 fun v168 w169 => ∃ i170 : Int, ∃ i171 : Int, ∃ (a172 : Option Addr) (n173 c174 : Nat), v168 = (.agg ⟨[(.int .i64 i170), (.int .i64 i171), (.slice a172 n173 c174)]⟩) ∧ Kept w167 w169 ∧ straightedgeref03_New.call [(.int .i64 i10), (.int .i64 i11)] w169 fun v175 w176 => ∃ i177 : Int, ∃ i178 : Int, ∃ (a179 : Option Addr) (n180 c181 : Nat), v175 = (.agg ⟨[(.int .i64 i177), (.int .i64 i178), (.slice a179 n180 c181)]⟩) ∧ stPT q166 0 [(.int .i64 i170), (.int .i64 i171), (.slice a172 n173 c174)] w176 fun w182 => stPT q135 0 [(.int .i64 i177), (.int .i64 i178), (.slice a179 n180 c181)] w182 fun w183 => (straightedgeref16_Parts.H K fu).1 (some q1) (some q3) (some q5) (some q166) (some q135) 0 w183))
def straightedgeref16_Parts.hd (K : Value → World → Prop) (n id : Nat) (t : List Value) (w : World) : Prop :=
  match id with
  | 3 => asP (t.getD 1 undef) fun z1 => asP (t.getD 2 undef) fun z2 => asP (t.getD 3 undef) fun z3 => asP (t.getD 4 undef) fun z4 => asP (t.getD 5 undef) fun z5 => asI .i64 (t.getD 6 undef) fun z6 => (straightedgeref16_Parts.H K n).1 z1 z2 z3 z4 z5 z6 w
  | 6 => asP (t.getD 1 undef) fun z1 => asP (t.getD 2 undef) fun z2 => asP (t.getD 3 undef) fun z3 => asP (t.getD 4 undef) fun z4 => asP (t.getD 5 undef) fun z5 => asI .i64 (t.getD 6 undef) fun z6 => asI .i64 (t.getD 7 undef) fun z7 => (straightedgeref16_Parts.H K n).2 z1 z2 z3 z4 z5 z6 z7 w
  | _ => False
theorem straightedgeref16_Parts.t3 (K : Value → World → Prop) (n : Nat) (z1 : Option Addr) (z2 : Option Addr) (z3 : Option Addr) (z4 : Option Addr) (z5 : Option Addr) (z6 : Int) (u : Nat → Value) (w : World) (h : (straightedgeref16_Parts.H K (n + 1)).1 z1 z2 z3 z4 z5 z6 w) :
    exT prog [3, 6] (straightedgeref16_Parts.hd K n) Try.f40 3 55 [(1, (.pointer z1)), (2, (.pointer z2)), (3, (.pointer z3)), (4, (.pointer z4)), (5, (.pointer z5)), (6, (.int .i64 z6))] u w K := Eq.mp (by kernel_rfl) h
theorem straightedgeref16_Parts.t6 (K : Value → World → Prop) (n : Nat) (z1 : Option Addr) (z2 : Option Addr) (z3 : Option Addr) (z4 : Option Addr) (z5 : Option Addr) (z6 : Int) (z7 : Int) (u : Nat → Value) (w : World) (h : (straightedgeref16_Parts.H K (n + 1)).2 z1 z2 z3 z4 z5 z6 z7 w) :
    exT prog [3, 6] (straightedgeref16_Parts.hd K n) Try.f40 6 55 [(1, (.pointer z1)), (2, (.pointer z2)), (3, (.pointer z3)), (4, (.pointer z4)), (5, (.pointer z5)), (6, (.int .i64 z6)), (7, (.int .i64 z7))] u w K := Eq.mp (by kernel_rfl) h
theorem straightedgeref16_Parts.ok (fu : Nat) {A0_0 : Int} {A0_1 : Int} {A0_2p : Option Addr} {A0_2n A0_2c : Nat} {w : World} {K : Value → World → Prop} (h : straightedgeref16_Parts.x fu A0_0 A0_1 A0_2p A0_2n A0_2c w K) : straightedgeref16_Parts.call [(.agg ⟨[(.int .i64 A0_0), (.int .i64 A0_1), (.slice A0_2p A0_2n A0_2c)]⟩)] w K := by
  refine callF_of_ex (cuts := [3, 6]) (H := straightedgeref16_Parts.hd K) (N := 55) Try.func40 rfl mixed (by kernel_rfl) ?_ ?_ ?_ rfl (n := fu) (Eq.mp (by kernel_rfl) h)
  · intro id hid; simp only [List.mem_cons, List.not_mem_nil, or_false] at hid; rcases hid with rfl | rfl
    · exact (by kernel_rfl : (stacks (bodyOf Try.f40) []).filter (headIs 3) = [at_ (bodyOf Try.f40) 3])
    · exact (by kernel_rfl : (stacks (bodyOf Try.f40) []).filter (headIs 6) = [at_ (bodyOf Try.f40) 6])
  · intro id t w h
    unfold straightedgeref16_Parts.hd at h
    split at h
    · obtain ⟨z1, _, h⟩ := asP_elim h
      obtain ⟨z2, _, h⟩ := asP_elim h
      obtain ⟨z3, _, h⟩ := asP_elim h
      obtain ⟨z4, _, h⟩ := asP_elim h
      obtain ⟨z5, _, h⟩ := asP_elim h
      obtain ⟨z6, _, h⟩ := asI_elim h
      exact h
    · obtain ⟨z1, _, h⟩ := asP_elim h
      obtain ⟨z2, _, h⟩ := asP_elim h
      obtain ⟨z3, _, h⟩ := asP_elim h
      obtain ⟨z4, _, h⟩ := asP_elim h
      obtain ⟨z5, _, h⟩ := asP_elim h
      obtain ⟨z6, _, h⟩ := asI_elim h
      obtain ⟨z7, _, h⟩ := asI_elim h
      exact h
    · exact h
  · intro n id hid t w hl h; simp only [List.mem_cons, List.not_mem_nil, or_false] at hid; rcases hid with rfl | rfl
    · replace h : asP (t.getD 1 undef) fun z1 => asP (t.getD 2 undef) fun z2 => asP (t.getD 3 undef) fun z3 => asP (t.getD 4 undef) fun z4 => asP (t.getD 5 undef) fun z5 => asI .i64 (t.getD 6 undef) fun z6 => (straightedgeref16_Parts.H K (n + 1)).1 z1 z2 z3 z4 z5 z6 w := h
      obtain ⟨z1, e1, h⟩ := asP_elim h
      obtain ⟨z2, e2, h⟩ := asP_elim h
      obtain ⟨z3, e3, h⟩ := asP_elim h
      obtain ⟨z4, e4, h⟩ := asP_elim h
      obtain ⟨z5, e5, h⟩ := asP_elim h
      obtain ⟨z6, e6, h⟩ := asI_elim h
      rw [mk_of hl [(1, (.pointer z1)), (2, (.pointer z2)), (3, (.pointer z3)), (4, (.pointer z4)), (5, (.pointer z5)), (6, (.int .i64 z6))] (by simp only [List.forall_mem_cons, List.not_mem_nil, false_implies, implies_true, and_true]; exact ⟨e1, e2, e3, e4, e5, e6⟩)]
      exact straightedgeref16_Parts.t3 K n z1 z2 z3 z4 z5 z6 _ w h
    · replace h : asP (t.getD 1 undef) fun z1 => asP (t.getD 2 undef) fun z2 => asP (t.getD 3 undef) fun z3 => asP (t.getD 4 undef) fun z4 => asP (t.getD 5 undef) fun z5 => asI .i64 (t.getD 6 undef) fun z6 => asI .i64 (t.getD 7 undef) fun z7 => (straightedgeref16_Parts.H K (n + 1)).2 z1 z2 z3 z4 z5 z6 z7 w := h
      obtain ⟨z1, e1, h⟩ := asP_elim h
      obtain ⟨z2, e2, h⟩ := asP_elim h
      obtain ⟨z3, e3, h⟩ := asP_elim h
      obtain ⟨z4, e4, h⟩ := asP_elim h
      obtain ⟨z5, e5, h⟩ := asP_elim h
      obtain ⟨z6, e6, h⟩ := asI_elim h
      obtain ⟨z7, e7, h⟩ := asI_elim h
      rw [mk_of hl [(1, (.pointer z1)), (2, (.pointer z2)), (3, (.pointer z3)), (4, (.pointer z4)), (5, (.pointer z5)), (6, (.int .i64 z6)), (7, (.int .i64 z7))] (by simp only [List.forall_mem_cons, List.not_mem_nil, false_implies, implies_true, and_true]; exact ⟨e1, e2, e3, e4, e5, e6, e7⟩)]
      exact straightedgeref16_Parts.t6 K n z1 z2 z3 z4 z5 z6 z7 _ w h
/-! the same, the local variables taken out -/
def straightedgeref16_Parts.e3 (K : Value → World → Prop) (h3 : Nat → Int → Int → Option Addr → Nat → Nat → Nat → Int → Int → Option Addr → Nat → Nat → Nat → Int → Int → Option Addr → Nat → Nat → Nat → Int → Int → Option Addr → Nat → Nat → Nat → Int → Int → Option Addr → Nat → Nat → Int → World → Prop) (h6 : Nat → Int → Int → Option Addr → Nat → Nat → Nat → Int → Int → Option Addr → Nat → Nat → Nat → Int → Int → Option Addr → Nat → Nat → Nat → Int → Int → Option Addr → Nat → Nat → Nat → Int → Int → Option Addr → Nat → Nat → Int → Int → World → Prop) (k1 : Nat) (y1_0 : Int) (y1_1 : Int) (y1_2p : Option Addr) (y1_2n y1_2c : Nat) (k2 : Nat) (y2_0 : Int) (y2_1 : Int) (y2_2p : Option Addr) (y2_2n y2_2c : Nat) (k3 : Nat) (y3_0 : Int) (y3_1 : Int) (y3_2p : Option Addr) (y3_2n y3_2c : Nat) (k4 : Nat) (y4_0 : Int) (y4_1 : Int) (y4_2p : Option Addr) (y4_2n y4_2c : Nat) (k5 : Nat) (y5_0 : Int) (y5_1 : Int) (y5_2p : Option Addr) (y5_2n y5_2c : Nat) (z6 : Int) (w : World) : Prop := br (decide (z6 < y1_0)) (h6 k1 y1_0 y1_1 y1_2p y1_2n y1_2c k2 y2_0 y2_1 y2_2p y2_2n y2_2c k3 y3_0 y3_1 y3_2p y3_2n y3_2c k4 y4_0 y4_1 y4_2p y4_2n y4_2c k5 y5_0 y5_1 y5_2p y5_2n y5_2c z6 0 w) (∀ w18 : World, Exc k2 w.drew w18 → ∀ w20 : World, Exc k3 w18 w20 → K (.tuple ⟨[(.agg ⟨[(.int .i64 y4_0), (.int .i64 y4_1), (.slice y4_2p y4_2n y4_2c)]⟩), (.agg ⟨[(.int .i64 y5_0), (.int .i64 y5_1), (.slice y5_2p y5_2n y5_2c)]⟩)]⟩) w20)
def straightedgeref16_Parts.e6 (K : Value → World → Prop) (h3 : Nat → Int → Int → Option Addr → Nat → Nat → Nat → Int → Int → Option Addr → Nat → Nat → Nat → Int → Int → Option Addr → Nat → Nat → Nat → Int → Int → Option Addr → Nat → Nat → Nat → Int → Int → Option Addr → Nat → Nat → Int → World → Prop) (h6 : Nat → Int → Int → Option Addr → Nat → Nat → Nat → Int → Int → Option Addr → Nat → Nat → Nat → Int → Int → Option Addr → Nat → Nat → Nat → Int → Int → Option Addr → Nat → Nat → Nat → Int → Int → Option Addr → Nat → Nat → Int → Int → World → Prop) (k1 : Nat) (y1_0 : Int) (y1_1 : Int) (y1_2p : Option Addr) (y1_2n y1_2c : Nat) (k2 : Nat) (y2_0 : Int) (y2_1 : Int) (y2_2p : Option Addr) (y2_2n y2_2c : Nat) (k3 : Nat) (y3_0 : Int) (y3_1 : Int) (y3_2p : Option Addr) (y3_2n y3_2c : Nat) (k4 : Nat) (y4_0 : Int) (y4_1 : Int) (y4_2p : Option Addr) (y4_2n y4_2c : Nat) (k5 : Nat) (y5_0 : Int) (y5_1 : Int) (y5_2p : Option Addr) (y5_2n y5_2c : Nat) (z6 : Int) (z7 : Int) (w : World) : Prop := br (decide (z7 < y1_0)) (br (decide (z6 > z7)) (straightedgeref03_M_At.call [(.agg ⟨[(.int .i64 y1_0), (.int .i64 y1_1), (.slice y1_2p y1_2n y1_2c)]⟩), (.int .i64 z6), (.int .i64 z7)] w.drew fun v16 w17 => Stay [k1, k2, k3, k4, k5] w.drew w17 ∧ ∃ x18 : Nat, v16 = (.float .f64 x18) ∧ Kept w.drew w17 ∧ straightedgeref03_M_Set.call [(.agg ⟨[(.int .i64 y4_0), (.int .i64 y4_1), (.slice y4_2p y4_2n y4_2c)]⟩), (.int .i64 z6), (.int .i64 z7), (.float .f64 x18)] w17 fun v19 w20 => Stay [k1, k2, k3, k4, k5] w17 w20 ∧ v19 = (.tuple ⟨[]⟩) ∧ h6 k1 y1_0 y1_1 y1_2p y1_2n y1_2c k2 y2_0 y2_1 y2_2p y2_2n y2_2c k3 y3_0 y3_1 y3_2p y3_2n y3_2c k4 y4_0 y4_1 y4_2p y4_2n y4_2c k5 y5_0 y5_1 y5_2p y5_2n y5_2c z6 (IntKind.i64.wrap (z7 + 1)) w20) (straightedgeref03_M_At.call [(.agg ⟨[(.int .i64 y1_0), (.int .i64 y1_1), (.slice y1_2p y1_2n y1_2c)]⟩), (.int .i64 z6), (.int .i64 z7)] w.drew fun v34 w35 => Stay [k1, k2, k3, k4, k5] w.drew w35 ∧ ∃ x36 : Nat, v34 = (.float .f64 x36) ∧ Kept w.drew w35 ∧ straightedgeref03_M_Set.call [(.agg ⟨[(.int .i64 y5_0), (.int .i64 y5_1), (.slice y5_2p y5_2n y5_2c)]⟩), (.int .i64 z6), (.int .i64 z7), (.float .f64 x36)] w35 fun v37 w38 => Stay [k1, k2, k3, k4, k5] w35 w38 ∧ v37 = (.tuple ⟨[]⟩) ∧ h6 k1 y1_0 y1_1 y1_2p y1_2n y1_2c k2 y2_0 y2_1 y2_2p y2_2n y2_2c k3 y3_0 y3_1 y3_2p y3_2n y3_2c k4 y4_0 y4_1 y4_2p y4_2n y4_2c k5 y5_0 y5_1 y5_2p y5_2n y5_2c z6 (IntKind.i64.wrap (z7 + 1)) w38)) (straightedgeref03_M_Set.call [(.agg ⟨[(.int .i64 y4_0), (.int .i64 y4_1), (.slice y4_2p y4_2n y4_2c)]⟩), (.int .i64 z6), (.int .i64 z6), (.float .f64 4607182418800017408)] w fun v45 w46 => Stay [k1, k2, k3, k4, k5] w w46 ∧ v45 = (.tuple ⟨[]⟩) ∧ h3 k1 y1_0 y1_1 y1_2p y1_2n y1_2c k2 y2_0 y2_1 y2_2p y2_2n y2_2c k3 y3_0 y3_1 y3_2p y3_2n y3_2c k4 y4_0 y4_1 y4_2p y4_2n y4_2c k5 y5_0 y5_1 y5_2p y5_2n y5_2c (IntKind.i64.wrap (z6 + 1)) w46)
def straightedgeref16_Parts.I (K : Value → World → Prop) : Nat → (Nat → Int → Int → Option Addr → Nat → Nat → Nat → Int → Int → Option Addr → Nat → Nat → Nat → Int → Int → Option Addr → Nat → Nat → Nat → Int → Int → Option Addr → Nat → Nat → Nat → Int → Int → Option Addr → Nat → Nat → Int → World → Prop) × (Nat → Int → Int → Option Addr → Nat → Nat → Nat → Int → Int → Option Addr → Nat → Nat → Nat → Int → Int → Option Addr → Nat → Nat → Nat → Int → Int → Option Addr → Nat → Nat → Nat → Int → Int → Option Addr → Nat → Nat → Int → Int → World → Prop)
  | 0 => (fun _ _ _ _ _ _ _ _ _ _ _ _ _ _ _ _ _ _ _ _ _ _ _ _ _ _ _ _ _ _ _ _ => False, fun _ _ _ _ _ _ _ _ _ _ _ _ _ _ _ _ _ _ _ _ _ _ _ _ _ _ _ _ _ _ _ _ _ => False)
  | fu + 1 => (straightedgeref16_Parts.e3 K (straightedgeref16_Parts.I K fu).1 (straightedgeref16_Parts.I K fu).2, straightedgeref16_Parts.e6 K (straightedgeref16_Parts.I K fu).1 (straightedgeref16_Parts.I K fu).2)
def straightedgeref16_Parts.s (fu : Nat) (A0_0 : Int) (A0_1 : Int) (A0_2p : Option Addr) (A0_2n A0_2c : Nat) (w : World) (K : Value → World → Prop) : Prop := ∀ (k3 : Nat) (w2 : World), k3 = w.heap.size → k3 < w2.heap.size → Ext w w2 → ∀ (k7 : Nat) (w6 : World), k7 = w2.heap.size → k7 < w6.heap.size → Ext w2 w6 → ∀ (k11 : Nat) (w10 : World), k11 = w6.heap.size → k11 < w10.heap.size → Ext w6 w10 → ∀ w18 : World, Ext w10.drew w18 → straightedgeref03_New.call [(.int .i64 A0_0), (.int .i64 A0_0)] w18 fun v19 w20 => Ext w18 w20 ∧ ∃ i21 : Int, ∃ i22 : Int, ∃ (a23 : Option Addr) (n24 c25 : Nat), v19 = (.agg ⟨[(.int .i64 i21), (.int .i64 i22), (.slice a23 n24 c25)]⟩) ∧ ∀ w26 : World, Ext w20 w26 → straightedgeref03_New.call [(.int .i64 A0_0), (.int .i64 A0_0)] w26 fun v27 w28 => Ext w26 w28 ∧ ∃ i29 : Int, ∃ i30 : Int, ∃ (a31 : Option Addr) (n32 c33 : Nat), v27 = (.agg ⟨[(.int .i64 i29), (.int .i64 i30), (.slice a31 n32 c33)]⟩) ∧ ∀ w34 : World, Ext w28 w34 → ∀ k36 : Nat, w10.drew.heap.size ≤ k36 → k36 < w34.heap.size → (k36 < w18.heap.size ∨ w20.heap.size ≤ k36) → (k36 < w26.heap.size ∨ w28.heap.size ≤ k36) → ∀ k39 : Nat, w10.drew.heap.size ≤ k39 → k39 < w34.heap.size → (k39 < w18.heap.size ∨ w20.heap.size ≤ k39) → (k39 < w26.heap.size ∨ w28.heap.size ≤ k39) → k36 ≠ k39 → ∀ w41 : World, Exc k36 w34 w41 → ∀ w42 : World, Exc k39 w41 w42 → (straightedgeref16_Parts.I K fu).1 k3 A0_0 A0_1 A0_2p A0_2n A0_2c k7 0 0 none 0 0 k11 0 0 none 0 0 k36 i21 i22 a23 n24 c25 k39 i29 i30 a31 n32 c33 0 w42
theorem straightedgeref16_Parts.b3_s {K : Value → World → Prop} {x3 : Option Addr → Option Addr → Option Addr → Option Addr → Option Addr → Int → World → Prop} {x6 : Option Addr → Option Addr → Option Addr → Option Addr → Option Addr → Int → Int → World → Prop} {s3 : Nat → Int → Int → Option Addr → Nat → Nat → Nat → Int → Int → Option Addr → Nat → Nat → Nat → Int → Int → Option Addr → Nat → Nat → Nat → Int → Int → Option Addr → Nat → Nat → Nat → Int → Int → Option Addr → Nat → Nat → Int → World → Prop} {s6 : Nat → Int → Int → Option Addr → Nat → Nat → Nat → Int → Int → Option Addr → Nat → Nat → Nat → Int → Int → Option Addr → Nat → Nat → Nat → Int → Int → Option Addr → Nat → Nat → Nat → Int → Int → Option Addr → Nat → Nat → Int → Int → World → Prop} (i3 : ∀ {q1 : Addr} {y1_0 : Int} {y1_1 : Int} {y1_2p : Option Addr} {y1_2n y1_2c : Nat} {q2 : Addr} {y2_0 : Int} {y2_1 : Int} {y2_2p : Option Addr} {y2_2n y2_2c : Nat} {q3 : Addr} {y3_0 : Int} {y3_1 : Int} {y3_2p : Option Addr} {y3_2n y3_2c : Nat} {q4 : Addr} {y4_0 : Int} {y4_1 : Int} {y4_2p : Option Addr} {y4_2n y4_2c : Nat} {q5 : Addr} {y5_0 : Int} {y5_1 : Int} {y5_2p : Option Addr} {y5_2n y5_2c : Nat} {z6 : Int} {w : World}, s3 q1.block y1_0 y1_1 y1_2p y1_2n y1_2c q2.block y2_0 y2_1 y2_2p y2_2n y2_2c q3.block y3_0 y3_1 y3_2p y3_2n y3_2c q4.block y4_0 y4_1 y4_2p y4_2n y4_2c q5.block y5_0 y5_1 y5_2p y5_2n y5_2c z6 w → St w [(q1, [(.int .i64 y1_0), (.int .i64 y1_1), (.slice y1_2p y1_2n y1_2c)]), (q2, [(.int .i64 y2_0), (.int .i64 y2_1), (.slice y2_2p y2_2n y2_2c)]), (q3, [(.int .i64 y3_0), (.int .i64 y3_1), (.slice y3_2p y3_2n y3_2c)]), (q4, [(.int .i64 y4_0), (.int .i64 y4_1), (.slice y4_2p y4_2n y4_2c)]), (q5, [(.int .i64 y5_0), (.int .i64 y5_1), (.slice y5_2p y5_2n y5_2c)])] → x3 (some q1) (some q2) (some q3) (some q4) (some q5) z6 w) (i6 : ∀ {q1 : Addr} {y1_0 : Int} {y1_1 : Int} {y1_2p : Option Addr} {y1_2n y1_2c : Nat} {q2 : Addr} {y2_0 : Int} {y2_1 : Int} {y2_2p : Option Addr} {y2_2n y2_2c : Nat} {q3 : Addr} {y3_0 : Int} {y3_1 : Int} {y3_2p : Option Addr} {y3_2n y3_2c : Nat} {q4 : Addr} {y4_0 : Int} {y4_1 : Int} {y4_2p : Option Addr} {y4_2n y4_2c : Nat} {q5 : Addr} {y5_0 : Int} {y5_1 : Int} {y5_2p : Option Addr} {y5_2n y5_2c : Nat} {z6 : Int} {z7 : Int} {w : World}, s6 q1.block y1_0 y1_1 y1_2p y1_2n y1_2c q2.block y2_0 y2_1 y2_2p y2_2n y2_2c q3.block y3_0 y3_1 y3_2p y3_2n y3_2c q4.block y4_0 y4_1 y4_2p y4_2n y4_2c q5.block y5_0 y5_1 y5_2p y5_2n y5_2c z6 z7 w → St w [(q1, [(.int .i64 y1_0), (.int .i64 y1_1), (.slice y1_2p y1_2n y1_2c)]), (q2, [(.int .i64 y2_0), (.int .i64 y2_1), (.slice y2_2p y2_2n y2_2c)]), (q3, [(.int .i64 y3_0), (.int .i64 y3_1), (.slice y3_2p y3_2n y3_2c)]), (q4, [(.int .i64 y4_0), (.int .i64 y4_1), (.slice y4_2p y4_2n y4_2c)]), (q5, [(.int .i64 y5_0), (.int .i64 y5_1), (.slice y5_2p y5_2n y5_2c)])] → x6 (some q1) (some q2) (some q3) (some q4) (some q5) z6 z7 w) {q1 : Addr} {y1_0 : Int} {y1_1 : Int} {y1_2p : Option Addr} {y1_2n y1_2c : Nat} {q2 : Addr} {y2_0 : Int} {y2_1 : Int} {y2_2p : Option Addr} {y2_2n y2_2c : Nat} {q3 : Addr} {y3_0 : Int} {y3_1 : Int} {y3_2p : Option Addr} {y3_2n y3_2c : Nat} {q4 : Addr} {y4_0 : Int} {y4_1 : Int} {y4_2p : Option Addr} {y4_2n y4_2c : Nat} {q5 : Addr} {y5_0 : Int} {y5_1 : Int} {y5_2p : Option Addr} {y5_2n y5_2c : Nat} {z6 : Int} {w : World} (h : straightedgeref16_Parts.e3 K s3 s6 q1.block y1_0 y1_1 y1_2p y1_2n y1_2c q2.block y2_0 y2_1 y2_2p y2_2n y2_2c q3.block y3_0 y3_1 y3_2p y3_2n y3_2c q4.block y4_0 y4_1 y4_2p y4_2n y4_2c q5.block y5_0 y5_1 y5_2p y5_2n y5_2c z6 w) (st : St w [(q1, [(.int .i64 y1_0), (.int .i64 y1_1), (.slice y1_2p y1_2n y1_2c)]), (q2, [(.int .i64 y2_0), (.int .i64 y2_1), (.slice y2_2p y2_2n y2_2c)]), (q3, [(.int .i64 y3_0), (.int .i64 y3_1), (.slice y3_2p y3_2n y3_2c)]), (q4, [(.int .i64 y4_0), (.int .i64 y4_1), (.slice y4_2p y4_2n y4_2c)]), (q5, [(.int .i64 y5_0), (.int .i64 y5_1), (.slice y5_2p y5_2n y5_2c)])]) : straightedgeref16_Parts.b3 K x3 x6 (some q1) (some q2) (some q3) (some q4) (some q5) z6 w := by
  unfold straightedgeref16_Parts.b3
  unfold straightedgeref16_Parts.e3 at h
  refine ptrSome_intro rfl ?_
  refine rd_i64.bx 0 0 st rfl rfl rfl ?_
  refine br_mono (fun h => ?_) (fun h => ?_) h
  · exact i6 h (st.pick [0, 1, 2, 3, 4] (by decide))
  · replace st := st.drew
    have st3 := st
    refine ⟨(fun b => b ≠ q2.block), ?_⟩
    refine ptrSome_intro rfl ?_
    refine ⟨St.nb 3 1 0 st3 rfl rfl (by decide), ?_⟩
    refine rd_i64_i64_l.bx 3 0 st3 rfl rfl rfl rfl rfl ?_
    refine ptrSome_intro rfl ?_
    refine ⟨St.nb 4 1 0 st3 rfl rfl (by decide), ?_⟩
    refine rd_i64_i64_l.bx 4 0 st3 rfl rfl rfl rfl rfl ?_
    refine ptrSome_intro rfl ?_
    refine St.put 1 0 st rfl rfl rfl rfl (fun w18 he st => ?_)
    replace h := h w18 he
    refine ⟨he.keptS (fun b hb => hb), ?_⟩
    refine ptrSome_intro rfl ?_
    refine St.put 2 0 st rfl rfl rfl rfl (fun w20 he st => ?_)
    replace h := h w20 he
    refine ptrSome_intro rfl ?_
    refine rd_i64_i64_l.bx 1 0 st rfl rfl rfl rfl rfl ?_
    refine ptrSome_intro rfl ?_
    refine rd_i64_i64_l.bx 2 0 st rfl rfl rfl rfl rfl ?_
    exact h
theorem straightedgeref16_Parts.b6_s {K : Value → World → Prop} {x3 : Option Addr → Option Addr → Option Addr → Option Addr → Option Addr → Int → World → Prop} {x6 : Option Addr → Option Addr → Option Addr → Option Addr → Option Addr → Int → Int → World → Prop} {s3 : Nat → Int → Int → Option Addr → Nat → Nat → Nat → Int → Int → Option Addr → Nat → Nat → Nat → Int → Int → Option Addr → Nat → Nat → Nat → Int → Int → Option Addr → Nat → Nat → Nat → Int → Int → Option Addr → Nat → Nat → Int → World → Prop} {s6 : Nat → Int → Int → Option Addr → Nat → Nat → Nat → Int → Int → Option Addr → Nat → Nat → Nat → Int → Int → Option Addr → Nat → Nat → Nat → Int → Int → Option Addr → Nat → Nat → Nat → Int → Int → Option Addr → Nat → Nat → Int → Int → World → Prop} (i3 : ∀ {q1 : Addr} {y1_0 : Int} {y1_1 : Int} {y1_2p : Option Addr} {y1_2n y1_2c : Nat} {q2 : Addr} {y2_0 : Int} {y2_1 : Int} {y2_2p : Option Addr} {y2_2n y2_2c : Nat} {q3 : Addr} {y3_0 : Int} {y3_1 : Int} {y3_2p : Option Addr} {y3_2n y3_2c : Nat} {q4 : Addr} {y4_0 : Int} {y4_1 : Int} {y4_2p : Option Addr} {y4_2n y4_2c : Nat} {q5 : Addr} {y5_0 : Int} {y5_1 : Int} {y5_2p : Option Addr} {y5_2n y5_2c : Nat} {z6 : Int} {w : World}, s3 q1.block y1_0 y1_1 y1_2p y1_2n y1_2c q2.block y2_0 y2_1 y2_2p y2_2n y2_2c q3.block y3_0 y3_1 y3_2p y3_2n y3_2c q4.block y4_0 y4_1 y4_2p y4_2n y4_2c q5.block y5_0 y5_1 y5_2p y5_2n y5_2c z6 w → St w [(q1, [(.int .i64 y1_0), (.int .i64 y1_1), (.slice y1_2p y1_2n y1_2c)]), (q2, [(.int .i64 y2_0), (.int .i64 y2_1), (.slice y2_2p y2_2n y2_2c)]), (q3, [(.int .i64 y3_0), (.int .i64 y3_1), (.slice y3_2p y3_2n y3_2c)]), (q4, [(.int .i64 y4_0), (.int .i64 y4_1), (.slice y4_2p y4_2n y4_2c)]), (q5, [(.int .i64 y5_0), (.int .i64 y5_1), (.slice y5_2p y5_2n y5_2c)])] → x3 (some q1) (some q2) (some q3) (some q4) (some q5) z6 w) (i6 : ∀ {q1 : Addr} {y1_0 : Int} {y1_1 : Int} {y1_2p : Option Addr} {y1_2n y1_2c : Nat} {q2 : Addr} {y2_0 : Int} {y2_1 : Int} {y2_2p : Option Addr} {y2_2n y2_2c : Nat} {q3 : Addr} {y3_0 : Int} {y3_1 : Int} {y3_2p : Option Addr} {y3_2n y3_2c : Nat} {q4 : Addr} {y4_0 : Int} {y4_1 : Int} {y4_2p : Option Addr} {y4_2n y4_2c : Nat} {q5 : Addr} {y5_0 : Int} {y5_1 : Int} {y5_2p : Option Addr} {y5_2n y5_2c : Nat} {z6 : Int} {z7 : Int} {w : World}, s6 q1.block y1_0 y1_1 y1_2p y1_2n y1_2c q2.block y2_0 y2_1 y2_2p y2_2n y2_2c q3.block y3_0 y3_1 y3_2p y3_2n y3_2c q4.block y4_0 y4_1 y4_2p y4_2n y4_2c q5.block y5_0 y5_1 y5_2p y5_2n y5_2c z6 z7 w → St w [(q1, [(.int .i64 y1_0), (.int .i64 y1_1), (.slice y1_2p y1_2n y1_2c)]), (q2, [(.int .i64 y2_0), (.int .i64 y2_1), (.slice y2_2p y2_2n y2_2c)]), (q3, [(.int .i64 y3_0), (.int .i64 y3_1), (.slice y3_2p y3_2n y3_2c)]), (q4, [(.int .i64 y4_0), (.int .i64 y4_1), (.slice y4_2p y4_2n y4_2c)]), (q5, [(.int .i64 y5_0), (.int .i64 y5_1), (.slice y5_2p y5_2n y5_2c)])] → x6 (some q1) (some q2) (some q3) (some q4) (some q5) z6 z7 w) {q1 : Addr} {y1_0 : Int} {y1_1 : Int} {y1_2p : Option Addr} {y1_2n y1_2c : Nat} {q2 : Addr} {y2_0 : Int} {y2_1 : Int} {y2_2p : Option Addr} {y2_2n y2_2c : Nat} {q3 : Addr} {y3_0 : Int} {y3_1 : Int} {y3_2p : Option Addr} {y3_2n y3_2c : Nat} {q4 : Addr} {y4_0 : Int} {y4_1 : Int} {y4_2p : Option Addr} {y4_2n y4_2c : Nat} {q5 : Addr} {y5_0 : Int} {y5_1 : Int} {y5_2p : Option Addr} {y5_2n y5_2c : Nat} {z6 : Int} {z7 : Int} {w : World} (h : straightedgeref16_Parts.e6 K s3 s6 q1.block y1_0 y1_1 y1_2p y1_2n y1_2c q2.block y2_0 y2_1 y2_2p y2_2n y2_2c q3.block y3_0 y3_1 y3_2p y3_2n y3_2c q4.block y4_0 y4_1 y4_2p y4_2n y4_2c q5.block y5_0 y5_1 y5_2p y5_2n y5_2c z6 z7 w) (st : St w [(q1, [(.int .i64 y1_0), (.int .i64 y1_1), (.slice y1_2p y1_2n y1_2c)]), (q2, [(.int .i64 y2_0), (.int .i64 y2_1), (.slice y2_2p y2_2n y2_2c)]), (q3, [(.int .i64 y3_0), (.int .i64 y3_1), (.slice y3_2p y3_2n y3_2c)]), (q4, [(.int .i64 y4_0), (.int .i64 y4_1), (.slice y4_2p y4_2n y4_2c)]), (q5, [(.int .i64 y5_0), (.int .i64 y5_1), (.slice y5_2p y5_2n y5_2c)])]) : straightedgeref16_Parts.b6 K x3 x6 (some q1) (some q2) (some q3) (some q4) (some q5) z6 z7 w := by
  unfold straightedgeref16_Parts.b6
  unfold straightedgeref16_Parts.e6 at h
  refine ptrSome_intro rfl ?_
  refine rd_i64.bx 0 0 st rfl rfl rfl ?_
  refine br_mono (fun h => ?_) (fun h => ?_) h
  · refine br_mono (fun h => ?_) (fun h => ?_) h
    · replace st := st.drew
      have st3 := st
      refine ptrSome_intro rfl ?_
      refine rd_i64_i64_l.bx 3 0 st3 rfl rfl rfl rfl rfl ?_
      refine ptrSome_intro rfl ?_
      refine rd_i64_i64_l.bx 0 0 st3 rfl rfl rfl rfl rfl ?_
      refine CallF.mono h (fun v16 w17 h => ?_)
      obtain ⟨hK, h⟩ := h
      replace st := st.stay hK
      obtain ⟨x18, h⟩ := h
      refine ⟨x18, ?_⟩
      refine And.imp_right (fun h => ?_) h
      refine And.imp_right (fun h => ?_) h
      refine CallF.mono h (fun v19 w20 h => ?_)
      obtain ⟨hK, h⟩ := h
      replace st := st.stay hK
      refine And.imp_right (fun h => ?_) h
      exact i6 h (st.pick [0, 1, 2, 3, 4] (by decide))
    · replace st := st.drew
      have st21 := st
      refine ptrSome_intro rfl ?_
      refine rd_i64_i64_l.bx 4 0 st21 rfl rfl rfl rfl rfl ?_
      refine ptrSome_intro rfl ?_
      refine rd_i64_i64_l.bx 0 0 st21 rfl rfl rfl rfl rfl ?_
      refine CallF.mono h (fun v34 w35 h => ?_)
      obtain ⟨hK, h⟩ := h
      replace st := st.stay hK
      obtain ⟨x36, h⟩ := h
      refine ⟨x36, ?_⟩
      refine And.imp_right (fun h => ?_) h
      refine And.imp_right (fun h => ?_) h
      refine CallF.mono h (fun v37 w38 h => ?_)
      obtain ⟨hK, h⟩ := h
      replace st := st.stay hK
      refine And.imp_right (fun h => ?_) h
      exact i6 h (st.pick [0, 1, 2, 3, 4] (by decide))
  · refine ptrSome_intro rfl ?_
    refine rd_i64_i64_l.bx 3 0 st rfl rfl rfl rfl rfl ?_
    refine CallF.mono h (fun v45 w46 h => ?_)
    obtain ⟨hK, h⟩ := h
    replace st := st.stay hK
    refine And.imp_right (fun h => ?_) h
    exact i3 h (st.pick [0, 1, 2, 3, 4] (by decide))
theorem straightedgeref16_Parts.H_s {K : Value → World → Prop} (fu : Nat) : (∀ {q1 : Addr} {y1_0 : Int} {y1_1 : Int} {y1_2p : Option Addr} {y1_2n y1_2c : Nat} {q2 : Addr} {y2_0 : Int} {y2_1 : Int} {y2_2p : Option Addr} {y2_2n y2_2c : Nat} {q3 : Addr} {y3_0 : Int} {y3_1 : Int} {y3_2p : Option Addr} {y3_2n y3_2c : Nat} {q4 : Addr} {y4_0 : Int} {y4_1 : Int} {y4_2p : Option Addr} {y4_2n y4_2c : Nat} {q5 : Addr} {y5_0 : Int} {y5_1 : Int} {y5_2p : Option Addr} {y5_2n y5_2c : Nat} {z6 : Int} {w : World}, (straightedgeref16_Parts.I K fu).1 q1.block y1_0 y1_1 y1_2p y1_2n y1_2c q2.block y2_0 y2_1 y2_2p y2_2n y2_2c q3.block y3_0 y3_1 y3_2p y3_2n y3_2c q4.block y4_0 y4_1 y4_2p y4_2n y4_2c q5.block y5_0 y5_1 y5_2p y5_2n y5_2c z6 w → St w [(q1, [(.int .i64 y1_0), (.int .i64 y1_1), (.slice y1_2p y1_2n y1_2c)]), (q2, [(.int .i64 y2_0), (.int .i64 y2_1), (.slice y2_2p y2_2n y2_2c)]), (q3, [(.int .i64 y3_0), (.int .i64 y3_1), (.slice y3_2p y3_2n y3_2c)]), (q4, [(.int .i64 y4_0), (.int .i64 y4_1), (.slice y4_2p y4_2n y4_2c)]), (q5, [(.int .i64 y5_0), (.int .i64 y5_1), (.slice y5_2p y5_2n y5_2c)])] → (straightedgeref16_Parts.H K fu).1 (some q1) (some q2) (some q3) (some q4) (some q5) z6 w) ∧ (∀ {q1 : Addr} {y1_0 : Int} {y1_1 : Int} {y1_2p : Option Addr} {y1_2n y1_2c : Nat} {q2 : Addr} {y2_0 : Int} {y2_1 : Int} {y2_2p : Option Addr} {y2_2n y2_2c : Nat} {q3 : Addr} {y3_0 : Int} {y3_1 : Int} {y3_2p : Option Addr} {y3_2n y3_2c : Nat} {q4 : Addr} {y4_0 : Int} {y4_1 : Int} {y4_2p : Option Addr} {y4_2n y4_2c : Nat} {q5 : Addr} {y5_0 : Int} {y5_1 : Int} {y5_2p : Option Addr} {y5_2n y5_2c : Nat} {z6 : Int} {z7 : Int} {w : World}, (straightedgeref16_Parts.I K fu).2 q1.block y1_0 y1_1 y1_2p y1_2n y1_2c q2.block y2_0 y2_1 y2_2p y2_2n y2_2c q3.block y3_0 y3_1 y3_2p y3_2n y3_2c q4.block y4_0 y4_1 y4_2p y4_2n y4_2c q5.block y5_0 y5_1 y5_2p y5_2n y5_2c z6 z7 w → St w [(q1, [(.int .i64 y1_0), (.int .i64 y1_1), (.slice y1_2p y1_2n y1_2c)]), (q2, [(.int .i64 y2_0), (.int .i64 y2_1), (.slice y2_2p y2_2n y2_2c)]), (q3, [(.int .i64 y3_0), (.int .i64 y3_1), (.slice y3_2p y3_2n y3_2c)]), (q4, [(.int .i64 y4_0), (.int .i64 y4_1), (.slice y4_2p y4_2n y4_2c)]), (q5, [(.int .i64 y5_0), (.int .i64 y5_1), (.slice y5_2p y5_2n y5_2c)])] → (straightedgeref16_Parts.H K fu).2 (some q1) (some q2) (some q3) (some q4) (some q5) z6 z7 w) := by
  induction fu with
  | zero => exact ⟨fun h _ => False.elim h, fun h _ => False.elim h⟩
  | succ fu ih => exact ⟨fun h st => straightedgeref16_Parts.b3_s (K := K) (x3 := (straightedgeref16_Parts.H K fu).1) (s3 := (straightedgeref16_Parts.I K fu).1) (x6 := (straightedgeref16_Parts.H K fu).2) (s6 := (straightedgeref16_Parts.I K fu).2) ih.1 ih.2 h st, fun h st => straightedgeref16_Parts.b6_s (K := K) (x3 := (straightedgeref16_Parts.H K fu).1) (s3 := (straightedgeref16_Parts.I K fu).1) (x6 := (straightedgeref16_Parts.H K fu).2) (s6 := (straightedgeref16_Parts.I K fu).2) ih.1 ih.2 h st⟩
theorem straightedgeref16_Parts.os (fu : Nat) {A0_0 : Int} {A0_1 : Int} {A0_2p : Option Addr} {A0_2n A0_2c : Nat} {w : World} {K : Value → World → Prop} (h : straightedgeref16_Parts.s fu A0_0 A0_1 A0_2p A0_2n A0_2c w K) : straightedgeref16_Parts.call [(.agg ⟨[(.int .i64 A0_0), (.int .i64 A0_1), (.slice A0_2p A0_2n A0_2c)]⟩)] w K := by
  refine straightedgeref16_Parts.ok fu ?_
  have st := St.nil w
  unfold straightedgeref16_Parts.x
  unfold straightedgeref16_Parts.s at h
  refine St.new (St.nil _) (fun q1 w2 hk hlt he st => ?_)
  replace h := h q1.block w2 hk hlt he
  refine St.new st (fun q5 w6 hk hlt he st => ?_)
  replace h := h q5.block w6 hk hlt he
  refine St.new st (fun q9 w10 hk hlt he st => ?_)
  replace h := h q9.block w10 hk hlt he
  replace st := st.drew
  have st13 := st
  refine rd_i64.bx 2 0 st13 rfl rfl rfl ?_
  refine rd_i64.bx 2 0 st13 rfl rfl rfl ?_
  refine rd_i64.bx 2 0 st13 rfl rfl rfl ?_
  refine rd_i64.bx 2 0 st13 rfl rfl rfl ?_
  refine ⟨?_, ?_, ?_⟩
  · replace h := h _ (Ext.refl _)
    refine CallF.mono h (fun v19 w20 h => ?_)
    obtain ⟨hE4, h⟩ := h
    replace st := st.ext hE4
    obtain ⟨i21, i22, a23, n24, c25, h⟩ := h
    refine ⟨i21, i22, a23, n24, c25, ?_⟩
    refine And.imp_right (fun h => ?_) h
    refine ⟨hE4.kept, ?_⟩
    refine ⟨?_, ?_, ?_⟩
    · replace h := h _ (Ext.refl _)
      refine CallF.mono h (fun v27 w28 h => ?_)
      obtain ⟨hE9, h⟩ := h
      replace st := st.ext hE9
      obtain ⟨i29, i30, a31, n32, c33, h⟩ := h
      refine ⟨i29, i30, a31, n32, c33, ?_⟩
      refine And.imp_right (fun h => ?_) h
      refine ⟨?_, ?_⟩
      · refine St.new st (fun q37 w43 hk10 hlt10 he10 st => ?_)
        refine ⟨he10.kept, ?_⟩
        refine St.new st (fun q40 w44 hk11 hlt11 he11 st => ?_)
        refine ⟨he11.kept, ?_⟩
        replace h := h _ (Ext.trans he10 he11) q37.block (Nat.le_trans ((Ext.trans hE4 hE9)).size (Nat.le_of_eq hk10.symm)) (st.row (i := 1) rfl).lt (.inr (Nat.le_trans (hE9).size (Nat.le_of_eq hk10.symm))) (.inr (Nat.le_trans ((Ext.refl _)).size (Nat.le_of_eq hk10.symm))) q40.block (Nat.le_trans ((Ext.trans (Ext.trans hE4 hE9) he10)).size (Nat.le_of_eq hk11.symm)) (st.row (i := 0) rfl).lt (.inr (Nat.le_trans ((Ext.trans hE9 he10)).size (Nat.le_of_eq hk11.symm))) (.inr (Nat.le_trans (he10).size (Nat.le_of_eq hk11.symm))) (St.nb 1 0 0 st rfl rfl (by decide))
        replace st := st.pick [1, 0, 2, 3, 4] (by decide)
        refine St.put 0 0 st rfl rfl rfl rfl (fun w41 he st => ?_)
        replace h := h w41 he
        refine St.put 1 0 st rfl rfl rfl rfl (fun w42 he st => ?_)
        replace h := h w42 he
        exact (straightedgeref16_Parts.H_s fu).1 h (st.pick [4, 3, 2, 0, 1] (by decide))
      · refine St.new st (fun q40 w45 hk11 hlt11 he11 st => ?_)
        refine ⟨he11.kept, ?_⟩
        refine St.new st (fun q37 w46 hk10 hlt10 he10 st => ?_)
        refine ⟨he10.kept, ?_⟩
        replace h := h _ (Ext.trans he11 he10) q37.block (Nat.le_trans ((Ext.trans (Ext.trans hE4 hE9) he11)).size (Nat.le_of_eq hk10.symm)) (st.row (i := 0) rfl).lt (.inr (Nat.le_trans ((Ext.trans hE9 he11)).size (Nat.le_of_eq hk10.symm))) (.inr (Nat.le_trans (he11).size (Nat.le_of_eq hk10.symm))) q40.block (Nat.le_trans ((Ext.trans hE4 hE9)).size (Nat.le_of_eq hk11.symm)) (st.row (i := 1) rfl).lt (.inr (Nat.le_trans (hE9).size (Nat.le_of_eq hk11.symm))) (.inr (Nat.le_trans ((Ext.refl _)).size (Nat.le_of_eq hk11.symm))) (St.nb 0 1 0 st rfl rfl (by decide))
        refine St.put 0 0 st rfl rfl rfl rfl (fun w41 he st => ?_)
        replace h := h w41 he
        refine St.put 1 0 st rfl rfl rfl rfl (fun w42 he st => ?_)
        replace h := h w42 he
        exact (straightedgeref16_Parts.H_s fu).1 h (st.pick [4, 3, 2, 0, 1] (by decide))
    · refine St.new st (fun q37 w47 hk10 hlt10 he10 st => ?_)
      refine ⟨he10.kept, ?_⟩
      refine ⟨?_, ?_⟩
      · replace h := h _ he10
        refine CallF.mono h (fun v27 w28 h => ?_)
        obtain ⟨hE9, h⟩ := h
        replace st := st.ext hE9
        obtain ⟨i29, i30, a31, n32, c33, h⟩ := h
        refine ⟨i29, i30, a31, n32, c33, ?_⟩
        refine And.imp_right (fun h => ?_) h
        refine St.new st (fun q40 w48 hk11 hlt11 he11 st => ?_)
        refine ⟨he11.kept, ?_⟩
        replace h := h _ he11 q37.block (Nat.le_trans (hE4).size (Nat.le_of_eq hk10.symm)) (st.row (i := 1) rfl).lt (.inr (Nat.le_trans ((Ext.refl _)).size (Nat.le_of_eq hk10.symm))) (.inl (Nat.lt_of_lt_of_le hlt10 ((Ext.refl _)).size)) q40.block (Nat.le_trans ((Ext.trans (Ext.trans hE4 he10) hE9)).size (Nat.le_of_eq hk11.symm)) (st.row (i := 0) rfl).lt (.inr (Nat.le_trans ((Ext.trans he10 hE9)).size (Nat.le_of_eq hk11.symm))) (.inr (Nat.le_trans ((Ext.refl _)).size (Nat.le_of_eq hk11.symm))) (St.nb 1 0 0 st rfl rfl (by decide))
        replace st := st.pick [1, 0, 2, 3, 4] (by decide)
        refine St.put 0 0 st rfl rfl rfl rfl (fun w41 he st => ?_)
        replace h := h w41 he
        refine St.put 1 0 st rfl rfl rfl rfl (fun w42 he st => ?_)
        replace h := h w42 he
        exact (straightedgeref16_Parts.H_s fu).1 h (st.pick [4, 3, 2, 0, 1] (by decide))
      · refine St.new st (fun q40 w49 hk11 hlt11 he11 st => ?_)
        refine ⟨he11.kept, ?_⟩
        replace h := h _ (Ext.trans he10 he11)
        refine CallF.mono h (fun v27 w28 h => ?_)
        obtain ⟨hE9, h⟩ := h
        replace st := st.ext hE9
        obtain ⟨i29, i30, a31, n32, c33, h⟩ := h
        refine ⟨i29, i30, a31, n32, c33, ?_⟩
        refine And.imp_right (fun h => ?_) h
        replace h := h _ (Ext.refl _) q37.block (Nat.le_trans (hE4).size (Nat.le_of_eq hk10.symm)) (st.row (i := 1) rfl).lt (.inr (Nat.le_trans ((Ext.refl _)).size (Nat.le_of_eq hk10.symm))) (.inl (Nat.lt_of_lt_of_le hlt10 (he11).size)) q40.block (Nat.le_trans ((Ext.trans hE4 he10)).size (Nat.le_of_eq hk11.symm)) (st.row (i := 0) rfl).lt (.inr (Nat.le_trans (he10).size (Nat.le_of_eq hk11.symm))) (.inl (Nat.lt_of_lt_of_le hlt11 ((Ext.refl _)).size)) (St.nb 1 0 0 st rfl rfl (by decide))
        replace st := st.pick [1, 0, 2, 3, 4] (by decide)
        refine St.put 0 0 st rfl rfl rfl rfl (fun w41 he st => ?_)
        replace h := h w41 he
        refine St.put 1 0 st rfl rfl rfl rfl (fun w42 he st => ?_)
        replace h := h w42 he
        exact (straightedgeref16_Parts.H_s fu).1 h (st.pick [4, 3, 2, 0, 1] (by decide))
    · refine St.new st (fun q40 w50 hk11 hlt11 he11 st => ?_)
      refine ⟨he11.kept, ?_⟩
      refine ⟨?_, ?_⟩
      · replace h := h _ he11
        refine CallF.mono h (fun v27 w28 h => ?_)
        obtain ⟨hE9, h⟩ := h
        replace st := st.ext hE9
        obtain ⟨i29, i30, a31, n32, c33, h⟩ := h
        refine ⟨i29, i30, a31, n32, c33, ?_⟩
        refine And.imp_right (fun h => ?_) h
        refine St.new st (fun q37 w51 hk10 hlt10 he10 st => ?_)
        refine ⟨he10.kept, ?_⟩
        replace h := h _ he10 q37.block (Nat.le_trans ((Ext.trans (Ext.trans hE4 he11) hE9)).size (Nat.le_of_eq hk10.symm)) (st.row (i := 0) rfl).lt (.inr (Nat.le_trans ((Ext.trans he11 hE9)).size (Nat.le_of_eq hk10.symm))) (.inr (Nat.le_trans ((Ext.refl _)).size (Nat.le_of_eq hk10.symm))) q40.block (Nat.le_trans (hE4).size (Nat.le_of_eq hk11.symm)) (st.row (i := 1) rfl).lt (.inr (Nat.le_trans ((Ext.refl _)).size (Nat.le_of_eq hk11.symm))) (.inl (Nat.lt_of_lt_of_le hlt11 ((Ext.refl _)).size)) (St.nb 0 1 0 st rfl rfl (by decide))
        refine St.put 0 0 st rfl rfl rfl rfl (fun w41 he st => ?_)
        replace h := h w41 he
        refine St.put 1 0 st rfl rfl rfl rfl (fun w42 he st => ?_)
        replace h := h w42 he
        exact (straightedgeref16_Parts.H_s fu).1 h (st.pick [4, 3, 2, 0, 1] (by decide))
      · refine St.new st (fun q37 w52 hk10 hlt10 he10 st => ?_)
        refine ⟨he10.kept, ?_⟩
        replace h := h _ (Ext.trans he11 he10)
        refine CallF.mono h (fun v27 w28 h => ?_)
        obtain ⟨hE9, h⟩ := h
        replace st := st.ext hE9
        obtain ⟨i29, i30, a31, n32, c33, h⟩ := h
        refine ⟨i29, i30, a31, n32, c33, ?_⟩
        refine And.imp_right (fun h => ?_) h
        replace h := h _ (Ext.refl _) q37.block (Nat.le_trans ((Ext.trans hE4 he11)).size (Nat.le_of_eq hk10.symm)) (st.row (i := 0) rfl).lt (.inr (Nat.le_trans (he11).size (Nat.le_of_eq hk10.symm))) (.inl (Nat.lt_of_lt_of_le hlt10 ((Ext.refl _)).size)) q40.block (Nat.le_trans (hE4).size (Nat.le_of_eq hk11.symm)) (st.row (i := 1) rfl).lt (.inr (Nat.le_trans ((Ext.refl _)).size (Nat.le_of_eq hk11.symm))) (.inl (Nat.lt_of_lt_of_le hlt11 (he10).size)) (St.nb 0 1 0 st rfl rfl (by decide))
        refine St.put 0 0 st rfl rfl rfl rfl (fun w41 he st => ?_)
        replace h := h w41 he
        refine St.put 1 0 st rfl rfl rfl rfl (fun w42 he st => ?_)
        replace h := h w42 he
        exact (straightedgeref16_Parts.H_s fu).1 h (st.pick [4, 3, 2, 0, 1] (by decide))
  · refine St.new st (fun q37 w53 hk10 hlt10 he10 st => ?_)
    refine ⟨he10.kept, ?_⟩
    refine ⟨?_, ?_⟩
    · replace h := h _ he10
      refine CallF.mono h (fun v19 w20 h => ?_)
      obtain ⟨hE4, h⟩ := h
      replace st := st.ext hE4
      obtain ⟨i21, i22, a23, n24, c25, h⟩ := h
      refine ⟨i21, i22, a23, n24, c25, ?_⟩
      refine And.imp_right (fun h => ?_) h
      refine ⟨hE4.kept, ?_⟩
      refine ⟨?_, ?_⟩
      · replace h := h _ (Ext.refl _)
        refine CallF.mono h (fun v27 w28 h => ?_)
        obtain ⟨hE9, h⟩ := h
        replace st := st.ext hE9
        obtain ⟨i29, i30, a31, n32, c33, h⟩ := h
        refine ⟨i29, i30, a31, n32, c33, ?_⟩
        refine And.imp_right (fun h => ?_) h
        refine St.new st (fun q40 w54 hk11 hlt11 he11 st => ?_)
        refine ⟨he11.kept, ?_⟩
        replace h := h _ he11 q37.block (Nat.le_trans ((Ext.refl _)).size (Nat.le_of_eq hk10.symm)) (st.row (i := 1) rfl).lt (.inl (Nat.lt_of_lt_of_le hlt10 ((Ext.refl _)).size)) (.inl (Nat.lt_of_lt_of_le hlt10 (hE4).size)) q40.block (Nat.le_trans ((Ext.trans (Ext.trans he10 hE4) hE9)).size (Nat.le_of_eq hk11.symm)) (st.row (i := 0) rfl).lt (.inr (Nat.le_trans (hE9).size (Nat.le_of_eq hk11.symm))) (.inr (Nat.le_trans ((Ext.refl _)).size (Nat.le_of_eq hk11.symm))) (St.nb 1 0 0 st rfl rfl (by decide))
        replace st := st.pick [1, 0, 2, 3, 4] (by decide)
        refine St.put 0 0 st rfl rfl rfl rfl (fun w41 he st => ?_)
        replace h := h w41 he
        refine St.put 1 0 st rfl rfl rfl rfl (fun w42 he st => ?_)
        replace h := h w42 he
        exact (straightedgeref16_Parts.H_s fu).1 h (st.pick [4, 3, 2, 0, 1] (by decide))
      · refine St.new st (fun q40 w55 hk11 hlt11 he11 st => ?_)
        refine ⟨he11.kept, ?_⟩
        replace h := h _ he11
        refine CallF.mono h (fun v27 w28 h => ?_)
        obtain ⟨hE9, h⟩ := h
        replace st := st.ext hE9
        obtain ⟨i29, i30, a31, n32, c33, h⟩ := h
        refine ⟨i29, i30, a31, n32, c33, ?_⟩
        refine And.imp_right (fun h => ?_) h
        replace h := h _ (Ext.refl _) q37.block (Nat.le_trans ((Ext.refl _)).size (Nat.le_of_eq hk10.symm)) (st.row (i := 1) rfl).lt (.inl (Nat.lt_of_lt_of_le hlt10 ((Ext.refl _)).size)) (.inl (Nat.lt_of_lt_of_le hlt10 ((Ext.trans hE4 he11)).size)) q40.block (Nat.le_trans ((Ext.trans he10 hE4)).size (Nat.le_of_eq hk11.symm)) (st.row (i := 0) rfl).lt (.inr (Nat.le_trans ((Ext.refl _)).size (Nat.le_of_eq hk11.symm))) (.inl (Nat.lt_of_lt_of_le hlt11 ((Ext.refl _)).size)) (St.nb 1 0 0 st rfl rfl (by decide))
        replace st := st.pick [1, 0, 2, 3, 4] (by decide)
        refine St.put 0 0 st rfl rfl rfl rfl (fun w41 he st => ?_)
        replace h := h w41 he
        refine St.put 1 0 st rfl rfl rfl rfl (fun w42 he st => ?_)
        replace h := h w42 he
        exact (straightedgeref16_Parts.H_s fu).1 h (st.pick [4, 3, 2, 0, 1] (by decide))
    · refine St.new st (fun q40 w56 hk11 hlt11 he11 st => ?_)
      refine ⟨he11.kept, ?_⟩
      replace h := h _ (Ext.trans he10 he11)
      refine CallF.mono h (fun v19 w20 h => ?_)
      obtain ⟨hE4, h⟩ := h
      replace st := st.ext hE4
      obtain ⟨i21, i22, a23, n24, c25, h⟩ := h
      refine ⟨i21, i22, a23, n24, c25, ?_⟩
      refine And.imp_right (fun h => ?_) h
      refine ⟨hE4.kept, ?_⟩
      replace h := h _ (Ext.refl _)
      refine CallF.mono h (fun v27 w28 h => ?_)
      obtain ⟨hE9, h⟩ := h
      replace st := st.ext hE9
      obtain ⟨i29, i30, a31, n32, c33, h⟩ := h
      refine ⟨i29, i30, a31, n32, c33, ?_⟩
      refine And.imp_right (fun h => ?_) h
      replace h := h _ (Ext.refl _) q37.block (Nat.le_trans ((Ext.refl _)).size (Nat.le_of_eq hk10.symm)) (st.row (i := 1) rfl).lt (.inl (Nat.lt_of_lt_of_le hlt10 (he11).size)) (.inl (Nat.lt_of_lt_of_le hlt10 ((Ext.trans he11 hE4)).size)) q40.block (Nat.le_trans (he10).size (Nat.le_of_eq hk11.symm)) (st.row (i := 0) rfl).lt (.inl (Nat.lt_of_lt_of_le hlt11 ((Ext.refl _)).size)) (.inl (Nat.lt_of_lt_of_le hlt11 (hE4).size)) (St.nb 1 0 0 st rfl rfl (by decide))
      replace st := st.pick [1, 0, 2, 3, 4] (by decide)
      refine St.put 0 0 st rfl rfl rfl rfl (fun w41 he st => ?_)
      replace h := h w41 he
      refine St.put 1 0 st rfl rfl rfl rfl (fun w42 he st => ?_)
      replace h := h w42 he
      exact (straightedgeref16_Parts.H_s fu).1 h (st.pick [4, 3, 2, 0, 1] (by decide))
  · refine St.new st (fun q40 w57 hk11 hlt11 he11 st => ?_)
    refine ⟨he11.kept, ?_⟩
    refine ⟨?_, ?_⟩
    · replace h := h _ he11
      refine CallF.mono h (fun v19 w20 h => ?_)
      obtain ⟨hE4, h⟩ := h
      replace st := st.ext hE4
      obtain ⟨i21, i22, a23, n24, c25, h⟩ := h
      refine ⟨i21, i22, a23, n24, c25, ?_⟩
      refine And.imp_right (fun h => ?_) h
      refine ⟨hE4.kept, ?_⟩
      refine ⟨?_, ?_⟩
      · replace h := h _ (Ext.refl _)
        refine CallF.mono h (fun v27 w28 h => ?_)
        obtain ⟨hE9, h⟩ := h
        replace st := st.ext hE9
        obtain ⟨i29, i30, a31, n32, c33, h⟩ := h
        refine ⟨i29, i30, a31, n32, c33, ?_⟩
        refine And.imp_right (fun h => ?_) h
        refine St.new st (fun q37 w58 hk10 hlt10 he10 st => ?_)
        refine ⟨he10.kept, ?_⟩
        replace h := h _ he10 q37.block (Nat.le_trans ((Ext.trans (Ext.trans he11 hE4) hE9)).size (Nat.le_of_eq hk10.symm)) (st.row (i := 0) rfl).lt (.inr (Nat.le_trans (hE9).size (Nat.le_of_eq hk10.symm))) (.inr (Nat.le_trans ((Ext.refl _)).size (Nat.le_of_eq hk10.symm))) q40.block (Nat.le_trans ((Ext.refl _)).size (Nat.le_of_eq hk11.symm)) (st.row (i := 1) rfl).lt (.inl (Nat.lt_of_lt_of_le hlt11 ((Ext.refl _)).size)) (.inl (Nat.lt_of_lt_of_le hlt11 (hE4).size)) (St.nb 0 1 0 st rfl rfl (by decide))
        refine St.put 0 0 st rfl rfl rfl rfl (fun w41 he st => ?_)
        replace h := h w41 he
        refine St.put 1 0 st rfl rfl rfl rfl (fun w42 he st => ?_)
        replace h := h w42 he
        exact (straightedgeref16_Parts.H_s fu).1 h (st.pick [4, 3, 2, 0, 1] (by decide))
      · refine St.new st (fun q37 w59 hk10 hlt10 he10 st => ?_)
        refine ⟨he10.kept, ?_⟩
        replace h := h _ he10
        refine CallF.mono h (fun v27 w28 h => ?_)
        obtain ⟨hE9, h⟩ := h
        replace st := st.ext hE9
        obtain ⟨i29, i30, a31, n32, c33, h⟩ := h
        refine ⟨i29, i30, a31, n32, c33, ?_⟩
        refine And.imp_right (fun h => ?_) h
        replace h := h _ (Ext.refl _) q37.block (Nat.le_trans ((Ext.trans he11 hE4)).size (Nat.le_of_eq hk10.symm)) (st.row (i := 0) rfl).lt (.inr (Nat.le_trans ((Ext.refl _)).size (Nat.le_of_eq hk10.symm))) (.inl (Nat.lt_of_lt_of_le hlt10 ((Ext.refl _)).size)) q40.block (Nat.le_trans ((Ext.refl _)).size (Nat.le_of_eq hk11.symm)) (st.row (i := 1) rfl).lt (.inl (Nat.lt_of_lt_of_le hlt11 ((Ext.refl _)).size)) (.inl (Nat.lt_of_lt_of_le hlt11 ((Ext.trans hE4 he10)).size)) (St.nb 0 1 0 st rfl rfl (by decide))
        refine St.put 0 0 st rfl rfl rfl rfl (fun w41 he st => ?_)
        replace h := h w41 he
        refine St.put 1 0 st rfl rfl rfl rfl (fun w42 he st => ?_)
        replace h := h w42 he
        exact (straightedgeref16_Parts.H_s fu).1 h (st.pick [4, 3, 2, 0, 1] (by decide))
    · refine St.new st (fun q37 w60 hk10 hlt10 he10 st => ?_)
      refine ⟨he10.kept, ?_⟩
      replace h := h _ (Ext.trans he11 he10)
      refine CallF.mono h (fun v19 w20 h => ?_)
      obtain ⟨hE4, h⟩ := h
      replace st := st.ext hE4
      obtain ⟨i21, i22, a23, n24, c25, h⟩ := h
      refine ⟨i21, i22, a23, n24, c25, ?_⟩
      refine And.imp_right (fun h => ?_) h
      refine ⟨hE4.kept, ?_⟩
      replace h := h _ (Ext.refl _)
      refine CallF.mono h (fun v27 w28 h => ?_)
      obtain ⟨hE9, h⟩ := h
      replace st := st.ext hE9
      obtain ⟨i29, i30, a31, n32, c33, h⟩ := h
      refine ⟨i29, i30, a31, n32, c33, ?_⟩
      refine And.imp_right (fun h => ?_) h
      replace h := h _ (Ext.refl _) q37.block (Nat.le_trans (he11).size (Nat.le_of_eq hk10.symm)) (st.row (i := 0) rfl).lt (.inl (Nat.lt_of_lt_of_le hlt10 ((Ext.refl _)).size)) (.inl (Nat.lt_of_lt_of_le hlt10 (hE4).size)) q40.block (Nat.le_trans ((Ext.refl _)).size (Nat.le_of_eq hk11.symm)) (st.row (i := 1) rfl).lt (.inl (Nat.lt_of_lt_of_le hlt11 (he10).size)) (.inl (Nat.lt_of_lt_of_le hlt11 ((Ext.trans he10 hE4)).size)) (St.nb 0 1 0 st rfl rfl (by decide))
      refine St.put 0 0 st rfl rfl rfl rfl (fun w41 he st => ?_)
      replace h := h w41 he
      refine St.put 1 0 st rfl rfl rfl rfl (fun w42 he st => ?_)
      replace h := h w42 he
      exact (straightedgeref16_Parts.H_s fu).1 h (st.pick [4, 3, 2, 0, 1] (by decide))

/-! ### straightedge/straightedgeref16.Order: function 41 -/
def straightedgeref16_Order.b3 (K : Value → World → Prop) (h3 : Option Addr → Nat → Nat → Option Addr → Nat → Nat → Int → World → Prop) (h7 : Option Addr → Nat → Nat → Option Addr → Nat → Nat → Int → World → Prop) (z0p : Option Addr) (z0n z0c : Nat) (z3p : Option Addr) (z3n z3c : Nat) (z4 : Int) (w : World) : Prop := br (decide (z4 < ((z0n : Nat) : Int))) (newB [(.int .i64 z4)] 3 w fun q1 w2 => Raw prog (Builtin.append_ #[31, 31] 31 ⟨[(.slice z3p z3n z3c), (.slice (some q1) 1 1)]⟩) w2 fun v3 w4 => ∃ (a5 : Option Addr) (n6 c7 : Nat), v3 = .slice a5 n6 c7 ∧ h3 z0p z0n z0c a5 n6 c7 (IntKind.i64.wrap (z4 + 1)) w4) (h7 z0p z0n z0c z3p z3n z3c 0 w)
def straightedgeref16_Order.b7 (K : Value → World → Prop) (h3 : Option Addr → Nat → Nat → Option Addr → Nat → Nat → Int → World → Prop) (h7 : Option Addr → Nat → Nat → Option Addr → Nat → Nat → Int → World → Prop) (z0p : Option Addr) (z0n z0c : Nat) (z3p : Option Addr) (z3n z3c : Nat) (z5 : Int) (w : World) : Prop := br (decide (z5 < ((z0n : Nat) : Int))) (ptrSome z3p fun q2 => (0 : Int) ≤ z5 ∧ z5 < ((z3n : Nat) : Int) ∧ rd_i64 w.drew (q2.add (Int.toNat z5)) fun i3 => ptrSome z0p fun q4 => (0 : Int) ≤ z5 ∧ z5 < ((z0n : Nat) : Int) ∧ rd_i64 w.drew (q4.add (Int.toNat z5)) fun i5 => ptrSome z3p fun q6 => (0 : Int) ≤ i5 ∧ i5 < ((z3n : Nat) : Int) ∧ rd_i64 w.drew (q6.add (Int.toNat i5)) fun i7 => ptrSome z3p fun q8 => (0 : Int) ≤ z5 ∧ z5 < ((z3n : Nat) : Int) ∧ stPT (q8.add (Int.toNat z5)) 0 [(.int .i64 i7)] w.drew fun w9 => ptrSome z0p fun q10 => (0 : Int) ≤ z5 ∧ z5 < ((z0n : Nat) : Int) ∧ rd_i64 w9 (q10.add (Int.toNat z5)) fun i11 => ptrSome z3p fun q12 => (0 : Int) ≤ i11 ∧ i11 < ((z3n : Nat) : Int) ∧ stPT (q12.add (Int.toNat i11)) 0 [(.int .i64 i3)] w9 fun w13 => h7 z0p z0n z0c z3p z3n z3c (IntKind.i64.wrap (z5 + 1)) w13) (K (.slice z3p z3n z3c) w)
def straightedgeref16_Order.H (K : Value → World → Prop) : Nat → (Option Addr → Nat → Nat → Option Addr → Nat → Nat → Int → World → Prop) × (Option Addr → Nat → Nat → Option Addr → Nat → Nat → Int → World → Prop)
  | 0 => (fun _ _ _ _ _ _ _ _ => False, fun _ _ _ _ _ _ _ _ => False)
  | fu + 1 => (straightedgeref16_Order.b3 K (straightedgeref16_Order.H K fu).1 (straightedgeref16_Order.H K fu).2, straightedgeref16_Order.b7 K (straightedgeref16_Order.H K fu).1 (straightedgeref16_Order.H K fu).2)
def straightedgeref16_Order.x (fu : Nat) (A0p : Option Addr) (A0n A0c : Nat) (w : World) (K : Value → World → Prop) : Prop := (straightedgeref16_Order.H K fu).1 A0p A0n A0c none 0 0 0 w
def straightedgeref16_Order.hd (K : Value → World → Prop) (n id : Nat) (t : List Value) (w : World) : Prop :=
  match id with
  | 3 => asL (t.getD 0 undef) fun z0p z0n z0c => asL (t.getD 3 undef) fun z3p z3n z3c => asI .i64 (t.getD 4 undef) fun z4 => (straightedgeref16_Order.H K n).1 z0p z0n z0c z3p z3n z3c z4 w
  | 7 => asL (t.getD 0 undef) fun z0p z0n z0c => asL (t.getD 3 undef) fun z3p z3n z3c => asI .i64 (t.getD 5 undef) fun z5 => (straightedgeref16_Order.H K n).2 z0p z0n z0c z3p z3n z3c z5 w
  | _ => False
theorem straightedgeref16_Order.t3 (K : Value → World → Prop) (n : Nat) (z0p : Option Addr) (z0n z0c : Nat) (z3p : Option Addr) (z3n z3c : Nat) (z4 : Int) (u : Nat → Value) (w : World) (h : (straightedgeref16_Order.H K (n + 1)).1 z0p z0n z0c z3p z3n z3c z4 w) :
    exT prog [3, 7] (straightedgeref16_Order.hd K n) Try.f41 3 47 [(0, (.slice z0p z0n z0c)), (3, (.slice z3p z3n z3c)), (4, (.int .i64 z4))] u w K := Eq.mp (by kernel_rfl) h
theorem straightedgeref16_Order.t7 (K : Value → World → Prop) (n : Nat) (z0p : Option Addr) (z0n z0c : Nat) (z3p : Option Addr) (z3n z3c : Nat) (z5 : Int) (u : Nat → Value) (w : World) (h : (straightedgeref16_Order.H K (n + 1)).2 z0p z0n z0c z3p z3n z3c z5 w) :
    exT prog [3, 7] (straightedgeref16_Order.hd K n) Try.f41 7 47 [(0, (.slice z0p z0n z0c)), (3, (.slice z3p z3n z3c)), (5, (.int .i64 z5))] u w K := Eq.mp (by kernel_rfl) h
theorem straightedgeref16_Order.ok (fu : Nat) {A0p : Option Addr} {A0n A0c : Nat} {w : World} {K : Value → World → Prop} (h : straightedgeref16_Order.x fu A0p A0n A0c w K) : straightedgeref16_Order.call [(.slice A0p A0n A0c)] w K := by
  refine callF_of_ex (cuts := [3, 7]) (H := straightedgeref16_Order.hd K) (N := 47) Try.func41 rfl mixed (by kernel_rfl) ?_ ?_ ?_ rfl (n := fu) (Eq.mp (by kernel_rfl) h)
  · intro id hid; simp only [List.mem_cons, List.not_mem_nil, or_false] at hid; rcases hid with rfl | rfl
    · exact (by kernel_rfl : (stacks (bodyOf Try.f41) []).filter (headIs 3) = [at_ (bodyOf Try.f41) 3])
    · exact (by kernel_rfl : (stacks (bodyOf Try.f41) []).filter (headIs 7) = [at_ (bodyOf Try.f41) 7])
  · intro id t w h
    unfold straightedgeref16_Order.hd at h
    split at h
    · obtain ⟨z0p, z0n, z0c, _, h⟩ := asL_elim h
      obtain ⟨z3p, z3n, z3c, _, h⟩ := asL_elim h
      obtain ⟨z4, _, h⟩ := asI_elim h
      exact h
    · obtain ⟨z0p, z0n, z0c, _, h⟩ := asL_elim h
      obtain ⟨z3p, z3n, z3c, _, h⟩ := asL_elim h
      obtain ⟨z5, _, h⟩ := asI_elim h
      exact h
    · exact h
  · intro n id hid t w hl h; simp only [List.mem_cons, List.not_mem_nil, or_false] at hid; rcases hid with rfl | rfl
    · replace h : asL (t.getD 0 undef) fun z0p z0n z0c => asL (t.getD 3 undef) fun z3p z3n z3c => asI .i64 (t.getD 4 undef) fun z4 => (straightedgeref16_Order.H K (n + 1)).1 z0p z0n z0c z3p z3n z3c z4 w := h
      obtain ⟨z0p, z0n, z0c, e0, h⟩ := asL_elim h
      obtain ⟨z3p, z3n, z3c, e3, h⟩ := asL_elim h
      obtain ⟨z4, e4, h⟩ := asI_elim h
      rw [mk_of hl [(0, (.slice z0p z0n z0c)), (3, (.slice z3p z3n z3c)), (4, (.int .i64 z4))] (by simp only [List.forall_mem_cons, List.not_mem_nil, false_implies, implies_true, and_true]; exact ⟨e0, e3, e4⟩)]
      exact straightedgeref16_Order.t3 K n z0p z0n z0c z3p z3n z3c z4 _ w h
    · replace h : asL (t.getD 0 undef) fun z0p z0n z0c => asL (t.getD 3 undef) fun z3p z3n z3c => asI .i64 (t.getD 5 undef) fun z5 => (straightedgeref16_Order.H K (n + 1)).2 z0p z0n z0c z3p z3n z3c z5 w := h
      obtain ⟨z0p, z0n, z0c, e0, h⟩ := asL_elim h
      obtain ⟨z3p, z3n, z3c, e3, h⟩ := asL_elim h
      obtain ⟨z5, e5, h⟩ := asI_elim h
      rw [mk_of hl [(0, (.slice z0p z0n z0c)), (3, (.slice z3p z3n z3c)), (5, (.int .i64 z5))] (by simp only [List.forall_mem_cons, List.not_mem_nil, false_implies, implies_true, and_true]; exact ⟨e0, e3, e5⟩)]
      exact straightedgeref16_Order.t7 K n z0p z0n z0c z3p z3n z3c z5 _ w h

end Go.Proofs.Ytgdkahbnepafgaa

/-! ### AGref03 -/
/- The explicit forms of the functions of one package, and that the calls do what they say. Written by wip/tools/wk2.py. -/
set_option maxHeartbeats 4000000
set_option maxRecDepth 100000
set_option linter.unusedVariables false
namespace Go.Proofs.Ytgdkahbnepafgaa
open Go Go.Wk

/-! ### straightedge/straightedgeref03.Great: function 6 -/
def straightedgeref03_Great.x (A0_0p : Option Addr) (A0_0n A0_0c : Nat) (A0_1 : Int) (A0_2 : Int) (A0_3 : Int) (A0_4 : Int) (w : World) (K : Value → World → Prop) : Prop := newB [(.slice A0_0p A0_0n A0_0c), (.int .i64 A0_1), (.int .i64 A0_2), (.int .i64 A0_3), (.int .i64 A0_4)] 24 w fun q1 w2 => rd_l w2 q1 fun a3 n4 c5 => br (decide (((n4 : Nat) : Int) > 1000)) (K (.bool true) w2) (rd_i64 w2 (q1.add 2) fun i6 => br (decide (i6 > 20)) (K (.bool true) w2) (rd_i64 w2 (q1.add 3) fun i7 => K (.bool (decide (i7 > 20))) w2))
theorem straightedgeref03_Great.ok {A0_0p : Option Addr} {A0_0n A0_0c : Nat} {A0_1 : Int} {A0_2 : Int} {A0_3 : Int} {A0_4 : Int} {w : World} {K : Value → World → Prop} (h : straightedgeref03_Great.x A0_0p A0_0n A0_0c A0_1 A0_2 A0_3 A0_4 w K) : straightedgeref03_Great.call [(.agg ⟨[(.slice A0_0p A0_0n A0_0c), (.int .i64 A0_1), (.int .i64 A0_2), (.int .i64 A0_3), (.int .i64 A0_4)]⟩)] w K :=
  callF_of_ex0 (f := Try.f6) Try.func6 rfl mixed (by kernel_rfl) (Eq.mp (by kernel_rfl) h)
/-! the same, the local variables taken out -/
def straightedgeref03_Great.s (A0_0p : Option Addr) (A0_0n A0_0c : Nat) (A0_1 : Int) (A0_2 : Int) (A0_3 : Int) (A0_4 : Int) (w : World) (K : Value → World → Prop) : Prop := ∀ (k3 : Nat) (w2 : World), k3 = w.heap.size → k3 < w2.heap.size → Ext w w2 → br (decide (((A0_0n : Nat) : Int) > 1000)) (K (.bool true) w2) (br (decide (A0_2 > 20)) (K (.bool true) w2) (K (.bool (decide (A0_3 > 20))) w2))
theorem straightedgeref03_Great.os {A0_0p : Option Addr} {A0_0n A0_0c : Nat} {A0_1 : Int} {A0_2 : Int} {A0_3 : Int} {A0_4 : Int} {w : World} {K : Value → World → Prop} (h : straightedgeref03_Great.s A0_0p A0_0n A0_0c A0_1 A0_2 A0_3 A0_4 w K) : straightedgeref03_Great.call [(.agg ⟨[(.slice A0_0p A0_0n A0_0c), (.int .i64 A0_1), (.int .i64 A0_2), (.int .i64 A0_3), (.int .i64 A0_4)]⟩)] w K := by
  refine straightedgeref03_Great.ok ?_
  have st := St.nil w
  unfold straightedgeref03_Great.x
  unfold straightedgeref03_Great.s at h
  refine St.new (St.nil _) (fun q1 w2 hk hlt he st => ?_)
  replace h := h q1.block w2 hk hlt he
  refine rd_l.bx 0 0 st rfl rfl rfl ?_
  refine br_mono (fun h => ?_) (fun h => ?_) h
  · exact h
  · refine rd_i64.bx 0 2 st rfl rfl rfl ?_
    refine br_mono (fun h => ?_) (fun h => ?_) h
    · exact h
    · refine rd_i64.bx 0 3 st rfl rfl rfl ?_
      exact h

/-! ### straightedge/straightedgeref03.Good: function 7 -/
def straightedgeref03_Good.x (A0_0p : Option Addr) (A0_0n A0_0c : Nat) (A0_1 : Int) (A0_2 : Int) (A0_3 : Int) (A0_4 : Int) (w : World) (K : Value → World → Prop) : Prop := newB [(.slice A0_0p A0_0n A0_0c), (.int .i64 A0_1), (.int .i64 A0_2), (.int .i64 A0_3), (.int .i64 A0_4)] 24 w fun q1 w2 => rd_i64 w2 (q1.add 2) fun i3 => br (decide (i3 < 0)) (K (.bool false) w2) (rd_i64 w2 (q1.add 3) fun i4 => br (decide (i4 < 0)) (K (.bool false) w2) (rd_i64 w2 (q1.add 4) fun i5 => br (decide (i5 < 1)) (K (.bool false) w2) (rd_i64 w2 (q1.add 4) fun i6 => rd_i64 w2 (q1.add 2) fun i7 => br (decide (i6 < i7)) (K (.bool false) w2) (rd_i64 w2 (q1.add 1) fun i8 => br (decide (i8 < 0)) (K (.bool false) w2) (rd_i64 w2 (q1.add 2) fun i9 => br (i9 == 0) (K (.bool true) w2) (rd_i64 w2 (q1.add 3) fun i10 => br (i10 == 0) (K (.bool true) w2) (rd_l w2 q1 fun a11 n12 c13 => rd_i64 w2 (q1.add 1) fun i14 => rd_i64 w2 (q1.add 3) fun i15 => rd_i64 w2 (q1.add 4) fun i16 => rd_i64 w2 (q1.add 2) fun i17 => straightedgeref03_within.call [(.int .i64 ((n12 : Nat) : Int)), (.int .i64 i14), (.int .i64 (IntKind.i64.wrap (i15 - 1))), (.int .i64 i16), (.int .i64 (IntKind.i64.wrap (i17 - 1)))] w2 fun v18 w19 => ∃ b20 : Bool, v18 = (.bool b20) ∧ K (.bool b20) w19)))))))
theorem straightedgeref03_Good.ok {A0_0p : Option Addr} {A0_0n A0_0c : Nat} {A0_1 : Int} {A0_2 : Int} {A0_3 : Int} {A0_4 : Int} {w : World} {K : Value → World → Prop} (h : straightedgeref03_Good.x A0_0p A0_0n A0_0c A0_1 A0_2 A0_3 A0_4 w K) : straightedgeref03_Good.call [(.agg ⟨[(.slice A0_0p A0_0n A0_0c), (.int .i64 A0_1), (.int .i64 A0_2), (.int .i64 A0_3), (.int .i64 A0_4)]⟩)] w K :=
  callF_of_ex0 (f := Try.f7) Try.func7 rfl mixed (by kernel_rfl) (Eq.mp (by kernel_rfl) h)
/-! the same, the local variables taken out -/
def straightedgeref03_Good.s (A0_0p : Option Addr) (A0_0n A0_0c : Nat) (A0_1 : Int) (A0_2 : Int) (A0_3 : Int) (A0_4 : Int) (w : World) (K : Value → World → Prop) : Prop := ∀ (k3 : Nat) (w2 : World), k3 = w.heap.size → k3 < w2.heap.size → Ext w w2 → br (decide (A0_2 < 0)) (K (.bool false) w2) (br (decide (A0_3 < 0)) (K (.bool false) w2) (br (decide (A0_4 < 1)) (K (.bool false) w2) (br (decide (A0_4 < A0_2)) (K (.bool false) w2) (br (decide (A0_1 < 0)) (K (.bool false) w2) (br (A0_2 == 0) (K (.bool true) w2) (br (A0_3 == 0) (K (.bool true) w2) (straightedgeref03_within.call [(.int .i64 ((A0_0n : Nat) : Int)), (.int .i64 A0_1), (.int .i64 (IntKind.i64.wrap (A0_3 - 1))), (.int .i64 A0_4), (.int .i64 (IntKind.i64.wrap (A0_2 - 1)))] w2 fun v20 w21 => Stay [k3] w2 w21 ∧ ∃ b22 : Bool, v20 = (.bool b22) ∧ K (.bool b22) w21)))))))
theorem straightedgeref03_Good.os {A0_0p : Option Addr} {A0_0n A0_0c : Nat} {A0_1 : Int} {A0_2 : Int} {A0_3 : Int} {A0_4 : Int} {w : World} {K : Value → World → Prop} (h : straightedgeref03_Good.s A0_0p A0_0n A0_0c A0_1 A0_2 A0_3 A0_4 w K) : straightedgeref03_Good.call [(.agg ⟨[(.slice A0_0p A0_0n A0_0c), (.int .i64 A0_1), (.int .i64 A0_2), (.int .i64 A0_3), (.int .i64 A0_4)]⟩)] w K := by
  refine straightedgeref03_Good.ok ?_
  have st := St.nil w
  unfold straightedgeref03_Good.x
  unfold straightedgeref03_Good.s at h
  refine St.new (St.nil _) (fun q1 w2 hk hlt he st => ?_)
  replace h := h q1.block w2 hk hlt he
  refine rd_i64.bx 0 2 st rfl rfl rfl ?_
  refine br_mono (fun h => ?_) (fun h => ?_) h
  · exact h
  · refine rd_i64.bx 0 3 st rfl rfl rfl ?_
    refine br_mono (fun h => ?_) (fun h => ?_) h
    · exact h
    · refine rd_i64.bx 0 4 st rfl rfl rfl ?_
      refine br_mono (fun h => ?_) (fun h => ?_) h
      · exact h
      · refine rd_i64.bx 0 4 st rfl rfl rfl ?_
        refine rd_i64.bx 0 2 st rfl rfl rfl ?_
        refine br_mono (fun h => ?_) (fun h => ?_) h
        · exact h
        · refine rd_i64.bx 0 1 st rfl rfl rfl ?_
          refine br_mono (fun h => ?_) (fun h => ?_) h
          · exact h
          · refine rd_i64.bx 0 2 st rfl rfl rfl ?_
            refine br_mono (fun h => ?_) (fun h => ?_) h
            · exact h
            · refine rd_i64.bx 0 3 st rfl rfl rfl ?_
              refine br_mono (fun h => ?_) (fun h => ?_) h
              · exact h
              · refine rd_l.bx 0 0 st rfl rfl rfl ?_
                refine rd_i64.bx 0 1 st rfl rfl rfl ?_
                refine rd_i64.bx 0 3 st rfl rfl rfl ?_
                refine rd_i64.bx 0 4 st rfl rfl rfl ?_
                refine rd_i64.bx 0 2 st rfl rfl rfl ?_
                refine CallF.mono h (fun v20 w21 h => ?_)
                obtain ⟨hK, h⟩ := h
                replace st := st.stay hK
                exact h

/-! ### straightedge/straightedgeref03.Of: function 9 -/
def straightedgeref03_Of.b3 (K : Value → World → Prop) (h3 : Option Addr → Option Addr → Option Addr → Int → World → Prop) (h6 : Option Addr → Option Addr → Option Addr → Int → Int → World → Prop) (z1 : Option Addr) (z2 : Option Addr) (z3 : Option Addr) (z4 : Int) (w : World) : Prop := ptrSome z1 fun q1 => rd_i64 w (q1.add 2) fun i2 => br (decide (z4 < i2)) (h6 z1 z2 z3 z4 0 w) (ptrSome z3 fun q3 => rd_i64_i64_l w q3 fun i4 i5 a6 n7 c8 => ptrSome z2 fun q9 => stPT q9 0 [(.int .i64 i4), (.int .i64 i5), (.slice a6 n7 c8)] w fun w10 => ptrSome z2 fun q11 => rd_i64_i64_l w10 q11 fun i12 i13 a14 n15 c16 => K (.agg ⟨[(.int .i64 i12), (.int .i64 i13), (.slice a14 n15 c16)]⟩) w10)
def straightedgeref03_Of.b6 (K : Value → World → Prop) (h3 : Option Addr → Option Addr → Option Addr → Int → World → Prop) (h6 : Option Addr → Option Addr → Option Addr → Int → Int → World → Prop) (z1 : Option Addr) (z2 : Option Addr) (z3 : Option Addr) (z4 : Int) (z5 : Int) (w : World) : Prop := ptrSome z1 fun q1 => rd_i64 w (q1.add 3) fun i2 => br (decide (z5 < i2)) (ptrSome z3 fun q4 => rd_i64_i64_l w.drew q4 fun i5 i6 a7 n8 c9 => ptrSome z1 fun q10 => rd_l w.drew q10 fun a11 n12 c13 => ptrSome z1 fun q14 => rd_i64 w.drew (q14.add 1) fun i15 => ptrSome z1 fun q16 => rd_i64 w.drew (q16.add 4) fun i17 => ptrSome a11 fun q18 => (0 : Int) ≤ (IntKind.i64.wrap ((IntKind.i64.wrap (i15 + z4)) + (IntKind.i64.wrap (z5 * i17)))) ∧ (IntKind.i64.wrap ((IntKind.i64.wrap (i15 + z4)) + (IntKind.i64.wrap (z5 * i17)))) < ((n12 : Nat) : Int) ∧ rd_f64 w.drew (q18.add (Int.toNat (IntKind.i64.wrap ((IntKind.i64.wrap (i15 + z4)) + (IntKind.i64.wrap (z5 * i17)))))) fun x19 => straightedgeref03_M_Set.call [(.agg ⟨[(.int .i64 i5), (.int .i64 i6), (.slice a7 n8 c9)]⟩), (.int .i64 z4), (.int .i64 z5), (.float .f64 x19)] w.drew fun v20 w21 => v20 = (.tuple ⟨[]⟩) ∧ h6 z1 z2 z3 z4 (IntKind.i64.wrap (z5 + 1)) w21) (h3 z1 z2 z3 (IntKind.i64.wrap (z4 + 1)) w)
def straightedgeref03_Of.H (K : Value → World → Prop) : Nat → (Option Addr → Option Addr → Option Addr → Int → World → Prop) × (Option Addr → Option Addr → Option Addr → Int → Int → World → Prop)
  | 0 => (fun _ _ _ _ _ => False, fun _ _ _ _ _ _ => False)
  | fu + 1 => (straightedgeref03_Of.b3 K (straightedgeref03_Of.H K fu).1 (straightedgeref03_Of.H K fu).2, straightedgeref03_Of.b6 K (straightedgeref03_Of.H K fu).1 (straightedgeref03_Of.H K fu).2)
def straightedgeref03_Of.x (fu : Nat) (A0_0p : Option Addr) (A0_0n A0_0c : Nat) (A0_1 : Int) (A0_2 : Int) (A0_3 : Int) (A0_4 : Int) (w : World) (K : Value → World → Prop) : Prop := newB [(.slice A0_0p A0_0n A0_0c), (.int .i64 A0_1), (.int .i64 A0_2), (.int .i64 A0_3), (.int .i64 A0_4)] 24 w fun q1 w2 => newB [(.int .i64 0), (.int .i64 0), (.slice none 0 0)] 29 w2 fun q3 w4 => rd_i64 w4 (q1.add 2) fun i5 => rd_i64 w4 (q1.add 3) fun i6 => straightedgeref03_New.call [(.int .i64 i5), (.int .i64 i6)] w4 fun v7 w8 => ∃ i9 : Int, ∃ i10 : Int, ∃ (a11 : Option Addr) (n12 c13 : Nat), v7 = (.agg ⟨[(.int .i64 i9), (.int .i64 i10), (.slice a11 n12 c13)]⟩) ∧ newB [(.int .i64 0), (.int .i64 0), (.slice none 0 0)] 29 w8 fun q14 w15 => stPT q14 0 [(.int .i64 i9), (.int .i64 i10), (.slice a11 n12 c13)] w15 fun w16 => (straightedgeref03_Of.H K fu).1 (some q1) (some q3) (some q14) 0 w16
def straightedgeref03_Of.hd (K : Value → World → Prop) (n id : Nat) (t : List Value) (w : World) : Prop :=
  match id with
  | 3 => asP (t.getD 1 undef) fun z1 => asP (t.getD 2 undef) fun z2 => asP (t.getD 3 undef) fun z3 => asI .i64 (t.getD 4 undef) fun z4 => (straightedgeref03_Of.H K n).1 z1 z2 z3 z4 w
  | 6 => asP (t.getD 1 undef) fun z1 => asP (t.getD 2 undef) fun z2 => asP (t.getD 3 undef) fun z3 => asI .i64 (t.getD 4 undef) fun z4 => asI .i64 (t.getD 5 undef) fun z5 => (straightedgeref03_Of.H K n).2 z1 z2 z3 z4 z5 w
  | _ => False
theorem straightedgeref03_Of.t3 (K : Value → World → Prop) (n : Nat) (z1 : Option Addr) (z2 : Option Addr) (z3 : Option Addr) (z4 : Int) (u : Nat → Value) (w : World) (h : (straightedgeref03_Of.H K (n + 1)).1 z1 z2 z3 z4 w) :
    exT prog [3, 6] (straightedgeref03_Of.hd K n) Try.f9 3 41 [(1, (.pointer z1)), (2, (.pointer z2)), (3, (.pointer z3)), (4, (.int .i64 z4))] u w K := Eq.mp (by kernel_rfl) h
theorem straightedgeref03_Of.t6 (K : Value → World → Prop) (n : Nat) (z1 : Option Addr) (z2 : Option Addr) (z3 : Option Addr) (z4 : Int) (z5 : Int) (u : Nat → Value) (w : World) (h : (straightedgeref03_Of.H K (n + 1)).2 z1 z2 z3 z4 z5 w) :
    exT prog [3, 6] (straightedgeref03_Of.hd K n) Try.f9 6 41 [(1, (.pointer z1)), (2, (.pointer z2)), (3, (.pointer z3)), (4, (.int .i64 z4)), (5, (.int .i64 z5))] u w K := Eq.mp (by kernel_rfl) h
theorem straightedgeref03_Of.ok (fu : Nat) {A0_0p : Option Addr} {A0_0n A0_0c : Nat} {A0_1 : Int} {A0_2 : Int} {A0_3 : Int} {A0_4 : Int} {w : World} {K : Value → World → Prop} (h : straightedgeref03_Of.x fu A0_0p A0_0n A0_0c A0_1 A0_2 A0_3 A0_4 w K) : straightedgeref03_Of.call [(.agg ⟨[(.slice A0_0p A0_0n A0_0c), (.int .i64 A0_1), (.int .i64 A0_2), (.int .i64 A0_3), (.int .i64 A0_4)]⟩)] w K := by
  refine callF_of_ex (cuts := [3, 6]) (H := straightedgeref03_Of.hd K) (N := 41) Try.func9 rfl mixed (by kernel_rfl) ?_ ?_ ?_ rfl (n := fu) (Eq.mp (by kernel_rfl) h)
  · intro id hid; simp only [List.mem_cons, List.not_mem_nil, or_false] at hid; rcases hid with rfl | rfl
    · exact (by kernel_rfl : (stacks (bodyOf Try.f9) []).filter (headIs 3) = [at_ (bodyOf Try.f9) 3])
    · exact (by kernel_rfl : (stacks (bodyOf Try.f9) []).filter (headIs 6) = [at_ (bodyOf Try.f9) 6])
  · intro id t w h
    unfold straightedgeref03_Of.hd at h
    split at h
    · obtain ⟨z1, _, h⟩ := asP_elim h
      obtain ⟨z2, _, h⟩ := asP_elim h
      obtain ⟨z3, _, h⟩ := asP_elim h
      obtain ⟨z4, _, h⟩ := asI_elim h
      exact h
    · obtain ⟨z1, _, h⟩ := asP_elim h
      obtain ⟨z2, _, h⟩ := asP_elim h
      obtain ⟨z3, _, h⟩ := asP_elim h
      obtain ⟨z4, _, h⟩ := asI_elim h
      obtain ⟨z5, _, h⟩ := asI_elim h
      exact h
    · exact h
  · intro n id hid t w hl h; simp only [List.mem_cons, List.not_mem_nil, or_false] at hid; rcases hid with rfl | rfl
    · replace h : asP (t.getD 1 undef) fun z1 => asP (t.getD 2 undef) fun z2 => asP (t.getD 3 undef) fun z3 => asI .i64 (t.getD 4 undef) fun z4 => (straightedgeref03_Of.H K (n + 1)).1 z1 z2 z3 z4 w := h
      obtain ⟨z1, e1, h⟩ := asP_elim h
      obtain ⟨z2, e2, h⟩ := asP_elim h
      obtain ⟨z3, e3, h⟩ := asP_elim h
      obtain ⟨z4, e4, h⟩ := asI_elim h
      rw [mk_of hl [(1, (.pointer z1)), (2, (.pointer z2)), (3, (.pointer z3)), (4, (.int .i64 z4))] (by simp only [List.forall_mem_cons, List.not_mem_nil, false_implies, implies_true, and_true]; exact ⟨e1, e2, e3, e4⟩)]
      exact straightedgeref03_Of.t3 K n z1 z2 z3 z4 _ w h
    · replace h : asP (t.getD 1 undef) fun z1 => asP (t.getD 2 undef) fun z2 => asP (t.getD 3 undef) fun z3 => asI .i64 (t.getD 4 undef) fun z4 => asI .i64 (t.getD 5 undef) fun z5 => (straightedgeref03_Of.H K (n + 1)).2 z1 z2 z3 z4 z5 w := h
      obtain ⟨z1, e1, h⟩ := asP_elim h
      obtain ⟨z2, e2, h⟩ := asP_elim h
      obtain ⟨z3, e3, h⟩ := asP_elim h
      obtain ⟨z4, e4, h⟩ := asI_elim h
      obtain ⟨z5, e5, h⟩ := asI_elim h
      rw [mk_of hl [(1, (.pointer z1)), (2, (.pointer z2)), (3, (.pointer z3)), (4, (.int .i64 z4)), (5, (.int .i64 z5))] (by simp only [List.forall_mem_cons, List.not_mem_nil, false_implies, implies_true, and_true]; exact ⟨e1, e2, e3, e4, e5⟩)]
      exact straightedgeref03_Of.t6 K n z1 z2 z3 z4 z5 _ w h
/-! the same, the local variables taken out -/
def straightedgeref03_Of.e3 (K : Value → World → Prop) (h3 : Nat → Option Addr → Nat → Nat → Int → Int → Int → Int → Nat → Int → Int → Option Addr → Nat → Nat → Nat → Int → Int → Option Addr → Nat → Nat → Int → World → Prop) (h6 : Nat → Option Addr → Nat → Nat → Int → Int → Int → Int → Nat → Int → Int → Option Addr → Nat → Nat → Nat → Int → Int → Option Addr → Nat → Nat → Int → Int → World → Prop) (k1 : Nat) (y1_0p : Option Addr) (y1_0n y1_0c : Nat) (y1_1 : Int) (y1_2 : Int) (y1_3 : Int) (y1_4 : Int) (k2 : Nat) (y2_0 : Int) (y2_1 : Int) (y2_2p : Option Addr) (y2_2n y2_2c : Nat) (k3 : Nat) (y3_0 : Int) (y3_1 : Int) (y3_2p : Option Addr) (y3_2n y3_2c : Nat) (z4 : Int) (w : World) : Prop := br (decide (z4 < y1_2)) (h6 k1 y1_0p y1_0n y1_0c y1_1 y1_2 y1_3 y1_4 k2 y2_0 y2_1 y2_2p y2_2n y2_2c k3 y3_0 y3_1 y3_2p y3_2n y3_2c z4 0 w) (∀ w10 : World, Exc k2 w w10 → K (.agg ⟨[(.int .i64 y3_0), (.int .i64 y3_1), (.slice y3_2p y3_2n y3_2c)]⟩) w10)
def straightedgeref03_Of.e6 (K : Value → World → Prop) (h3 : Nat → Option Addr → Nat → Nat → Int → Int → Int → Int → Nat → Int → Int → Option Addr → Nat → Nat → Nat → Int → Int → Option Addr → Nat → Nat → Int → World → Prop) (h6 : Nat → Option Addr → Nat → Nat → Int → Int → Int → Int → Nat → Int → Int → Option Addr → Nat → Nat → Nat → Int → Int → Option Addr → Nat → Nat → Int → Int → World → Prop) (k1 : Nat) (y1_0p : Option Addr) (y1_0n y1_0c : Nat) (y1_1 : Int) (y1_2 : Int) (y1_3 : Int) (y1_4 : Int) (k2 : Nat) (y2_0 : Int) (y2_1 : Int) (y2_2p : Option Addr) (y2_2n y2_2c : Nat) (k3 : Nat) (y3_0 : Int) (y3_1 : Int) (y3_2p : Option Addr) (y3_2n y3_2c : Nat) (z4 : Int) (z5 : Int) (w : World) : Prop := br (decide (z5 < y1_3)) (ptrSome y1_0p fun q18 => (0 : Int) ≤ (IntKind.i64.wrap ((IntKind.i64.wrap (y1_1 + z4)) + (IntKind.i64.wrap (z5 * y1_4)))) ∧ (IntKind.i64.wrap ((IntKind.i64.wrap (y1_1 + z4)) + (IntKind.i64.wrap (z5 * y1_4)))) < ((y1_0n : Nat) : Int) ∧ rd_f64 w.drew (q18.add (Int.toNat (IntKind.i64.wrap ((IntKind.i64.wrap (y1_1 + z4)) + (IntKind.i64.wrap (z5 * y1_4)))))) fun x19 => straightedgeref03_M_Set.call [(.agg ⟨[(.int .i64 y3_0), (.int .i64 y3_1), (.slice y3_2p y3_2n y3_2c)]⟩), (.int .i64 z4), (.int .i64 z5), (.float .f64 x19)] w.drew fun v20 w21 => Stay [k1, k2, k3] w.drew w21 ∧ v20 = (.tuple ⟨[]⟩) ∧ h6 k1 y1_0p y1_0n y1_0c y1_1 y1_2 y1_3 y1_4 k2 y2_0 y2_1 y2_2p y2_2n y2_2c k3 y3_0 y3_1 y3_2p y3_2n y3_2c z4 (IntKind.i64.wrap (z5 + 1)) w21) (h3 k1 y1_0p y1_0n y1_0c y1_1 y1_2 y1_3 y1_4 k2 y2_0 y2_1 y2_2p y2_2n y2_2c k3 y3_0 y3_1 y3_2p y3_2n y3_2c (IntKind.i64.wrap (z4 + 1)) w)
def straightedgeref03_Of.I (K : Value → World → Prop) : Nat → (Nat → Option Addr → Nat → Nat → Int → Int → Int → Int → Nat → Int → Int → Option Addr → Nat → Nat → Nat → Int → Int → Option Addr → Nat → Nat → Int → World → Prop) × (Nat → Option Addr → Nat → Nat → Int → Int → Int → Int → Nat → Int → Int → Option Addr → Nat → Nat → Nat → Int → Int → Option Addr → Nat → Nat → Int → Int → World → Prop)
  | 0 => (fun _ _ _ _ _ _ _ _ _ _ _ _ _ _ _ _ _ _ _ _ _ _ => False, fun _ _ _ _ _ _ _ _ _ _ _ _ _ _ _ _ _ _ _ _ _ _ _ => False)
  | fu + 1 => (straightedgeref03_Of.e3 K (straightedgeref03_Of.I K fu).1 (straightedgeref03_Of.I K fu).2, straightedgeref03_Of.e6 K (straightedgeref03_Of.I K fu).1 (straightedgeref03_Of.I K fu).2)
def straightedgeref03_Of.s (fu : Nat) (A0_0p : Option Addr) (A0_0n A0_0c : Nat) (A0_1 : Int) (A0_2 : Int) (A0_3 : Int) (A0_4 : Int) (w : World) (K : Value → World → Prop) : Prop := ∀ (k3 : Nat) (w2 : World), k3 = w.heap.size → k3 < w2.heap.size → Ext w w2 → ∀ (k7 : Nat) (w6 : World), k7 = w2.heap.size → k7 < w6.heap.size → Ext w2 w6 → straightedgeref03_New.call [(.int .i64 A0_2), (.int .i64 A0_3)] w6 fun v11 w12 => Stay [k7, k3] w6 w12 ∧ ∃ i13 : Int, ∃ i14 : Int, ∃ (a15 : Option Addr) (n16 c17 : Nat), v11 = (.agg ⟨[(.int .i64 i13), (.int .i64 i14), (.slice a15 n16 c17)]⟩) ∧ ∀ (k20 : Nat) (w19 : World), k20 = w12.heap.size → k20 < w19.heap.size → Ext w12 w19 → ∀ w22 : World, Exc k20 w19 w22 → (straightedgeref03_Of.I K fu).1 k3 A0_0p A0_0n A0_0c A0_1 A0_2 A0_3 A0_4 k7 0 0 none 0 0 k20 i13 i14 a15 n16 c17 0 w22
theorem straightedgeref03_Of.b3_s {K : Value → World → Prop} {x3 : Option Addr → Option Addr → Option Addr → Int → World → Prop} {x6 : Option Addr → Option Addr → Option Addr → Int → Int → World → Prop} {s3 : Nat → Option Addr → Nat → Nat → Int → Int → Int → Int → Nat → Int → Int → Option Addr → Nat → Nat → Nat → Int → Int → Option Addr → Nat → Nat → Int → World → Prop} {s6 : Nat → Option Addr → Nat → Nat → Int → Int → Int → Int → Nat → Int → Int → Option Addr → Nat → Nat → Nat → Int → Int → Option Addr → Nat → Nat → Int → Int → World → Prop} (i3 : ∀ {q1 : Addr} {y1_0p : Option Addr} {y1_0n y1_0c : Nat} {y1_1 : Int} {y1_2 : Int} {y1_3 : Int} {y1_4 : Int} {q2 : Addr} {y2_0 : Int} {y2_1 : Int} {y2_2p : Option Addr} {y2_2n y2_2c : Nat} {q3 : Addr} {y3_0 : Int} {y3_1 : Int} {y3_2p : Option Addr} {y3_2n y3_2c : Nat} {z4 : Int} {w : World}, s3 q1.block y1_0p y1_0n y1_0c y1_1 y1_2 y1_3 y1_4 q2.block y2_0 y2_1 y2_2p y2_2n y2_2c q3.block y3_0 y3_1 y3_2p y3_2n y3_2c z4 w → St w [(q1, [(.slice y1_0p y1_0n y1_0c), (.int .i64 y1_1), (.int .i64 y1_2), (.int .i64 y1_3), (.int .i64 y1_4)]), (q2, [(.int .i64 y2_0), (.int .i64 y2_1), (.slice y2_2p y2_2n y2_2c)]), (q3, [(.int .i64 y3_0), (.int .i64 y3_1), (.slice y3_2p y3_2n y3_2c)])] → x3 (some q1) (some q2) (some q3) z4 w) (i6 : ∀ {q1 : Addr} {y1_0p : Option Addr} {y1_0n y1_0c : Nat} {y1_1 : Int} {y1_2 : Int} {y1_3 : Int} {y1_4 : Int} {q2 : Addr} {y2_0 : Int} {y2_1 : Int} {y2_2p : Option Addr} {y2_2n y2_2c : Nat} {q3 : Addr} {y3_0 : Int} {y3_1 : Int} {y3_2p : Option Addr} {y3_2n y3_2c : Nat} {z4 : Int} {z5 : Int} {w : World}, s6 q1.block y1_0p y1_0n y1_0c y1_1 y1_2 y1_3 y1_4 q2.block y2_0 y2_1 y2_2p y2_2n y2_2c q3.block y3_0 y3_1 y3_2p y3_2n y3_2c z4 z5 w → St w [(q1, [(.slice y1_0p y1_0n y1_0c), (.int .i64 y1_1), (.int .i64 y1_2), (.int .i64 y1_3), (.int .i64 y1_4)]), (q2, [(.int .i64 y2_0), (.int .i64 y2_1), (.slice y2_2p y2_2n y2_2c)]), (q3, [(.int .i64 y3_0), (.int .i64 y3_1), (.slice y3_2p y3_2n y3_2c)])] → x6 (some q1) (some q2) (some q3) z4 z5 w) {q1 : Addr} {y1_0p : Option Addr} {y1_0n y1_0c : Nat} {y1_1 : Int} {y1_2 : Int} {y1_3 : Int} {y1_4 : Int} {q2 : Addr} {y2_0 : Int} {y2_1 : Int} {y2_2p : Option Addr} {y2_2n y2_2c : Nat} {q3 : Addr} {y3_0 : Int} {y3_1 : Int} {y3_2p : Option Addr} {y3_2n y3_2c : Nat} {z4 : Int} {w : World} (h : straightedgeref03_Of.e3 K s3 s6 q1.block y1_0p y1_0n y1_0c y1_1 y1_2 y1_3 y1_4 q2.block y2_0 y2_1 y2_2p y2_2n y2_2c q3.block y3_0 y3_1 y3_2p y3_2n y3_2c z4 w) (st : St w [(q1, [(.slice y1_0p y1_0n y1_0c), (.int .i64 y1_1), (.int .i64 y1_2), (.int .i64 y1_3), (.int .i64 y1_4)]), (q2, [(.int .i64 y2_0), (.int .i64 y2_1), (.slice y2_2p y2_2n y2_2c)]), (q3, [(.int .i64 y3_0), (.int .i64 y3_1), (.slice y3_2p y3_2n y3_2c)])]) : straightedgeref03_Of.b3 K x3 x6 (some q1) (some q2) (some q3) z4 w := by
  unfold straightedgeref03_Of.b3
  unfold straightedgeref03_Of.e3 at h
  refine ptrSome_intro rfl ?_
  refine rd_i64.bx 0 2 st rfl rfl rfl ?_
  refine br_mono (fun h => ?_) (fun h => ?_) h
  · exact i6 h (st.pick [0, 1, 2] (by decide))
  · refine ptrSome_intro rfl ?_
    refine rd_i64_i64_l.bx 2 0 st rfl rfl rfl rfl rfl ?_
    refine ptrSome_intro rfl ?_
    refine St.put 1 0 st rfl rfl rfl rfl (fun w10 he st => ?_)
    replace h := h w10 he
    refine ptrSome_intro rfl ?_
    refine rd_i64_i64_l.bx 1 0 st rfl rfl rfl rfl rfl ?_
    exact h
theorem straightedgeref03_Of.b6_s {K : Value → World → Prop} {x3 : Option Addr → Option Addr → Option Addr → Int → World → Prop} {x6 : Option Addr → Option Addr → Option Addr → Int → Int → World → Prop} {s3 : Nat → Option Addr → Nat → Nat → Int → Int → Int → Int → Nat → Int → Int → Option Addr → Nat → Nat → Nat → Int → Int → Option Addr → Nat → Nat → Int → World → Prop} {s6 : Nat → Option Addr → Nat → Nat → Int → Int → Int → Int → Nat → Int → Int → Option Addr → Nat → Nat → Nat → Int → Int → Option Addr → Nat → Nat → Int → Int → World → Prop} (i3 : ∀ {q1 : Addr} {y1_0p : Option Addr} {y1_0n y1_0c : Nat} {y1_1 : Int} {y1_2 : Int} {y1_3 : Int} {y1_4 : Int} {q2 : Addr} {y2_0 : Int} {y2_1 : Int} {y2_2p : Option Addr} {y2_2n y2_2c : Nat} {q3 : Addr} {y3_0 : Int} {y3_1 : Int} {y3_2p : Option Addr} {y3_2n y3_2c : Nat} {z4 : Int} {w : World}, s3 q1.block y1_0p y1_0n y1_0c y1_1 y1_2 y1_3 y1_4 q2.block y2_0 y2_1 y2_2p y2_2n y2_2c q3.block y3_0 y3_1 y3_2p y3_2n y3_2c z4 w → St w [(q1, [(.slice y1_0p y1_0n y1_0c), (.int .i64 y1_1), (.int .i64 y1_2), (.int .i64 y1_3), (.int .i64 y1_4)]), (q2, [(.int .i64 y2_0), (.int .i64 y2_1), (.slice y2_2p y2_2n y2_2c)]), (q3, [(.int .i64 y3_0), (.int .i64 y3_1), (.slice y3_2p y3_2n y3_2c)])] → x3 (some q1) (some q2) (some q3) z4 w) (i6 : ∀ {q1 : Addr} {y1_0p : Option Addr} {y1_0n y1_0c : Nat} {y1_1 : Int} {y1_2 : Int} {y1_3 : Int} {y1_4 : Int} {q2 : Addr} {y2_0 : Int} {y2_1 : Int} {y2_2p : Option Addr} {y2_2n y2_2c : Nat} {q3 : Addr} {y3_0 : Int} {y3_1 : Int} {y3_2p : Option Addr} {y3_2n y3_2c : Nat} {z4 : Int} {z5 : Int} {w : World}, s6 q1.block y1_0p y1_0n y1_0c y1_1 y1_2 y1_3 y1_4 q2.block y2_0 y2_1 y2_2p y2_2n y2_2c q3.block y3_0 y3_1 y3_2p y3_2n y3_2c z4 z5 w → St w [(q1, [(.slice y1_0p y1_0n y1_0c), (.int .i64 y1_1), (.int .i64 y1_2), (.int .i64 y1_3), (.int .i64 y1_4)]), (q2, [(.int .i64 y2_0), (.int .i64 y2_1), (.slice y2_2p y2_2n y2_2c)]), (q3, [(.int .i64 y3_0), (.int .i64 y3_1), (.slice y3_2p y3_2n y3_2c)])] → x6 (some q1) (some q2) (some q3) z4 z5 w) {q1 : Addr} {y1_0p : Option Addr} {y1_0n y1_0c : Nat} {y1_1 : Int} {y1_2 : Int} {y1_3 : Int} {y1_4 : Int} {q2 : Addr} {y2_0 : Int} {y2_1 : Int} {y2_2p : Option Addr} {y2_2n y2_2c : Nat} {q3 : Addr} {y3_0 : Int} {y3_1 : Int} {y3_2p : Option Addr} {y3_2n y3_2c : Nat} {z4 : Int} {z5 : Int} {w : World} (h : straightedgeref03_Of.e6 K s3 s6 q1.block y1_0p y1_0n y1_0c y1_1 y1_2 y1_3 y1_4 q2.block y2_0 y2_1 y2_2p y2_2n y2_2c q3.block y3_0 y3_1 y3_2p y3_2n y3_2c z4 z5 w) (st : St w [(q1, [(.slice y1_0p y1_0n y1_0c), (.int .i64 y1_1), (.int .i64 y1_2), (.int .i64 y1_3), (.int .i64 y1_4)]), (q2, [(.int .i64 y2_0), (.int .i64 y2_1), (.slice y2_2p y2_2n y2_2c)]), (q3, [(.int .i64 y3_0), (.int .i64 y3_1), (.slice y3_2p y3_2n y3_2c)])]) : straightedgeref03_Of.b6 K x3 x6 (some q1) (some q2) (some q3) z4 z5 w := by
  unfold straightedgeref03_Of.b6
  unfold straightedgeref03_Of.e6 at h
  refine ptrSome_intro rfl ?_
  refine rd_i64.bx 0 3 st rfl rfl rfl ?_
  refine br_mono (fun h => ?_) (fun h => ?_) h
  · replace st := st.drew
    have st3 := st
    refine ptrSome_intro rfl ?_
    refine rd_i64_i64_l.bx 2 0 st3 rfl rfl rfl rfl rfl ?_
    refine ptrSome_intro rfl ?_
    refine rd_l.bx 0 0 st3 rfl rfl rfl ?_
    refine ptrSome_intro rfl ?_
    refine rd_i64.bx 0 1 st3 rfl rfl rfl ?_
    refine ptrSome_intro rfl ?_
    refine rd_i64.bx 0 4 st3 rfl rfl rfl ?_
    refine ptrSome_mono (fun q18 h => ?_) h
    refine And.imp_right (fun h => ?_) h
    refine And.imp_right (fun h => ?_) h
    refine rd_f64.mono (fun x19 h => ?_) h
    refine CallF.mono h (fun v20 w21 h => ?_)
    obtain ⟨hK, h⟩ := h
    replace st := st.stay hK
    refine And.imp_right (fun h => ?_) h
    exact i6 h (st.pick [0, 1, 2] (by decide))
  · exact i3 h (st.pick [0, 1, 2] (by decide))
theorem straightedgeref03_Of.H_s {K : Value → World → Prop} (fu : Nat) : (∀ {q1 : Addr} {y1_0p : Option Addr} {y1_0n y1_0c : Nat} {y1_1 : Int} {y1_2 : Int} {y1_3 : Int} {y1_4 : Int} {q2 : Addr} {y2_0 : Int} {y2_1 : Int} {y2_2p : Option Addr} {y2_2n y2_2c : Nat} {q3 : Addr} {y3_0 : Int} {y3_1 : Int} {y3_2p : Option Addr} {y3_2n y3_2c : Nat} {z4 : Int} {w : World}, (straightedgeref03_Of.I K fu).1 q1.block y1_0p y1_0n y1_0c y1_1 y1_2 y1_3 y1_4 q2.block y2_0 y2_1 y2_2p y2_2n y2_2c q3.block y3_0 y3_1 y3_2p y3_2n y3_2c z4 w → St w [(q1, [(.slice y1_0p y1_0n y1_0c), (.int .i64 y1_1), (.int .i64 y1_2), (.int .i64 y1_3), (.int .i64 y1_4)]), (q2, [(.int .i64 y2_0), (.int .i64 y2_1), (.slice y2_2p y2_2n y2_2c)]), (q3, [(.int .i64 y3_0), (.int .i64 y3_1), (.slice y3_2p y3_2n y3_2c)])] → (straightedgeref03_Of.H K fu).1 (some q1) (some q2) (some q3) z4 w) ∧ (∀ {q1 : Addr} {y1_0p : Option Addr} {y1_0n y1_0c : Nat} {y1_1 : Int} {y1_2 : Int} {y1_3 : Int} {y1_4 : Int} {q2 : Addr} {y2_0 : Int} {y2_1 : Int} {y2_2p : Option Addr} {y2_2n y2_2c : Nat} {q3 : Addr} {y3_0 : Int} {y3_1 : Int} {y3_2p : Option Addr} {y3_2n y3_2c : Nat} {z4 : Int} {z5 : Int} {w : World}, (straightedgeref03_Of.I K fu).2 q1.block y1_0p y1_0n y1_0c y1_1 y1_2 y1_3 y1_4 q2.block y2_0 y2_1 y2_2p y2_2n y2_2c q3.block y3_0 y3_1 y3_2p y3_2n y3_2c z4 z5 w → St w [(q1, [(.slice y1_0p y1_0n y1_0c), (.int .i64 y1_1), (.int .i64 y1_2), (.int .i64 y1_3), (.int .i64 y1_4)]), (q2, [(.int .i64 y2_0), (.int .i64 y2_1), (.slice y2_2p y2_2n y2_2c)]), (q3, [(.int .i64 y3_0), (.int .i64 y3_1), (.slice y3_2p y3_2n y3_2c)])] → (straightedgeref03_Of.H K fu).2 (some q1) (some q2) (some q3) z4 z5 w) := by
  induction fu with
  | zero => exact ⟨fun h _ => False.elim h, fun h _ => False.elim h⟩
  | succ fu ih => exact ⟨fun h st => straightedgeref03_Of.b3_s (K := K) (x3 := (straightedgeref03_Of.H K fu).1) (s3 := (straightedgeref03_Of.I K fu).1) (x6 := (straightedgeref03_Of.H K fu).2) (s6 := (straightedgeref03_Of.I K fu).2) ih.1 ih.2 h st, fun h st => straightedgeref03_Of.b6_s (K := K) (x3 := (straightedgeref03_Of.H K fu).1) (s3 := (straightedgeref03_Of.I K fu).1) (x6 := (straightedgeref03_Of.H K fu).2) (s6 := (straightedgeref03_Of.I K fu).2) ih.1 ih.2 h st⟩
theorem straightedgeref03_Of.os (fu : Nat) {A0_0p : Option Addr} {A0_0n A0_0c : Nat} {A0_1 : Int} {A0_2 : Int} {A0_3 : Int} {A0_4 : Int} {w : World} {K : Value → World → Prop} (h : straightedgeref03_Of.s fu A0_0p A0_0n A0_0c A0_1 A0_2 A0_3 A0_4 w K) : straightedgeref03_Of.call [(.agg ⟨[(.slice A0_0p A0_0n A0_0c), (.int .i64 A0_1), (.int .i64 A0_2), (.int .i64 A0_3), (.int .i64 A0_4)]⟩)] w K := by
  refine straightedgeref03_Of.ok fu ?_
  have st := St.nil w
  unfold straightedgeref03_Of.x
  unfold straightedgeref03_Of.s at h
  refine St.new (St.nil _) (fun q1 w2 hk hlt he st => ?_)
  replace h := h q1.block w2 hk hlt he
  refine St.new st (fun q5 w6 hk hlt he st => ?_)
  replace h := h q5.block w6 hk hlt he
  refine rd_i64.bx 1 2 st rfl rfl rfl ?_
  refine rd_i64.bx 1 3 st rfl rfl rfl ?_
  refine CallF.mono h (fun v11 w12 h => ?_)
  obtain ⟨hK, h⟩ := h
  replace st := st.stay hK
  obtain ⟨i13, i14, a15, n16, c17, h⟩ := h
  refine ⟨i13, i14, a15, n16, c17, ?_⟩
  refine And.imp_right (fun h => ?_) h
  refine St.new st (fun q18 w19 hk hlt he st => ?_)
  replace h := h q18.block w19 hk hlt he
  refine St.put 0 0 st rfl rfl rfl rfl (fun w22 he st => ?_)
  replace h := h w22 he
  exact (straightedgeref03_Of.H_s fu).1 h (st.pick [2, 1, 0] (by decide))

/-! ### (straightedge/straightedgeref03.M).At: function 13 -/
def straightedgeref03_M_At.x (A0_0 : Int) (A0_1 : Int) (A0_2p : Option Addr) (A0_2n A0_2c : Nat) (A1 : Int) (A2 : Int) (w : World) (K : Value → World → Prop) : Prop := newB [(.int .i64 A0_0), (.int .i64 A0_1), (.slice A0_2p A0_2n A0_2c)] 29 w fun q1 w2 => rd_l w2 (q1.add 2) fun a3 n4 c5 => rd_i64 w2 (q1.add 1) fun i6 => ptrSome a3 fun q7 => (0 : Int) ≤ (IntKind.i64.wrap ((IntKind.i64.wrap (A1 * i6)) + A2)) ∧ (IntKind.i64.wrap ((IntKind.i64.wrap (A1 * i6)) + A2)) < ((n4 : Nat) : Int) ∧ rd_f64 w2 (q7.add (Int.toNat (IntKind.i64.wrap ((IntKind.i64.wrap (A1 * i6)) + A2)))) fun x8 => K (.float .f64 x8) w2
theorem straightedgeref03_M_At.ok {A0_0 : Int} {A0_1 : Int} {A0_2p : Option Addr} {A0_2n A0_2c : Nat} {A1 : Int} {A2 : Int} {w : World} {K : Value → World → Prop} (h : straightedgeref03_M_At.x A0_0 A0_1 A0_2p A0_2n A0_2c A1 A2 w K) : straightedgeref03_M_At.call [(.agg ⟨[(.int .i64 A0_0), (.int .i64 A0_1), (.slice A0_2p A0_2n A0_2c)]⟩), (.int .i64 A1), (.int .i64 A2)] w K :=
  callF_of_ex0 (f := Try.f13) Try.func13 rfl mixed (by kernel_rfl) (Eq.mp (by kernel_rfl) h)
/-! the same, the local variables taken out -/
def straightedgeref03_M_At.s (A0_0 : Int) (A0_1 : Int) (A0_2p : Option Addr) (A0_2n A0_2c : Nat) (A1 : Int) (A2 : Int) (w : World) (K : Value → World → Prop) : Prop := ∀ (k3 : Nat) (w2 : World), k3 = w.heap.size → k3 < w2.heap.size → Ext w w2 → ptrSome A0_2p fun q9 => (0 : Int) ≤ (IntKind.i64.wrap ((IntKind.i64.wrap (A1 * A0_1)) + A2)) ∧ (IntKind.i64.wrap ((IntKind.i64.wrap (A1 * A0_1)) + A2)) < ((A0_2n : Nat) : Int) ∧ rd_f64 w2 (q9.add (Int.toNat (IntKind.i64.wrap ((IntKind.i64.wrap (A1 * A0_1)) + A2)))) fun x10 => K (.float .f64 x10) w2
theorem straightedgeref03_M_At.os {A0_0 : Int} {A0_1 : Int} {A0_2p : Option Addr} {A0_2n A0_2c : Nat} {A1 : Int} {A2 : Int} {w : World} {K : Value → World → Prop} (h : straightedgeref03_M_At.s A0_0 A0_1 A0_2p A0_2n A0_2c A1 A2 w K) : straightedgeref03_M_At.call [(.agg ⟨[(.int .i64 A0_0), (.int .i64 A0_1), (.slice A0_2p A0_2n A0_2c)]⟩), (.int .i64 A1), (.int .i64 A2)] w K := by
  refine straightedgeref03_M_At.ok ?_
  have st := St.nil w
  unfold straightedgeref03_M_At.x
  unfold straightedgeref03_M_At.s at h
  refine St.new (St.nil _) (fun q1 w2 hk hlt he st => ?_)
  replace h := h q1.block w2 hk hlt he
  refine rd_l.bx 0 2 st rfl rfl rfl ?_
  refine rd_i64.bx 0 1 st rfl rfl rfl ?_
  exact h

/-! ### straightedge/straightedgeref03.within: function 28 -/
def straightedgeref03_within.x (A0 : Int) (A1 : Int) (A2 : Int) (A3 : Int) (A4 : Int) (w : World) (K : Value → World → Prop) : Prop := br (decide (A1 ≥ A0)) (K (.bool false) w) (br (decide (A4 ≥ (IntKind.i64.wrap (A0 - A1)))) (K (.bool false) w) (br (A2 == 0) (K (.bool true) w) (br (A2 == 0) (False) (K (.bool (decide (A3 ≤ (IntKind.i64.wrap (Int.tdiv (IntKind.i64.wrap ((IntKind.i64.wrap ((IntKind.i64.wrap (A0 - A1)) - A4)) - 1)) A2))))) w))))
theorem straightedgeref03_within.ok {A0 : Int} {A1 : Int} {A2 : Int} {A3 : Int} {A4 : Int} {w : World} {K : Value → World → Prop} (h : straightedgeref03_within.x A0 A1 A2 A3 A4 w K) : straightedgeref03_within.call [(.int .i64 A0), (.int .i64 A1), (.int .i64 A2), (.int .i64 A3), (.int .i64 A4)] w K :=
  callF_of_ex0 (f := Try.f28) Try.func28 rfl mixed (by kernel_rfl) (Eq.mp (by kernel_rfl) h)

/-! ### straightedge/straightedgeref03.New: function 30 -/
def straightedgeref03_New.x (A0 : Int) (A1 : Int) (w : World) (K : Value → World → Prop) : Prop := newB [(.int .i64 0), (.int .i64 0), (.slice none 0 0)] 29 w fun q1 w2 => (0 : Int) ≤ (IntKind.i64.wrap (A0 * A1)) ∧ ((IntKind.i64.wrap (A0 * A1)) : Int) ≤ (IntKind.i64.wrap (A0 * A1)) ∧ ((8 : Nat) : Int) * (IntKind.i64.wrap (A0 * A1)) ≤ 281474976710656 ∧ (IntKind.i64.wrap (A0 * A1)) ≤ 9223372036854775807 ∧ newB ((List.range (Int.toNat (IntKind.i64.wrap (A0 * A1)))).map fun j => List.getD [(.float .f64 0)] (j % 1) default) 38 w2 fun q3 w4 => stPT q1 0 [(.int .i64 A0), (.int .i64 A1), (.slice (some q3) (Int.toNat (IntKind.i64.wrap (A0 * A1))) (Int.toNat (IntKind.i64.wrap (A0 * A1))))] w4 fun w5 => rd_i64_i64_l w5 q1 fun i6 i7 a8 n9 c10 => K (.agg ⟨[(.int .i64 i6), (.int .i64 i7), (.slice a8 n9 c10)]⟩) w5
theorem straightedgeref03_New.ok {A0 : Int} {A1 : Int} {w : World} {K : Value → World → Prop} (h : straightedgeref03_New.x A0 A1 w K) : straightedgeref03_New.call [(.int .i64 A0), (.int .i64 A1)] w K :=
  callF_of_ex0 (f := Try.f30) Try.func30 rfl mixed (by kernel_rfl) (Eq.mp (by kernel_rfl) h)
/-! the same, the local variables taken out -/
def straightedgeref03_New.s (A0 : Int) (A1 : Int) (w : World) (K : Value → World → Prop) : Prop := ∀ (k3 : Nat) (w2 : World), k3 = w.heap.size → k3 < w2.heap.size → Ext w w2 → (0 : Int) ≤ (IntKind.i64.wrap (A0 * A1)) ∧ ((IntKind.i64.wrap (A0 * A1)) : Int) ≤ (IntKind.i64.wrap (A0 * A1)) ∧ ((8 : Nat) : Int) * (IntKind.i64.wrap (A0 * A1)) ≤ 281474976710656 ∧ (IntKind.i64.wrap (A0 * A1)) ≤ 9223372036854775807 ∧ newB ((List.range (Int.toNat (IntKind.i64.wrap (A0 * A1)))).map fun j => List.getD [(.float .f64 0)] (j % 1) default) 38 w2 fun q5 w6 => ∀ w7 : World, Exc k3 w6 w7 → K (.agg ⟨[(.int .i64 A0), (.int .i64 A1), (.slice ((some q5) : Option Addr) (Int.toNat (IntKind.i64.wrap (A0 * A1))) (Int.toNat (IntKind.i64.wrap (A0 * A1))))]⟩) w7
theorem straightedgeref03_New.os {A0 : Int} {A1 : Int} {w : World} {K : Value → World → Prop} (h : straightedgeref03_New.s A0 A1 w K) : straightedgeref03_New.call [(.int .i64 A0), (.int .i64 A1)] w K := by
  refine straightedgeref03_New.ok ?_
  have st := St.nil w
  unfold straightedgeref03_New.x
  unfold straightedgeref03_New.s at h
  refine St.new (St.nil _) (fun q1 w2 hk hlt he st => ?_)
  replace h := h q1.block w2 hk hlt he
  refine And.imp_right (fun h => ?_) h
  refine And.imp_right (fun h => ?_) h
  refine And.imp_right (fun h => ?_) h
  refine And.imp_right (fun h => ?_) h
  refine newB_mono st h (fun q5 w6 st h => ?_)
  refine St.put 0 0 st rfl rfl rfl rfl (fun w7 he st => ?_)
  replace h := h w7 he
  refine rd_i64_i64_l.bx 0 0 st rfl rfl rfl rfl rfl ?_
  exact h

/-! ### (straightedge/straightedgeref03.M).Set: function 31 -/
def straightedgeref03_M_Set.x (A0_0 : Int) (A0_1 : Int) (A0_2p : Option Addr) (A0_2n A0_2c : Nat) (A1 : Int) (A2 : Int) (A3 : Nat) (w : World) (K : Value → World → Prop) : Prop := newB [(.int .i64 A0_0), (.int .i64 A0_1), (.slice A0_2p A0_2n A0_2c)] 29 w fun q1 w2 => rd_l w2 (q1.add 2) fun a3 n4 c5 => rd_i64 w2 (q1.add 1) fun i6 => ptrSome a3 fun q7 => (0 : Int) ≤ (IntKind.i64.wrap ((IntKind.i64.wrap (A1 * i6)) + A2)) ∧ (IntKind.i64.wrap ((IntKind.i64.wrap (A1 * i6)) + A2)) < ((n4 : Nat) : Int) ∧ stPT (q7.add (Int.toNat (IntKind.i64.wrap ((IntKind.i64.wrap (A1 * i6)) + A2)))) 0 [(.float .f64 A3)] w2 fun w8 => K (.tuple ⟨[]⟩) w8
theorem straightedgeref03_M_Set.ok {A0_0 : Int} {A0_1 : Int} {A0_2p : Option Addr} {A0_2n A0_2c : Nat} {A1 : Int} {A2 : Int} {A3 : Nat} {w : World} {K : Value → World → Prop} (h : straightedgeref03_M_Set.x A0_0 A0_1 A0_2p A0_2n A0_2c A1 A2 A3 w K) : straightedgeref03_M_Set.call [(.agg ⟨[(.int .i64 A0_0), (.int .i64 A0_1), (.slice A0_2p A0_2n A0_2c)]⟩), (.int .i64 A1), (.int .i64 A2), (.float .f64 A3)] w K :=
  callF_of_ex0 (f := Try.f31) Try.func31 rfl mixed (by kernel_rfl) (Eq.mp (by kernel_rfl) h)
/-! the same, the local variables taken out -/
def straightedgeref03_M_Set.s (A0_0 : Int) (A0_1 : Int) (A0_2p : Option Addr) (A0_2n A0_2c : Nat) (A1 : Int) (A2 : Int) (A3 : Nat) (w : World) (K : Value → World → Prop) : Prop := ∀ (k3 : Nat) (w2 : World), k3 = w.heap.size → k3 < w2.heap.size → Ext w w2 → ptrSome A0_2p fun q9 => (0 : Int) ≤ (IntKind.i64.wrap ((IntKind.i64.wrap (A1 * A0_1)) + A2)) ∧ (IntKind.i64.wrap ((IntKind.i64.wrap (A1 * A0_1)) + A2)) < ((A0_2n : Nat) : Int) ∧ stPT (q9.add (Int.toNat (IntKind.i64.wrap ((IntKind.i64.wrap (A1 * A0_1)) + A2)))) 0 [(.float .f64 A3)] w2 fun w10 => Keep [k3] w2 w10 ∧ K (.tuple ⟨[]⟩) w10
theorem straightedgeref03_M_Set.os {A0_0 : Int} {A0_1 : Int} {A0_2p : Option Addr} {A0_2n A0_2c : Nat} {A1 : Int} {A2 : Int} {A3 : Nat} {w : World} {K : Value → World → Prop} (h : straightedgeref03_M_Set.s A0_0 A0_1 A0_2p A0_2n A0_2c A1 A2 A3 w K) : straightedgeref03_M_Set.call [(.agg ⟨[(.int .i64 A0_0), (.int .i64 A0_1), (.slice A0_2p A0_2n A0_2c)]⟩), (.int .i64 A1), (.int .i64 A2), (.float .f64 A3)] w K := by
  refine straightedgeref03_M_Set.ok ?_
  have st := St.nil w
  unfold straightedgeref03_M_Set.x
  unfold straightedgeref03_M_Set.s at h
  refine St.new (St.nil _) (fun q1 w2 hk hlt he st => ?_)
  replace h := h q1.block w2 hk hlt he
  refine rd_l.bx 0 2 st rfl rfl rfl ?_
  refine rd_i64.bx 0 1 st rfl rfl rfl ?_
  refine ptrSome_mono (fun q9 h => ?_) h
  refine And.imp_right (fun h => ?_) h
  refine And.imp_right (fun h => ?_) h
  refine stPT_mono (fun w10 h => ?_) h
  obtain ⟨hK, h⟩ := h
  replace st := st.keep hK
  exact h

end Go.Proofs.Ytgdkahbnepafgaa

/-! ### AGref05 -/
/- The explicit forms of the functions of one package, and that the calls do what they say. Written by wip/tools/wk2.py. -/
set_option maxHeartbeats 4000000
set_option maxRecDepth 100000
set_option linter.unusedVariables false
namespace Go.Proofs.Ytgdkahbnepafgaa
open Go Go.Wk

/-! ### straightedge/straightedgeref05.Greatest: function 47 -/
def straightedgeref05_Greatest.b3 (K : Value → World → Prop) (h3 : Option Addr → Nat → Nat → Nat → Int → World → Prop) (h8 : Option Addr → Nat → Nat → Nat → Int → World → Prop) (z0p : Option Addr) (z0n z0c : Nat) (z3 : Nat) (z4 : Int) (w : World) : Prop := br (decide (z4 < ((z0n : Nat) : Int))) (ptrSome z0p fun q2 => (0 : Int) ≤ z4 ∧ z4 < ((z0n : Nat) : Int) ∧ rd_f64 w.drew (q2.add (Int.toNat z4)) fun x3 => ptrSome z0p fun q4 => (0 : Int) ≤ z4 ∧ z4 < ((z0n : Nat) : Int) ∧ rd_f64 w.drew (q4.add (Int.toNat z4)) fun x5 => br (fne .f64 x3 x5) (ptrSome z0p fun q6 => (0 : Int) ≤ z4 ∧ z4 < ((z0n : Nat) : Int) ∧ rd_f64 w.drew (q6.add (Int.toNat z4)) fun x7 => K (.float .f64 x7) w.drew) (h3 z0p z0n z0c z3 (IntKind.i64.wrap (z4 + 1)) (w.drew))) (h8 z0p z0n z0c z3 0 w)
def straightedgeref05_Greatest.b8 (K : Value → World → Prop) (h3 : Option Addr → Nat → Nat → Nat → Int → World → Prop) (h8 : Option Addr → Nat → Nat → Nat → Int → World → Prop) (z0p : Option Addr) (z0n z0c : Nat) (z3 : Nat) (z5 : Int) (w : World) : Prop := br (decide (z5 < ((z0n : Nat) : Int))) (ptrSome z0p fun q1 => (0 : Int) ≤ z5 ∧ z5 < ((z0n : Nat) : Int) ∧ rd_f64 w (q1.add (Int.toNat z5)) fun x2 => br (fgt .f64 x2 z3) (ptrSome z0p fun q3 => (0 : Int) ≤ z5 ∧ z5 < ((z0n : Nat) : Int) ∧ rd_f64 w (q3.add (Int.toNat z5)) fun x4 => h8 z0p z0n z0c x4 (IntKind.i64.wrap (z5 + 1)) w) (h8 z0p z0n z0c z3 (IntKind.i64.wrap (z5 + 1)) w)) (K (.float .f64 z3) w)
def straightedgeref05_Greatest.H (K : Value → World → Prop) : Nat → (Option Addr → Nat → Nat → Nat → Int → World → Prop) × (Option Addr → Nat → Nat → Nat → Int → World → Prop)
  | 0 => (fun _ _ _ _ _ _ => False, fun _ _ _ _ _ _ => False)
  | fu + 1 => (straightedgeref05_Greatest.b3 K (straightedgeref05_Greatest.H K fu).1 (straightedgeref05_Greatest.H K fu).2, straightedgeref05_Greatest.b8 K (straightedgeref05_Greatest.H K fu).1 (straightedgeref05_Greatest.H K fu).2)
def straightedgeref05_Greatest.x (fu : Nat) (A0p : Option Addr) (A0n A0c : Nat) (w : World) (K : Value → World → Prop) : Prop := (straightedgeref05_Greatest.H K fu).1 A0p A0n A0c 0 0 w
def straightedgeref05_Greatest.hd (K : Value → World → Prop) (n id : Nat) (t : List Value) (w : World) : Prop :=
  match id with
  | 3 => asL (t.getD 0 undef) fun z0p z0n z0c => asF .f64 (t.getD 3 undef) fun z3 => asI .i64 (t.getD 4 undef) fun z4 => (straightedgeref05_Greatest.H K n).1 z0p z0n z0c z3 z4 w
  | 8 => asL (t.getD 0 undef) fun z0p z0n z0c => asF .f64 (t.getD 3 undef) fun z3 => asI .i64 (t.getD 5 undef) fun z5 => (straightedgeref05_Greatest.H K n).2 z0p z0n z0c z3 z5 w
  | _ => False
theorem straightedgeref05_Greatest.t3 (K : Value → World → Prop) (n : Nat) (z0p : Option Addr) (z0n z0c : Nat) (z3 : Nat) (z4 : Int) (u : Nat → Value) (w : World) (h : (straightedgeref05_Greatest.H K (n + 1)).1 z0p z0n z0c z3 z4 w) :
    exT prog [3, 8] (straightedgeref05_Greatest.hd K n) Try.f47 3 42 [(0, (.slice z0p z0n z0c)), (3, (.float .f64 z3)), (4, (.int .i64 z4))] u w K := Eq.mp (by kernel_rfl) h
theorem straightedgeref05_Greatest.t8 (K : Value → World → Prop) (n : Nat) (z0p : Option Addr) (z0n z0c : Nat) (z3 : Nat) (z5 : Int) (u : Nat → Value) (w : World) (h : (straightedgeref05_Greatest.H K (n + 1)).2 z0p z0n z0c z3 z5 w) :
    exT prog [3, 8] (straightedgeref05_Greatest.hd K n) Try.f47 8 42 [(0, (.slice z0p z0n z0c)), (3, (.float .f64 z3)), (5, (.int .i64 z5))] u w K := Eq.mp (by kernel_rfl) h
theorem straightedgeref05_Greatest.ok (fu : Nat) {A0p : Option Addr} {A0n A0c : Nat} {w : World} {K : Value → World → Prop} (h : straightedgeref05_Greatest.x fu A0p A0n A0c w K) : straightedgeref05_Greatest.call [(.slice A0p A0n A0c)] w K := by
  refine callF_of_ex (cuts := [3, 8]) (H := straightedgeref05_Greatest.hd K) (N := 42) Try.func47 rfl mixed (by kernel_rfl) ?_ ?_ ?_ rfl (n := fu) (Eq.mp (by kernel_rfl) h)
  · intro id hid; simp only [List.mem_cons, List.not_mem_nil, or_false] at hid; rcases hid with rfl | rfl
    · exact (by kernel_rfl : (stacks (bodyOf Try.f47) []).filter (headIs 3) = [at_ (bodyOf Try.f47) 3])
    · exact (by kernel_rfl : (stacks (bodyOf Try.f47) []).filter (headIs 8) = [at_ (bodyOf Try.f47) 8])
  · intro id t w h
    unfold straightedgeref05_Greatest.hd at h
    split at h
    · obtain ⟨z0p, z0n, z0c, _, h⟩ := asL_elim h
      obtain ⟨z3, _, h⟩ := asF_elim h
      obtain ⟨z4, _, h⟩ := asI_elim h
      exact h
    · obtain ⟨z0p, z0n, z0c, _, h⟩ := asL_elim h
      obtain ⟨z3, _, h⟩ := asF_elim h
      obtain ⟨z5, _, h⟩ := asI_elim h
      exact h
    · exact h
  · intro n id hid t w hl h; simp only [List.mem_cons, List.not_mem_nil, or_false] at hid; rcases hid with rfl | rfl
    · replace h : asL (t.getD 0 undef) fun z0p z0n z0c => asF .f64 (t.getD 3 undef) fun z3 => asI .i64 (t.getD 4 undef) fun z4 => (straightedgeref05_Greatest.H K (n + 1)).1 z0p z0n z0c z3 z4 w := h
      obtain ⟨z0p, z0n, z0c, e0, h⟩ := asL_elim h
      obtain ⟨z3, e3, h⟩ := asF_elim h
      obtain ⟨z4, e4, h⟩ := asI_elim h
      rw [mk_of hl [(0, (.slice z0p z0n z0c)), (3, (.float .f64 z3)), (4, (.int .i64 z4))] (by simp only [List.forall_mem_cons, List.not_mem_nil, false_implies, implies_true, and_true]; exact ⟨e0, e3, e4⟩)]
      exact straightedgeref05_Greatest.t3 K n z0p z0n z0c z3 z4 _ w h
    · replace h : asL (t.getD 0 undef) fun z0p z0n z0c => asF .f64 (t.getD 3 undef) fun z3 => asI .i64 (t.getD 5 undef) fun z5 => (straightedgeref05_Greatest.H K (n + 1)).2 z0p z0n z0c z3 z5 w := h
      obtain ⟨z0p, z0n, z0c, e0, h⟩ := asL_elim h
      obtain ⟨z3, e3, h⟩ := asF_elim h
      obtain ⟨z5, e5, h⟩ := asI_elim h
      rw [mk_of hl [(0, (.slice z0p z0n z0c)), (3, (.float .f64 z3)), (5, (.int .i64 z5))] (by simp only [List.forall_mem_cons, List.not_mem_nil, false_implies, implies_true, and_true]; exact ⟨e0, e3, e5⟩)]
      exact straightedgeref05_Greatest.t8 K n z0p z0n z0c z3 z5 _ w h

end Go.Proofs.Ytgdkahbnepafgaa

/-! ### AGref10 -/
/- The explicit forms of the functions of one package, and that the calls do what they say. Written by wip/tools/wk2.py. -/
set_option maxHeartbeats 4000000
set_option maxRecDepth 100000
set_option linter.unusedVariables false
namespace Go.Proofs.Ytgdkahbnepafgaa
open Go Go.Wk

/-! ### straightedge/straightedgeref10.Max: function 42 -/
def straightedgeref10_Max.x (A0_0 : Int) (A0_1 : Int) (A0_2p : Option Addr) (A0_2n A0_2c : Nat) (w : World) (K : Value → World → Prop) : Prop := newB [(.int .i64 A0_0), (.int .i64 A0_1), (.slice A0_2p A0_2n A0_2c)] 29 w fun q1 w2 => rd_l w2 (q1.add 2) fun a3 n4 c5 => straightedgeref10_Most.call [(.slice a3 n4 c5)] w2 fun v6 w7 => ∃ x8 : Nat, v6 = (.float .f64 x8) ∧ K (.float .f64 x8) w7
theorem straightedgeref10_Max.ok {A0_0 : Int} {A0_1 : Int} {A0_2p : Option Addr} {A0_2n A0_2c : Nat} {w : World} {K : Value → World → Prop} (h : straightedgeref10_Max.x A0_0 A0_1 A0_2p A0_2n A0_2c w K) : straightedgeref10_Max.call [(.agg ⟨[(.int .i64 A0_0), (.int .i64 A0_1), (.slice A0_2p A0_2n A0_2c)]⟩)] w K :=
  callF_of_ex0 (f := Try.f42) Try.func42 rfl mixed (by kernel_rfl) (Eq.mp (by kernel_rfl) h)
/-! the same, the local variables taken out -/
def straightedgeref10_Max.s (A0_0 : Int) (A0_1 : Int) (A0_2p : Option Addr) (A0_2n A0_2c : Nat) (w : World) (K : Value → World → Prop) : Prop := ∀ (k3 : Nat) (w2 : World), k3 = w.heap.size → k3 < w2.heap.size → Ext w w2 → straightedgeref10_Most.call [(.slice A0_2p A0_2n A0_2c)] w2 fun v8 w9 => Stay [k3] w2 w9 ∧ ∃ x10 : Nat, v8 = (.float .f64 x10) ∧ K (.float .f64 x10) w9
theorem straightedgeref10_Max.os {A0_0 : Int} {A0_1 : Int} {A0_2p : Option Addr} {A0_2n A0_2c : Nat} {w : World} {K : Value → World → Prop} (h : straightedgeref10_Max.s A0_0 A0_1 A0_2p A0_2n A0_2c w K) : straightedgeref10_Max.call [(.agg ⟨[(.int .i64 A0_0), (.int .i64 A0_1), (.slice A0_2p A0_2n A0_2c)]⟩)] w K := by
  refine straightedgeref10_Max.ok ?_
  have st := St.nil w
  unfold straightedgeref10_Max.x
  unfold straightedgeref10_Max.s at h
  refine St.new (St.nil _) (fun q1 w2 hk hlt he st => ?_)
  replace h := h q1.block w2 hk hlt he
  refine rd_l.bx 0 2 st rfl rfl rfl ?_
  refine CallF.mono h (fun v8 w9 h => ?_)
  obtain ⟨hK, h⟩ := h
  replace st := st.stay hK
  exact h

/-! ### straightedge/straightedgeref10.Most: function 68 -/
def straightedgeref10_Most.b3 (K : Value → World → Prop) (h3 : Option Addr → Nat → Nat → Option Addr → Nat → Nat → Int → World → Prop) (z0p : Option Addr) (z0n z0c : Nat) (z3p : Option Addr) (z3n z3c : Nat) (z4 : Int) (w : World) : Prop := br (decide (z4 < ((z0n : Nat) : Int))) (ptrSome z0p fun q1 => (0 : Int) ≤ z4 ∧ z4 < ((z0n : Nat) : Int) ∧ rd_f64 w (q1.add (Int.toNat z4)) fun x2 => straightedgeref01_Abs.call [(.float .f64 x2)] w fun v3 w4 => ∃ x5 : Nat, v3 = (.float .f64 x5) ∧ newB [(.float .f64 x5)] 38 w4 fun q6 w7 => Raw prog (Builtin.append_ #[22, 22] 22 ⟨[(.slice z3p z3n z3c), (.slice (some q6) 1 1)]⟩) w7 fun v8 w9 => ∃ (a10 : Option Addr) (n11 c12 : Nat), v8 = .slice a10 n11 c12 ∧ h3 z0p z0n z0c a10 n11 c12 (IntKind.i64.wrap (z4 + 1)) w9) (straightedgeref05_Greatest.call [(.slice z3p z3n z3c)] w fun v13 w14 => ∃ x15 : Nat, v13 = (.float .f64 x15) ∧ K (.float .f64 x15) w14)
def straightedgeref10_Most.c3 (K : Value → World → Prop) : Nat → Option Addr → Nat → Nat → Option Addr → Nat → Nat → Int → World → Prop
  | 0 => fun _ _ _ _ _ _ _ _ => False
  | fu + 1 => straightedgeref10_Most.b3 K (straightedgeref10_Most.c3 K fu)
def straightedgeref10_Most.x (fu : Nat) (A0p : Option Addr) (A0n A0c : Nat) (w : World) (K : Value → World → Prop) : Prop := straightedgeref10_Most.c3 K fu A0p A0n A0c none 0 0 0 w
def straightedgeref10_Most.hd (K : Value → World → Prop) (n id : Nat) (t : List Value) (w : World) : Prop :=
  match id with
  | 3 => asL (t.getD 0 undef) fun z0p z0n z0c => asL (t.getD 3 undef) fun z3p z3n z3c => asI .i64 (t.getD 4 undef) fun z4 => straightedgeref10_Most.c3 K n z0p z0n z0c z3p z3n z3c z4 w
  | _ => False
theorem straightedgeref10_Most.t3 (K : Value → World → Prop) (n : Nat) (z0p : Option Addr) (z0n z0c : Nat) (z3p : Option Addr) (z3n z3c : Nat) (z4 : Int) (u : Nat → Value) (w : World) (h : straightedgeref10_Most.c3 K (n + 1) z0p z0n z0c z3p z3n z3c z4 w) :
    exT prog [3] (straightedgeref10_Most.hd K n) Try.f68 3 21 [(0, (.slice z0p z0n z0c)), (3, (.slice z3p z3n z3c)), (4, (.int .i64 z4))] u w K := Eq.mp (by kernel_rfl) h
theorem straightedgeref10_Most.ok (fu : Nat) {A0p : Option Addr} {A0n A0c : Nat} {w : World} {K : Value → World → Prop} (h : straightedgeref10_Most.x fu A0p A0n A0c w K) : straightedgeref10_Most.call [(.slice A0p A0n A0c)] w K := by
  refine callF_of_ex (cuts := [3]) (H := straightedgeref10_Most.hd K) (N := 21) Try.func68 rfl mixed (by kernel_rfl) ?_ ?_ ?_ rfl (n := fu) (Eq.mp (by kernel_rfl) h)
  · intro id hid; simp only [List.mem_cons, List.not_mem_nil, or_false] at hid; subst hid
    · exact (by kernel_rfl : (stacks (bodyOf Try.f68) []).filter (headIs 3) = [at_ (bodyOf Try.f68) 3])
  · intro id t w h
    unfold straightedgeref10_Most.hd at h
    split at h
    · obtain ⟨z0p, z0n, z0c, _, h⟩ := asL_elim h
      obtain ⟨z3p, z3n, z3c, _, h⟩ := asL_elim h
      obtain ⟨z4, _, h⟩ := asI_elim h
      exact h
    · exact h
  · intro n id hid t w hl h; simp only [List.mem_cons, List.not_mem_nil, or_false] at hid; subst hid
    · replace h : asL (t.getD 0 undef) fun z0p z0n z0c => asL (t.getD 3 undef) fun z3p z3n z3c => asI .i64 (t.getD 4 undef) fun z4 => straightedgeref10_Most.c3 K (n + 1) z0p z0n z0c z3p z3n z3c z4 w := h
      obtain ⟨z0p, z0n, z0c, e0, h⟩ := asL_elim h
      obtain ⟨z3p, z3n, z3c, e3, h⟩ := asL_elim h
      obtain ⟨z4, e4, h⟩ := asI_elim h
      rw [mk_of hl [(0, (.slice z0p z0n z0c)), (3, (.slice z3p z3n z3c)), (4, (.int .i64 z4))] (by simp only [List.forall_mem_cons, List.not_mem_nil, false_implies, implies_true, and_true]; exact ⟨e0, e3, e4⟩)]
      exact straightedgeref10_Most.t3 K n z0p z0n z0c z3p z3n z3c z4 _ w h

end Go.Proofs.Ytgdkahbnepafgaa

/-! ### AGmath -/
/- The explicit forms of the functions of one package, and that the calls do what they say. Written by wip/tools/wk.py. -/
set_option maxRecDepth 100000
set_option linter.unusedVariables false
namespace Go.Proofs.Ytgdkahbnepafgaa
open Go Go.Wk

/-! ### math.Abs: function 75 -/
def math_Abs.x (A0 : Nat) (w : World) (K : Value → World → Prop) : Prop := math_Float64bits.call [(.float .f64 A0)] w fun v1 w2 => ∃ i3 : Int, v1 = (.int .u64 i3) ∧ math_Float64frombits.call [(.int .u64 (bits .andNot .u64 i3 9223372036854775808))] w2 fun v4 w5 => ∃ x6 : Nat, v4 = (.float .f64 x6) ∧ K (.float .f64 x6) w5
theorem math_Abs.ok {A0 : Nat} {w : World} {K : Value → World → Prop} (h : math_Abs.x A0 w K) : math_Abs.call [(.float .f64 A0)] w K :=
  callF_of_ex0 (f := Try.f75) Try.func75 rfl mixed (by kernel_rfl) (Eq.mp (by kernel_rfl) h)

end Go.Proofs.Ytgdkahbnepafgaa

/-! ### AGref01 -/
/- The explicit forms of the functions of one package, and that the calls do what they say. Written by wip/tools/wk.py. -/
set_option maxRecDepth 100000
set_option linter.unusedVariables false
namespace Go.Proofs.Ytgdkahbnepafgaa
open Go Go.Wk

/-! ### straightedge/straightedgeref01.Finite: function 8 -/
def straightedgeref01_Finite.c2 (K : Value → World → Prop) : Nat → Option Addr → Nat → Nat → Int → World → Prop
  | 0, _, _, _, _, _ => False
  | fu + 1, z0p, z0n, z0c, z3, w => br (decide (z3 < ((z0n : Nat) : Int))) (ptrSome z0p fun q1 => (0 : Int) ≤ z3 ∧ z3 < ((z0n : Nat) : Int) ∧ ∃ x2 : Nat, w.cell? (q1.add (Int.toNat z3)) = some (.float .f64 x2) ∧ straightedgeref01_Parts.call [(.float .f64 x2)] w fun v3 w4 => ∃ b5 : Bool, ∃ i6 : Int, ∃ i7 : Int, ∃ i8 : Int, v3 = (.tuple ⟨[(.bool b5), (.int .u64 i6), (.int .i64 i7), (.int .i64 i8)]⟩) ∧ br (i8 != 0) (K (.bool false) w4) (straightedgeref01_Finite.c2 K fu z0p z0n z0c (IntKind.i64.wrap (z3 + 1)) w4)) (K (.bool true) w)
def straightedgeref01_Finite.x (fu : Nat) (A0p : Option Addr) (A0n A0c : Nat) (w : World) (K : Value → World → Prop) : Prop := straightedgeref01_Finite.c2 K fu A0p A0n A0c 0 w
def straightedgeref01_Finite.hd (K : Value → World → Prop) (n id : Nat) (t : List Value) (w : World) : Prop :=
  match id with
  | 2 => asL (t.getD 0 undef) fun z0p z0n z0c => asI .i64 (t.getD 3 undef) fun z3 => straightedgeref01_Finite.c2 K n z0p z0n z0c z3 w
  | _ => False
theorem straightedgeref01_Finite.t2 (K : Value → World → Prop) (n : Nat) (z0p : Option Addr) (z0n z0c : Nat) (z3 : Int) (u : Nat → Value) (w : World) (h : straightedgeref01_Finite.c2 K (n + 1) z0p z0n z0c z3 w) :
    exT prog [2] (straightedgeref01_Finite.hd K n) Try.f8 2 26 [(0, (.slice z0p z0n z0c)), (3, (.int .i64 z3))] u w K := Eq.mp (by kernel_rfl) h
theorem straightedgeref01_Finite.ok (fu : Nat) {A0p : Option Addr} {A0n A0c : Nat} {w : World} {K : Value → World → Prop} (h : straightedgeref01_Finite.x fu A0p A0n A0c w K) : straightedgeref01_Finite.call [(.slice A0p A0n A0c)] w K := by
  refine callF_of_ex (cuts := [2]) (H := straightedgeref01_Finite.hd K) (N := 26) Try.func8 rfl mixed (by kernel_rfl) ?_ ?_ ?_ rfl (n := fu) (Eq.mp (by kernel_rfl) h)
  · intro id hid; simp only [List.mem_cons, List.not_mem_nil, or_false] at hid; subst hid
    · exact (by kernel_rfl : (stacks (bodyOf Try.f8) []).filter (headIs 2) = [at_ (bodyOf Try.f8) 2])
  · intro id t w h
    unfold straightedgeref01_Finite.hd at h
    split at h
    · obtain ⟨z0p, z0n, z0c, _, h⟩ := asL_elim h
      obtain ⟨z3, _, h⟩ := asI_elim h
      exact h
    · exact h
  · intro n id hid t w hl h; simp only [List.mem_cons, List.not_mem_nil, or_false] at hid; subst hid
    · replace h : asL (t.getD 0 undef) fun z0p z0n z0c => asI .i64 (t.getD 3 undef) fun z3 => straightedgeref01_Finite.c2 K (n + 1) z0p z0n z0c z3 w := h
      obtain ⟨z0p, z0n, z0c, e0, h⟩ := asL_elim h
      obtain ⟨z3, e3, h⟩ := asI_elim h
      rw [mk_of hl [(0, (.slice z0p z0n z0c)), (3, (.int .i64 z3))] (by simp only [List.forall_mem_cons, List.not_mem_nil, false_implies, implies_true, and_true]; exact ⟨e0, e3⟩)]
      exact straightedgeref01_Finite.t2 K n z0p z0n z0c z3 _ w h

/-! ### straightedge/straightedgeref01.Abs: function 12 -/
def straightedgeref01_Abs.x (A0 : Nat) (w : World) (K : Value → World → Prop) : Prop := math_Float64bits.call [(.float .f64 A0)] w fun v1 w2 => ∃ i3 : Int, v1 = (.int .u64 i3) ∧ math_Float64frombits.call [(.int .u64 (Int.tmod i3 9223372036854775808))] w2 fun v4 w5 => ∃ x6 : Nat, v4 = (.float .f64 x6) ∧ K (.float .f64 x6) w5
theorem straightedgeref01_Abs.ok {A0 : Nat} {w : World} {K : Value → World → Prop} (h : straightedgeref01_Abs.x A0 w K) : straightedgeref01_Abs.call [(.float .f64 A0)] w K :=
  callF_of_ex0 (f := Try.f12) Try.func12 rfl mixed (by kernel_rfl) (Eq.mp (by kernel_rfl) h)

/-! ### straightedge/straightedgeref01.All: function 27 -/
def straightedgeref01_All.c4 (K : Value → World → Prop) : Nat → Option Addr → Nat → Nat → Option Addr → Nat → Nat → Int → World → Prop
  | 0, _, _, _, _, _, _, _, _ => False
  | fu + 1, z0p, z0n, z0c, z1p, z1n, z1c, z5, w => br (decide (z5 < ((z0n : Nat) : Int))) (ptrSome z0p fun q1 => (0 : Int) ≤ z5 ∧ z5 < ((z0n : Nat) : Int) ∧ ∃ x2 : Nat, w.drew.cell? (q1.add (Int.toNat z5)) = some (.float .f64 x2) ∧ ptrSome z1p fun q3 => (0 : Int) ≤ z5 ∧ z5 < ((z1n : Nat) : Int) ∧ ∃ x4 : Nat, w.drew.cell? (q3.add (Int.toNat z5)) = some (.float .f64 x4) ∧ straightedgeref01_Same.call [(.float .f64 x2), (.float .f64 x4)] w.drew fun v5 w6 => ∃ b7 : Bool, v5 = (.bool b7) ∧ br (!b7) (K (.bool false) w6) (straightedgeref01_All.c4 K fu z0p z0n z0c z1p z1n z1c (IntKind.i64.wrap (z5 + 1)) w6)) (K (.bool true) w)
def straightedgeref01_All.x (fu : Nat) (A0p : Option Addr) (A0n A0c : Nat) (A1p : Option Addr) (A1n A1c : Nat) (w : World) (K : Value → World → Prop) : Prop := br (((A0n : Nat) : Int) != ((A1n : Nat) : Int)) (K (.bool false) w) (straightedgeref01_All.c4 K fu A0p A0n A0c A1p A1n A1c 0 w)
def straightedgeref01_All.hd (K : Value → World → Prop) (n id : Nat) (t : List Value) (w : World) : Prop :=
  match id with
  | 4 => asL (t.getD 0 undef) fun z0p z0n z0c => asL (t.getD 1 undef) fun z1p z1n z1c => asI .i64 (t.getD 5 undef) fun z5 => straightedgeref01_All.c4 K n z0p z0n z0c z1p z1n z1c z5 w
  | _ => False
theorem straightedgeref01_All.t4 (K : Value → World → Prop) (n : Nat) (z0p : Option Addr) (z0n z0c : Nat) (z1p : Option Addr) (z1n z1c : Nat) (z5 : Int) (u : Nat → Value) (w : World) (h : straightedgeref01_All.c4 K (n + 1) z0p z0n z0c z1p z1n z1c z5 w) :
    exT prog [4] (straightedgeref01_All.hd K n) Try.f27 4 27 [(0, (.slice z0p z0n z0c)), (1, (.slice z1p z1n z1c)), (5, (.int .i64 z5))] u w K := Eq.mp (by kernel_rfl) h
theorem straightedgeref01_All.ok (fu : Nat) {A0p : Option Addr} {A0n A0c : Nat} {A1p : Option Addr} {A1n A1c : Nat} {w : World} {K : Value → World → Prop} (h : straightedgeref01_All.x fu A0p A0n A0c A1p A1n A1c w K) : straightedgeref01_All.call [(.slice A0p A0n A0c), (.slice A1p A1n A1c)] w K := by
  refine callF_of_ex (cuts := [4]) (H := straightedgeref01_All.hd K) (N := 27) Try.func27 rfl mixed (by kernel_rfl) ?_ ?_ ?_ rfl (n := fu) (Eq.mp (by kernel_rfl) h)
  · intro id hid; simp only [List.mem_cons, List.not_mem_nil, or_false] at hid; subst hid
    · exact (by kernel_rfl : (stacks (bodyOf Try.f27) []).filter (headIs 4) = [at_ (bodyOf Try.f27) 4])
  · intro id t w h
    unfold straightedgeref01_All.hd at h
    split at h
    · obtain ⟨z0p, z0n, z0c, _, h⟩ := asL_elim h
      obtain ⟨z1p, z1n, z1c, _, h⟩ := asL_elim h
      obtain ⟨z5, _, h⟩ := asI_elim h
      exact h
    · exact h
  · intro n id hid t w hl h; simp only [List.mem_cons, List.not_mem_nil, or_false] at hid; subst hid
    · replace h : asL (t.getD 0 undef) fun z0p z0n z0c => asL (t.getD 1 undef) fun z1p z1n z1c => asI .i64 (t.getD 5 undef) fun z5 => straightedgeref01_All.c4 K (n + 1) z0p z0n z0c z1p z1n z1c z5 w := h
      obtain ⟨z0p, z0n, z0c, e0, h⟩ := asL_elim h
      obtain ⟨z1p, z1n, z1c, e1, h⟩ := asL_elim h
      obtain ⟨z5, e5, h⟩ := asI_elim h
      rw [mk_of hl [(0, (.slice z0p z0n z0c)), (1, (.slice z1p z1n z1c)), (5, (.int .i64 z5))] (by simp only [List.forall_mem_cons, List.not_mem_nil, false_implies, implies_true, and_true]; exact ⟨e0, e1, e5⟩)]
      exact straightedgeref01_All.t4 K n z0p z0n z0c z1p z1n z1c z5 _ w h

/-! ### straightedge/straightedgeref01.Parts: function 29 -/
def straightedgeref01_Parts.x (A0 : Nat) (w : World) (K : Value → World → Prop) : Prop := math_Float64bits.call [(.float .f64 A0)] w fun v1 w2 => ∃ i3 : Int, v1 = (.int .u64 i3) ∧ br ((Int.tmod (IntKind.i64.wrap ((Int.fdiv i3 (2 ^ (shiftN .u64 52))))) 2048) == 2047) (br ((Int.tmod i3 4503599627370496) == 0) (K (.tuple ⟨[(.bool ((Int.fdiv i3 (2 ^ (shiftN .u64 63))) == 1)), (.int .u64 0), (.int .i64 0), (.int .i64 1)]⟩) w2) (br ((Int.tmod (IntKind.i64.wrap ((Int.fdiv i3 (2 ^ (shiftN .u64 52))))) 2048) == 2047) (K (.tuple ⟨[(.bool ((Int.fdiv i3 (2 ^ (shiftN .u64 63))) == 1)), (.int .u64 0), (.int .i64 0), (.int .i64 2)]⟩) w2) (br ((Int.tmod (IntKind.i64.wrap ((Int.fdiv i3 (2 ^ (shiftN .u64 52))))) 2048) == 0) (K (.tuple ⟨[(.bool ((Int.fdiv i3 (2 ^ (shiftN .u64 63))) == 1)), (.int .u64 (Int.tmod i3 4503599627370496)), (.int .i64 (-1074)), (.int .i64 0)]⟩) w2) (K (.tuple ⟨[(.bool ((Int.fdiv i3 (2 ^ (shiftN .u64 63))) == 1)), (.int .u64 (IntKind.u64.wrap ((Int.tmod i3 4503599627370496) + 4503599627370496))), (.int .i64 (IntKind.i64.wrap ((Int.tmod (IntKind.i64.wrap ((Int.fdiv i3 (2 ^ (shiftN .u64 52))))) 2048) - 1075))), (.int .i64 0)]⟩) w2)))) (br ((Int.tmod (IntKind.i64.wrap ((Int.fdiv i3 (2 ^ (shiftN .u64 52))))) 2048) == 2047) (K (.tuple ⟨[(.bool ((Int.fdiv i3 (2 ^ (shiftN .u64 63))) == 1)), (.int .u64 0), (.int .i64 0), (.int .i64 2)]⟩) w2) (br ((Int.tmod (IntKind.i64.wrap ((Int.fdiv i3 (2 ^ (shiftN .u64 52))))) 2048) == 0) (K (.tuple ⟨[(.bool ((Int.fdiv i3 (2 ^ (shiftN .u64 63))) == 1)), (.int .u64 (Int.tmod i3 4503599627370496)), (.int .i64 (-1074)), (.int .i64 0)]⟩) w2) (K (.tuple ⟨[(.bool ((Int.fdiv i3 (2 ^ (shiftN .u64 63))) == 1)), (.int .u64 (IntKind.u64.wrap ((Int.tmod i3 4503599627370496) + 4503599627370496))), (.int .i64 (IntKind.i64.wrap ((Int.tmod (IntKind.i64.wrap ((Int.fdiv i3 (2 ^ (shiftN .u64 52))))) 2048) - 1075))), (.int .i64 0)]⟩) w2)))
theorem straightedgeref01_Parts.ok {A0 : Nat} {w : World} {K : Value → World → Prop} (h : straightedgeref01_Parts.x A0 w K) : straightedgeref01_Parts.call [(.float .f64 A0)] w K :=
  callF_of_ex0 (f := Try.f29) Try.func29 rfl mixed (by kernel_rfl) (Eq.mp (by kernel_rfl) h)

/-! ### straightedge/straightedgeref01.Same: function 56 -/
def straightedgeref01_Same.x (A0 : Nat) (A1 : Nat) (w : World) (K : Value → World → Prop) : Prop := straightedgeref01_Parts.call [(.float .f64 A0)] w fun v1 w2 => ∃ b3 : Bool, ∃ i4 : Int, ∃ i5 : Int, ∃ i6 : Int, v1 = (.tuple ⟨[(.bool b3), (.int .u64 i4), (.int .i64 i5), (.int .i64 i6)]⟩) ∧ straightedgeref01_Parts.call [(.float .f64 A1)] w2 fun v7 w8 => ∃ b9 : Bool, ∃ i10 : Int, ∃ i11 : Int, ∃ i12 : Int, v7 = (.tuple ⟨[(.bool b9), (.int .u64 i10), (.int .i64 i11), (.int .i64 i12)]⟩) ∧ math_Float64bits.call [(.float .f64 A0)] w8 fun v13 w14 => ∃ i15 : Int, v13 = (.int .u64 i15) ∧ math_Float64bits.call [(.float .f64 A1)] w14 fun v16 w17 => ∃ i18 : Int, v16 = (.int .u64 i18) ∧ br (i15 == i18) (K (.bool true) w17) (br (i6 == 2) (K (.bool (i12 == 2)) w17) (K (.bool false) w17))
theorem straightedgeref01_Same.ok {A0 : Nat} {A1 : Nat} {w : World} {K : Value → World → Prop} (h : straightedgeref01_Same.x A0 A1 w K) : straightedgeref01_Same.call [(.float .f64 A0), (.float .f64 A1)] w K :=
  callF_of_ex0 (f := Try.f56) Try.func56 rfl mixed (by kernel_rfl) (Eq.mp (by kernel_rfl) h)

end Go.Proofs.Ytgdkahbnepafgaa

/-! ### AGref02 -/
/- The explicit forms of the functions of one package, and that the calls do what they say. Written by wip/tools/wk.py. -/
set_option maxRecDepth 100000
set_option linter.unusedVariables false
namespace Go.Proofs.Ytgdkahbnepafgaa
open Go Go.Wk

/-! ### straightedge/straightedgeref02.Of: function 17 -/
def straightedgeref02_Of.x (A0 : Nat) (w : World) (K : Value → World → Prop) : Prop := newB [(.bool false), (.slice none 0 0), (.int .i64 0)] 45 w fun q1 w2 => straightedgeref01_Parts.call [(.float .f64 A0)] w2 fun v3 w4 => ∃ b5 : Bool, ∃ i6 : Int, ∃ i7 : Int, ∃ i8 : Int, v3 = (.tuple ⟨[(.bool b5), (.int .u64 i6), (.int .i64 i7), (.int .i64 i8)]⟩) ∧ straightedgeref02_Whole.call [(.bool b5), (.int .u64 i6)] w4 fun v9 w10 => ∃ b11 : Bool, ∃ (a12 : Option Addr) (n13 c14 : Nat), ∃ i15 : Int, v9 = (.agg ⟨[(.bool b11), (.slice a12 n13 c14), (.int .i64 i15)]⟩) ∧ straightedgeref02_D_Shift.call [(.agg ⟨[(.bool b11), (.slice a12 n13 c14), (.int .i64 i15)]⟩), (.int .i64 i7)] w10 fun v16 w17 => ∃ b18 : Bool, ∃ (a19 : Option Addr) (n20 c21 : Nat), ∃ i22 : Int, v16 = (.agg ⟨[(.bool b18), (.slice a19 n20 c21), (.int .i64 i22)]⟩) ∧ (w17.cell? q1).isSome = true ∧ w17.frozen? q1 = false ∧ ((w17.setCell q1 (.bool b18)).cell? (q1.add 1)).isSome = true ∧ (w17.setCell q1 (.bool b18)).frozen? (q1.add 1) = false ∧ (((w17.setCell q1 (.bool b18)).setCell (q1.add 1) (.slice a19 n20 c21)).cell? (q1.add 2)).isSome = true ∧ ((w17.setCell q1 (.bool b18)).setCell (q1.add 1) (.slice a19 n20 c21)).frozen? (q1.add 2) = false ∧ ∃ b23 : Bool, ∃ (a24 : Option Addr) (n25 c26 : Nat), ∃ i27 : Int, (((w17.setCell q1 (.bool b18)).setCell (q1.add 1) (.slice a19 n20 c21)).setCell (q1.add 2) (.int .i64 i22)).cell? q1 = some (.bool b23) ∧ (((w17.setCell q1 (.bool b18)).setCell (q1.add 1) (.slice a19 n20 c21)).setCell (q1.add 2) (.int .i64 i22)).cell? (q1.add 1) = some (.slice a24 n25 c26) ∧ (((w17.setCell q1 (.bool b18)).setCell (q1.add 1) (.slice a19 n20 c21)).setCell (q1.add 2) (.int .i64 i22)).cell? (q1.add 2) = some (.int .i64 i27) ∧ K (.agg ⟨[(.bool b23), (.slice a24 n25 c26), (.int .i64 i27)]⟩) (((w17.setCell q1 (.bool b18)).setCell (q1.add 1) (.slice a19 n20 c21)).setCell (q1.add 2) (.int .i64 i22))
theorem straightedgeref02_Of.ok {A0 : Nat} {w : World} {K : Value → World → Prop} (h : straightedgeref02_Of.x A0 w K) : straightedgeref02_Of.call [(.float .f64 A0)] w K :=
  callF_of_ex0 (f := Try.f17) Try.func17 rfl mixed (by kernel_rfl) (Eq.mp (by kernel_rfl) h)

/-! ### (straightedge/straightedgeref02.D).Mul: function 19 -/
def straightedgeref02_D_Mul.b3 (K : Value → World → Prop) (h3 : Option Addr → Option Addr → Option Addr → Option Addr → Nat → Nat → Int → World → Prop) (h7 : Option Addr → Option Addr → Option Addr → Option Addr → Nat → Nat → Int → Int → Int → World → Prop) (h13 : Option Addr → Option Addr → Option Addr → Option Addr → Nat → Nat → Int → Int → Int → World → Prop) (z2 : Option Addr) (z3 : Option Addr) (z4 : Option Addr) (z5p : Option Addr) (z5n z5c : Nat) (z6 : Int) (w : World) : Prop := ptrSome z2 fun q1 => ∃ (a2 : Option Addr) (n3 c4 : Nat), w.cell? (q1.add 1) = some (.slice a2 n3 c4) ∧ br (decide (z6 < ((n3 : Nat) : Int))) (h7 z2 z3 z4 z5p z5n z5c z6 0 0 w) (ptrSome z2 fun q5 => ∃ b6 : Bool, w.cell? q5 = some (.bool b6) ∧ ptrSome z3 fun q7 => ∃ b8 : Bool, w.cell? q7 = some (.bool b8) ∧ ptrSome z2 fun q9 => ∃ i10 : Int, w.cell? (q9.add 2) = some (.int .i64 i10) ∧ ptrSome z3 fun q11 => ∃ i12 : Int, w.cell? (q11.add 2) = some (.int .i64 i12) ∧ straightedgeref02_Made.call [(.bool (!(b6 == b8))), (.slice z5p z5n z5c), (.int .i64 (IntKind.i64.wrap (i10 + i12)))] w fun v13 w14 => ∃ b15 : Bool, ∃ (a16 : Option Addr) (n17 c18 : Nat), ∃ i19 : Int, v13 = (.agg ⟨[(.bool b15), (.slice a16 n17 c18), (.int .i64 i19)]⟩) ∧ ptrSome z4 fun q20 => (w14.cell? q20).isSome = true ∧ w14.frozen? q20 = false ∧ ((w14.setCell q20 (.bool b15)).cell? (q20.add 1)).isSome = true ∧ (w14.setCell q20 (.bool b15)).frozen? (q20.add 1) = false ∧ (((w14.setCell q20 (.bool b15)).setCell (q20.add 1) (.slice a16 n17 c18)).cell? (q20.add 2)).isSome = true ∧ ((w14.setCell q20 (.bool b15)).setCell (q20.add 1) (.slice a16 n17 c18)).frozen? (q20.add 2) = false ∧ ptrSome z4 fun q21 => ∃ b22 : Bool, ∃ (a23 : Option Addr) (n24 c25 : Nat), ∃ i26 : Int, (((w14.setCell q20 (.bool b15)).setCell (q20.add 1) (.slice a16 n17 c18)).setCell (q20.add 2) (.int .i64 i19)).cell? q21 = some (.bool b22) ∧ (((w14.setCell q20 (.bool b15)).setCell (q20.add 1) (.slice a16 n17 c18)).setCell (q20.add 2) (.int .i64 i19)).cell? (q21.add 1) = some (.slice a23 n24 c25) ∧ (((w14.setCell q20 (.bool b15)).setCell (q20.add 1) (.slice a16 n17 c18)).setCell (q20.add 2) (.int .i64 i19)).cell? (q21.add 2) = some (.int .i64 i26) ∧ K (.agg ⟨[(.bool b22), (.slice a23 n24 c25), (.int .i64 i26)]⟩) (((w14.setCell q20 (.bool b15)).setCell (q20.add 1) (.slice a16 n17 c18)).setCell (q20.add 2) (.int .i64 i19)))
def straightedgeref02_D_Mul.b7 (K : Value → World → Prop) (h3 : Option Addr → Option Addr → Option Addr → Option Addr → Nat → Nat → Int → World → Prop) (h7 : Option Addr → Option Addr → Option Addr → Option Addr → Nat → Nat → Int → Int → Int → World → Prop) (h13 : Option Addr → Option Addr → Option Addr → Option Addr → Nat → Nat → Int → Int → Int → World → Prop) (z2 : Option Addr) (z3 : Option Addr) (z4 : Option Addr) (z5p : Option Addr) (z5n z5c : Nat) (z6 : Int) (z7 : Int) (z8 : Int) (w : World) : Prop := ptrSome z3 fun q1 => ∃ (a2 : Option Addr) (n3 c4 : Nat), w.cell? (q1.add 1) = some (.slice a2 n3 c4) ∧ br (decide (z8 < ((n3 : Nat) : Int))) (ptrSome z2 fun q5 => ∃ (a6 : Option Addr) (n7 c8 : Nat), w.drew.cell? (q5.add 1) = some (.slice a6 n7 c8) ∧ ptrSome a6 fun q9 => (0 : Int) ≤ z6 ∧ z6 < ((n7 : Nat) : Int) ∧ ∃ i10 : Int, w.drew.cell? (q9.add (Int.toNat z6)) = some (.int .i64 i10) ∧ ptrSome z3 fun q11 => ∃ (a12 : Option Addr) (n13 c14 : Nat), w.drew.cell? (q11.add 1) = some (.slice a12 n13 c14) ∧ ptrSome a12 fun q15 => (0 : Int) ≤ z8 ∧ z8 < ((n13 : Nat) : Int) ∧ ∃ i16 : Int, w.drew.cell? (q15.add (Int.toNat z8)) = some (.int .i64 i16) ∧ ptrSome z5p fun q17 => (0 : Int) ≤ (IntKind.i64.wrap (z6 + z8)) ∧ (IntKind.i64.wrap (z6 + z8)) < ((z5n : Nat) : Int) ∧ ∃ i18 : Int, w.drew.cell? (q17.add (Int.toNat (IntKind.i64.wrap (z6 + z8)))) = some (.int .i64 i18) ∧ ptrSome z5p fun q19 => (0 : Int) ≤ (IntKind.i64.wrap (z6 + z8)) ∧ (IntKind.i64.wrap (z6 + z8)) < ((z5n : Nat) : Int) ∧ (w.drew.cell? (q19.add (Int.toNat (IntKind.i64.wrap (z6 + z8))))).isSome = true ∧ w.drew.frozen? (q19.add (Int.toNat (IntKind.i64.wrap (z6 + z8)))) = false ∧ h7 z2 z3 z4 z5p z5n z5c z6 (IntKind.i64.wrap (Int.tdiv (IntKind.i64.wrap ((IntKind.i64.wrap (z7 + (IntKind.i64.wrap (i10 * i16)))) + i18)) 65536)) (IntKind.i64.wrap (z8 + 1)) (w.drew.setCell (q19.add (Int.toNat (IntKind.i64.wrap (z6 + z8)))) (.int .i64 (Int.tmod (IntKind.i64.wrap ((IntKind.i64.wrap (z7 + (IntKind.i64.wrap (i10 * i16)))) + i18)) 65536)))) (ptrSome z3 fun q20 => ∃ (a21 : Option Addr) (n22 c23 : Nat), w.cell? (q20.add 1) = some (.slice a21 n22 c23) ∧ h13 z2 z3 z4 z5p z5n z5c z6 z7 (IntKind.i64.wrap (z6 + ((n22 : Nat) : Int))) w)
def straightedgeref02_D_Mul.b13 (K : Value → World → Prop) (h3 : Option Addr → Option Addr → Option Addr → Option Addr → Nat → Nat → Int → World → Prop) (h7 : Option Addr → Option Addr → Option Addr → Option Addr → Nat → Nat → Int → Int → Int → World → Prop) (h13 : Option Addr → Option Addr → Option Addr → Option Addr → Nat → Nat → Int → Int → Int → World → Prop) (z2 : Option Addr) (z3 : Option Addr) (z4 : Option Addr) (z5p : Option Addr) (z5n z5c : Nat) (z6 : Int) (z7 : Int) (z9 : Int) (w : World) : Prop := br (decide (z7 > 0)) (ptrSome z5p fun q1 => (0 : Int) ≤ z9 ∧ z9 < ((z5n : Nat) : Int) ∧ ∃ i2 : Int, w.cell? (q1.add (Int.toNat z9)) = some (.int .i64 i2) ∧ ptrSome z5p fun q3 => (0 : Int) ≤ z9 ∧ z9 < ((z5n : Nat) : Int) ∧ (w.cell? (q3.add (Int.toNat z9))).isSome = true ∧ w.frozen? (q3.add (Int.toNat z9)) = false ∧ h13 z2 z3 z4 z5p z5n z5c z6 (IntKind.i64.wrap (Int.tdiv (IntKind.i64.wrap (z7 + i2)) 65536)) (IntKind.i64.wrap (z9 + 1)) (w.setCell (q3.add (Int.toNat z9)) (.int .i64 (Int.tmod (IntKind.i64.wrap (z7 + i2)) 65536)))) (h3 z2 z3 z4 z5p z5n z5c (IntKind.i64.wrap (z6 + 1)) w)
def straightedgeref02_D_Mul.H (K : Value → World → Prop) : Nat → (Option Addr → Option Addr → Option Addr → Option Addr → Nat → Nat → Int → World → Prop) × (Option Addr → Option Addr → Option Addr → Option Addr → Nat → Nat → Int → Int → Int → World → Prop) × (Option Addr → Option Addr → Option Addr → Option Addr → Nat → Nat → Int → Int → Int → World → Prop)
  | 0 => (fun _ _ _ _ _ _ _ _ => False, fun _ _ _ _ _ _ _ _ _ _ => False, fun _ _ _ _ _ _ _ _ _ _ => False)
  | fu + 1 => (straightedgeref02_D_Mul.b3 K (straightedgeref02_D_Mul.H K fu).1 (straightedgeref02_D_Mul.H K fu).2.1 (straightedgeref02_D_Mul.H K fu).2.2, straightedgeref02_D_Mul.b7 K (straightedgeref02_D_Mul.H K fu).1 (straightedgeref02_D_Mul.H K fu).2.1 (straightedgeref02_D_Mul.H K fu).2.2, straightedgeref02_D_Mul.b13 K (straightedgeref02_D_Mul.H K fu).1 (straightedgeref02_D_Mul.H K fu).2.1 (straightedgeref02_D_Mul.H K fu).2.2)
def straightedgeref02_D_Mul.x (fu : Nat) (A0_0 : Bool) (A0_1p : Option Addr) (A0_1n A0_1c : Nat) (A0_2 : Int) (A1_0 : Bool) (A1_1p : Option Addr) (A1_1n A1_1c : Nat) (A1_2 : Int) (w : World) (K : Value → World → Prop) : Prop := newB [(.bool A0_0), (.slice A0_1p A0_1n A0_1c), (.int .i64 A0_2)] 45 w fun q1 w2 => newB [(.bool A1_0), (.slice A1_1p A1_1n A1_1c), (.int .i64 A1_2)] 45 w2 fun q3 w4 => newB [(.bool false), (.slice none 0 0), (.int .i64 0)] 45 w4 fun q5 w6 => ∃ (a7 : Option Addr) (n8 c9 : Nat), w6.cell? (q1.add 1) = some (.slice a7 n8 c9) ∧ ∃ (a10 : Option Addr) (n11 c12 : Nat), w6.cell? (q3.add 1) = some (.slice a10 n11 c12) ∧ (0 : Int) ≤ (IntKind.i64.wrap ((IntKind.i64.wrap (((n8 : Nat) : Int) + ((n11 : Nat) : Int))) + 1)) ∧ ((IntKind.i64.wrap ((IntKind.i64.wrap (((n8 : Nat) : Int) + ((n11 : Nat) : Int))) + 1)) : Int) ≤ (IntKind.i64.wrap ((IntKind.i64.wrap (((n8 : Nat) : Int) + ((n11 : Nat) : Int))) + 1)) ∧ ((8 : Nat) : Int) * (IntKind.i64.wrap ((IntKind.i64.wrap (((n8 : Nat) : Int) + ((n11 : Nat) : Int))) + 1)) ≤ 281474976710656 ∧ (IntKind.i64.wrap ((IntKind.i64.wrap (((n8 : Nat) : Int) + ((n11 : Nat) : Int))) + 1)) ≤ 9223372036854775807 ∧ newB ((List.range (Int.toNat (IntKind.i64.wrap ((IntKind.i64.wrap (((n8 : Nat) : Int) + ((n11 : Nat) : Int))) + 1)))).map fun j => List.getD [(.int .i64 0)] (j % 1) default) 3 w6 fun q13 w14 => (straightedgeref02_D_Mul.H K fu).1 (some q1) (some q3) (some q5) (some q13) (Int.toNat (IntKind.i64.wrap ((IntKind.i64.wrap (((n8 : Nat) : Int) + ((n11 : Nat) : Int))) + 1))) (Int.toNat (IntKind.i64.wrap ((IntKind.i64.wrap (((n8 : Nat) : Int) + ((n11 : Nat) : Int))) + 1))) 0 w14
def straightedgeref02_D_Mul.hd (K : Value → World → Prop) (n id : Nat) (t : List Value) (w : World) : Prop :=
  match id with
  | 3 => asP (t.getD 2 undef) fun z2 => asP (t.getD 3 undef) fun z3 => asP (t.getD 4 undef) fun z4 => asL (t.getD 5 undef) fun z5p z5n z5c => asI .i64 (t.getD 6 undef) fun z6 => (straightedgeref02_D_Mul.H K n).1 z2 z3 z4 z5p z5n z5c z6 w
  | 7 => asP (t.getD 2 undef) fun z2 => asP (t.getD 3 undef) fun z3 => asP (t.getD 4 undef) fun z4 => asL (t.getD 5 undef) fun z5p z5n z5c => asI .i64 (t.getD 6 undef) fun z6 => asI .i64 (t.getD 7 undef) fun z7 => asI .i64 (t.getD 8 undef) fun z8 => (straightedgeref02_D_Mul.H K n).2.1 z2 z3 z4 z5p z5n z5c z6 z7 z8 w
  | 13 => asP (t.getD 2 undef) fun z2 => asP (t.getD 3 undef) fun z3 => asP (t.getD 4 undef) fun z4 => asL (t.getD 5 undef) fun z5p z5n z5c => asI .i64 (t.getD 6 undef) fun z6 => asI .i64 (t.getD 7 undef) fun z7 => asI .i64 (t.getD 9 undef) fun z9 => (straightedgeref02_D_Mul.H K n).2.2 z2 z3 z4 z5p z5n z5c z6 z7 z9 w
  | _ => False
theorem straightedgeref02_D_Mul.t3 (K : Value → World → Prop) (n : Nat) (z2 : Option Addr) (z3 : Option Addr) (z4 : Option Addr) (z5p : Option Addr) (z5n z5c : Nat) (z6 : Int) (u : Nat → Value) (w : World) (h : (straightedgeref02_D_Mul.H K (n + 1)).1 z2 z3 z4 z5p z5n z5c z6 w) :
    exT prog [3, 7, 13] (straightedgeref02_D_Mul.hd K n) Try.f19 3 96 [(2, (.pointer z2)), (3, (.pointer z3)), (4, (.pointer z4)), (5, (.slice z5p z5n z5c)), (6, (.int .i64 z6))] u w K := Eq.mp (by kernel_rfl) h
theorem straightedgeref02_D_Mul.t7 (K : Value → World → Prop) (n : Nat) (z2 : Option Addr) (z3 : Option Addr) (z4 : Option Addr) (z5p : Option Addr) (z5n z5c : Nat) (z6 : Int) (z7 : Int) (z8 : Int) (u : Nat → Value) (w : World) (h : (straightedgeref02_D_Mul.H K (n + 1)).2.1 z2 z3 z4 z5p z5n z5c z6 z7 z8 w) :
    exT prog [3, 7, 13] (straightedgeref02_D_Mul.hd K n) Try.f19 7 96 [(2, (.pointer z2)), (3, (.pointer z3)), (4, (.pointer z4)), (5, (.slice z5p z5n z5c)), (6, (.int .i64 z6)), (7, (.int .i64 z7)), (8, (.int .i64 z8))] u w K := Eq.mp (by kernel_rfl) h
theorem straightedgeref02_D_Mul.t13 (K : Value → World → Prop) (n : Nat) (z2 : Option Addr) (z3 : Option Addr) (z4 : Option Addr) (z5p : Option Addr) (z5n z5c : Nat) (z6 : Int) (z7 : Int) (z9 : Int) (u : Nat → Value) (w : World) (h : (straightedgeref02_D_Mul.H K (n + 1)).2.2 z2 z3 z4 z5p z5n z5c z6 z7 z9 w) :
    exT prog [3, 7, 13] (straightedgeref02_D_Mul.hd K n) Try.f19 13 96 [(2, (.pointer z2)), (3, (.pointer z3)), (4, (.pointer z4)), (5, (.slice z5p z5n z5c)), (6, (.int .i64 z6)), (7, (.int .i64 z7)), (9, (.int .i64 z9))] u w K := Eq.mp (by kernel_rfl) h
theorem straightedgeref02_D_Mul.ok (fu : Nat) {A0_0 : Bool} {A0_1p : Option Addr} {A0_1n A0_1c : Nat} {A0_2 : Int} {A1_0 : Bool} {A1_1p : Option Addr} {A1_1n A1_1c : Nat} {A1_2 : Int} {w : World} {K : Value → World → Prop} (h : straightedgeref02_D_Mul.x fu A0_0 A0_1p A0_1n A0_1c A0_2 A1_0 A1_1p A1_1n A1_1c A1_2 w K) : straightedgeref02_D_Mul.call [(.agg ⟨[(.bool A0_0), (.slice A0_1p A0_1n A0_1c), (.int .i64 A0_2)]⟩), (.agg ⟨[(.bool A1_0), (.slice A1_1p A1_1n A1_1c), (.int .i64 A1_2)]⟩)] w K := by
  refine callF_of_ex (cuts := [3, 7, 13]) (H := straightedgeref02_D_Mul.hd K) (N := 96) Try.func19 rfl mixed (by kernel_rfl) ?_ ?_ ?_ rfl (n := fu) (Eq.mp (by kernel_rfl) h)
  · intro id hid; simp only [List.mem_cons, List.not_mem_nil, or_false] at hid; rcases hid with rfl | rfl | rfl
    · exact (by kernel_rfl : (stacks (bodyOf Try.f19) []).filter (headIs 3) = [at_ (bodyOf Try.f19) 3])
    · exact (by kernel_rfl : (stacks (bodyOf Try.f19) []).filter (headIs 7) = [at_ (bodyOf Try.f19) 7])
    · exact (by kernel_rfl : (stacks (bodyOf Try.f19) []).filter (headIs 13) = [at_ (bodyOf Try.f19) 13])
  · intro id t w h
    unfold straightedgeref02_D_Mul.hd at h
    split at h
    · obtain ⟨z2, _, h⟩ := asP_elim h
      obtain ⟨z3, _, h⟩ := asP_elim h
      obtain ⟨z4, _, h⟩ := asP_elim h
      obtain ⟨z5p, z5n, z5c, _, h⟩ := asL_elim h
      obtain ⟨z6, _, h⟩ := asI_elim h
      exact h
    · obtain ⟨z2, _, h⟩ := asP_elim h
      obtain ⟨z3, _, h⟩ := asP_elim h
      obtain ⟨z4, _, h⟩ := asP_elim h
      obtain ⟨z5p, z5n, z5c, _, h⟩ := asL_elim h
      obtain ⟨z6, _, h⟩ := asI_elim h
      obtain ⟨z7, _, h⟩ := asI_elim h
      obtain ⟨z8, _, h⟩ := asI_elim h
      exact h
    · obtain ⟨z2, _, h⟩ := asP_elim h
      obtain ⟨z3, _, h⟩ := asP_elim h
      obtain ⟨z4, _, h⟩ := asP_elim h
      obtain ⟨z5p, z5n, z5c, _, h⟩ := asL_elim h
      obtain ⟨z6, _, h⟩ := asI_elim h
      obtain ⟨z7, _, h⟩ := asI_elim h
      obtain ⟨z9, _, h⟩ := asI_elim h
      exact h
    · exact h
  · intro n id hid t w hl h; simp only [List.mem_cons, List.not_mem_nil, or_false] at hid; rcases hid with rfl | rfl | rfl
    · replace h : asP (t.getD 2 undef) fun z2 => asP (t.getD 3 undef) fun z3 => asP (t.getD 4 undef) fun z4 => asL (t.getD 5 undef) fun z5p z5n z5c => asI .i64 (t.getD 6 undef) fun z6 => (straightedgeref02_D_Mul.H K (n + 1)).1 z2 z3 z4 z5p z5n z5c z6 w := h
      obtain ⟨z2, e2, h⟩ := asP_elim h
      obtain ⟨z3, e3, h⟩ := asP_elim h
      obtain ⟨z4, e4, h⟩ := asP_elim h
      obtain ⟨z5p, z5n, z5c, e5, h⟩ := asL_elim h
      obtain ⟨z6, e6, h⟩ := asI_elim h
      rw [mk_of hl [(2, (.pointer z2)), (3, (.pointer z3)), (4, (.pointer z4)), (5, (.slice z5p z5n z5c)), (6, (.int .i64 z6))] (by simp only [List.forall_mem_cons, List.not_mem_nil, false_implies, implies_true, and_true]; exact ⟨e2, e3, e4, e5, e6⟩)]
      exact straightedgeref02_D_Mul.t3 K n z2 z3 z4 z5p z5n z5c z6 _ w h
    · replace h : asP (t.getD 2 undef) fun z2 => asP (t.getD 3 undef) fun z3 => asP (t.getD 4 undef) fun z4 => asL (t.getD 5 undef) fun z5p z5n z5c => asI .i64 (t.getD 6 undef) fun z6 => asI .i64 (t.getD 7 undef) fun z7 => asI .i64 (t.getD 8 undef) fun z8 => (straightedgeref02_D_Mul.H K (n + 1)).2.1 z2 z3 z4 z5p z5n z5c z6 z7 z8 w := h
      obtain ⟨z2, e2, h⟩ := asP_elim h
      obtain ⟨z3, e3, h⟩ := asP_elim h
      obtain ⟨z4, e4, h⟩ := asP_elim h
      obtain ⟨z5p, z5n, z5c, e5, h⟩ := asL_elim h
      obtain ⟨z6, e6, h⟩ := asI_elim h
      obtain ⟨z7, e7, h⟩ := asI_elim h
      obtain ⟨z8, e8, h⟩ := asI_elim h
      rw [mk_of hl [(2, (.pointer z2)), (3, (.pointer z3)), (4, (.pointer z4)), (5, (.slice z5p z5n z5c)), (6, (.int .i64 z6)), (7, (.int .i64 z7)), (8, (.int .i64 z8))] (by simp only [List.forall_mem_cons, List.not_mem_nil, false_implies, implies_true, and_true]; exact ⟨e2, e3, e4, e5, e6, e7, e8⟩)]
      exact straightedgeref02_D_Mul.t7 K n z2 z3 z4 z5p z5n z5c z6 z7 z8 _ w h
    · replace h : asP (t.getD 2 undef) fun z2 => asP (t.getD 3 undef) fun z3 => asP (t.getD 4 undef) fun z4 => asL (t.getD 5 undef) fun z5p z5n z5c => asI .i64 (t.getD 6 undef) fun z6 => asI .i64 (t.getD 7 undef) fun z7 => asI .i64 (t.getD 9 undef) fun z9 => (straightedgeref02_D_Mul.H K (n + 1)).2.2 z2 z3 z4 z5p z5n z5c z6 z7 z9 w := h
      obtain ⟨z2, e2, h⟩ := asP_elim h
      obtain ⟨z3, e3, h⟩ := asP_elim h
      obtain ⟨z4, e4, h⟩ := asP_elim h
      obtain ⟨z5p, z5n, z5c, e5, h⟩ := asL_elim h
      obtain ⟨z6, e6, h⟩ := asI_elim h
      obtain ⟨z7, e7, h⟩ := asI_elim h
      obtain ⟨z9, e9, h⟩ := asI_elim h
      rw [mk_of hl [(2, (.pointer z2)), (3, (.pointer z3)), (4, (.pointer z4)), (5, (.slice z5p z5n z5c)), (6, (.int .i64 z6)), (7, (.int .i64 z7)), (9, (.int .i64 z9))] (by simp only [List.forall_mem_cons, List.not_mem_nil, false_implies, implies_true, and_true]; exact ⟨e2, e3, e4, e5, e6, e7, e9⟩)]
      exact straightedgeref02_D_Mul.t13 K n z2 z3 z4 z5p z5n z5c z6 z7 z9 _ w h

/-! ### (straightedge/straightedgeref02.D).Sub: function 20 -/
def straightedgeref02_D_Sub.x (A0_0 : Bool) (A0_1p : Option Addr) (A0_1n A0_1c : Nat) (A0_2 : Int) (A1_0 : Bool) (A1_1p : Option Addr) (A1_1n A1_1c : Nat) (A1_2 : Int) (w : World) (K : Value → World → Prop) : Prop := newB [(.bool A0_0), (.slice A0_1p A0_1n A0_1c), (.int .i64 A0_2)] 45 w fun q1 w2 => newB [(.bool A1_0), (.slice A1_1p A1_1n A1_1c), (.int .i64 A1_2)] 45 w2 fun q3 w4 => newB [(.bool false), (.slice none 0 0), (.int .i64 0)] 45 w4 fun q5 w6 => ∃ b7 : Bool, ∃ (a8 : Option Addr) (n9 c10 : Nat), ∃ i11 : Int, w6.drew.cell? q1 = some (.bool b7) ∧ w6.drew.cell? (q1.add 1) = some (.slice a8 n9 c10) ∧ w6.drew.cell? (q1.add 2) = some (.int .i64 i11) ∧ ∃ b12 : Bool, ∃ (a13 : Option Addr) (n14 c15 : Nat), ∃ i16 : Int, w6.drew.cell? q3 = some (.bool b12) ∧ w6.drew.cell? (q3.add 1) = some (.slice a13 n14 c15) ∧ w6.drew.cell? (q3.add 2) = some (.int .i64 i16) ∧ straightedgeref02_D_Minus.call [(.agg ⟨[(.bool b12), (.slice a13 n14 c15), (.int .i64 i16)]⟩)] w6.drew fun v17 w18 => ∃ b19 : Bool, ∃ (a20 : Option Addr) (n21 c22 : Nat), ∃ i23 : Int, v17 = (.agg ⟨[(.bool b19), (.slice a20 n21 c22), (.int .i64 i23)]⟩) ∧ Kept w6.drew w18 ∧ straightedgeref02_D_Add.call [(.agg ⟨[(.bool b7), (.slice a8 n9 c10), (.int .i64 i11)]⟩), (.agg ⟨[(.bool b19), (.slice a20 n21 c22), (.int .i64 i23)]⟩)] w18 fun v24 w25 => ∃ b26 : Bool, ∃ (a27 : Option Addr) (n28 c29 : Nat), ∃ i30 : Int, v24 = (.agg ⟨[(.bool b26), (.slice a27 n28 c29), (.int .i64 i30)]⟩) ∧ (w25.cell? q5).isSome = true ∧ w25.frozen? q5 = false ∧ ((w25.setCell q5 (.bool b26)).cell? (q5.add 1)).isSome = true ∧ (w25.setCell q5 (.bool b26)).frozen? (q5.add 1) = false ∧ (((w25.setCell q5 (.bool b26)).setCell (q5.add 1) (.slice a27 n28 c29)).cell? (q5.add 2)).isSome = true ∧ ((w25.setCell q5 (.bool b26)).setCell (q5.add 1) (.slice a27 n28 c29)).frozen? (q5.add 2) = false ∧ ∃ b31 : Bool, ∃ (a32 : Option Addr) (n33 c34 : Nat), ∃ i35 : Int, (((w25.setCell q5 (.bool b26)).setCell (q5.add 1) (.slice a27 n28 c29)).setCell (q5.add 2) (.int .i64 i30)).cell? q5 = some (.bool b31) ∧ (((w25.setCell q5 (.bool b26)).setCell (q5.add 1) (.slice a27 n28 c29)).setCell (q5.add 2) (.int .i64 i30)).cell? (q5.add 1) = some (.slice a32 n33 c34) ∧ (((w25.setCell q5 (.bool b26)).setCell (q5.add 1) (.slice a27 n28 c29)).setCell (q5.add 2) (.int .i64 i30)).cell? (q5.add 2) = some (.int .i64 i35) ∧ K (.agg ⟨[(.bool b31), (.slice a32 n33 c34), (.int .i64 i35)]⟩) (((w25.setCell q5 (.bool b26)).setCell (q5.add 1) (.slice a27 n28 c29)).setCell (q5.add 2) (.int .i64 i30))
theorem straightedgeref02_D_Sub.ok {A0_0 : Bool} {A0_1p : Option Addr} {A0_1n A0_1c : Nat} {A0_2 : Int} {A1_0 : Bool} {A1_1p : Option Addr} {A1_1n A1_1c : Nat} {A1_2 : Int} {w : World} {K : Value → World → Prop} (h : straightedgeref02_D_Sub.x A0_0 A0_1p A0_1n A0_1c A0_2 A1_0 A1_1p A1_1n A1_1c A1_2 w K) : straightedgeref02_D_Sub.call [(.agg ⟨[(.bool A0_0), (.slice A0_1p A0_1n A0_1c), (.int .i64 A0_2)]⟩), (.agg ⟨[(.bool A1_0), (.slice A1_1p A1_1n A1_1c), (.int .i64 A1_2)]⟩)] w K :=
  callF_of_ex0 (f := Try.f20) Try.func20 rfl mixed (by kernel_rfl) (Eq.mp (by kernel_rfl) h)

/-! ### (straightedge/straightedgeref02.D).Abs: function 21 -/
def straightedgeref02_D_Abs.x (A0_0 : Bool) (A0_1p : Option Addr) (A0_1n A0_1c : Nat) (A0_2 : Int) (w : World) (K : Value → World → Prop) : Prop := newB [(.bool A0_0), (.slice A0_1p A0_1n A0_1c), (.int .i64 A0_2)] 45 w fun q1 w2 => newB [(.bool false), (.slice none 0 0), (.int .i64 0)] 45 w2 fun q3 w4 => (w4.cell? q1).isSome = true ∧ w4.frozen? q1 = false ∧ ∃ b5 : Bool, ∃ (a6 : Option Addr) (n7 c8 : Nat), ∃ i9 : Int, (w4.setCell q1 (.bool false)).cell? q1 = some (.bool b5) ∧ (w4.setCell q1 (.bool false)).cell? (q1.add 1) = some (.slice a6 n7 c8) ∧ (w4.setCell q1 (.bool false)).cell? (q1.add 2) = some (.int .i64 i9) ∧ ((w4.setCell q1 (.bool false)).cell? q3).isSome = true ∧ (w4.setCell q1 (.bool false)).frozen? q3 = false ∧ (((w4.setCell q1 (.bool false)).setCell q3 (.bool b5)).cell? (q3.add 1)).isSome = true ∧ ((w4.setCell q1 (.bool false)).setCell q3 (.bool b5)).frozen? (q3.add 1) = false ∧ ((((w4.setCell q1 (.bool false)).setCell q3 (.bool b5)).setCell (q3.add 1) (.slice a6 n7 c8)).cell? (q3.add 2)).isSome = true ∧ (((w4.setCell q1 (.bool false)).setCell q3 (.bool b5)).setCell (q3.add 1) (.slice a6 n7 c8)).frozen? (q3.add 2) = false ∧ ∃ b10 : Bool, ∃ (a11 : Option Addr) (n12 c13 : Nat), ∃ i14 : Int, ((((w4.setCell q1 (.bool false)).setCell q3 (.bool b5)).setCell (q3.add 1) (.slice a6 n7 c8)).setCell (q3.add 2) (.int .i64 i9)).cell? q3 = some (.bool b10) ∧ ((((w4.setCell q1 (.bool false)).setCell q3 (.bool b5)).setCell (q3.add 1) (.slice a6 n7 c8)).setCell (q3.add 2) (.int .i64 i9)).cell? (q3.add 1) = some (.slice a11 n12 c13) ∧ ((((w4.setCell q1 (.bool false)).setCell q3 (.bool b5)).setCell (q3.add 1) (.slice a6 n7 c8)).setCell (q3.add 2) (.int .i64 i9)).cell? (q3.add 2) = some (.int .i64 i14) ∧ K (.agg ⟨[(.bool b10), (.slice a11 n12 c13), (.int .i64 i14)]⟩) ((((w4.setCell q1 (.bool false)).setCell q3 (.bool b5)).setCell (q3.add 1) (.slice a6 n7 c8)).setCell (q3.add 2) (.int .i64 i9))
theorem straightedgeref02_D_Abs.ok {A0_0 : Bool} {A0_1p : Option Addr} {A0_1n A0_1c : Nat} {A0_2 : Int} {w : World} {K : Value → World → Prop} (h : straightedgeref02_D_Abs.x A0_0 A0_1p A0_1n A0_1c A0_2 w K) : straightedgeref02_D_Abs.call [(.agg ⟨[(.bool A0_0), (.slice A0_1p A0_1n A0_1c), (.int .i64 A0_2)]⟩)] w K :=
  callF_of_ex0 (f := Try.f21) Try.func21 rfl mixed (by kernel_rfl) (Eq.mp (by kernel_rfl) h)

/-! ### (straightedge/straightedgeref02.D).Cmp: function 22 -/
def straightedgeref02_D_Cmp.x (A0_0 : Bool) (A0_1p : Option Addr) (A0_1n A0_1c : Nat) (A0_2 : Int) (A1_0 : Bool) (A1_1p : Option Addr) (A1_1n A1_1c : Nat) (A1_2 : Int) (w : World) (K : Value → World → Prop) : Prop := newB [(.bool A0_0), (.slice A0_1p A0_1n A0_1c), (.int .i64 A0_2)] 45 w fun q1 w2 => newB [(.bool A1_0), (.slice A1_1p A1_1n A1_1c), (.int .i64 A1_2)] 45 w2 fun q3 w4 => ∃ b5 : Bool, ∃ (a6 : Option Addr) (n7 c8 : Nat), ∃ i9 : Int, w4.cell? q1 = some (.bool b5) ∧ w4.cell? (q1.add 1) = some (.slice a6 n7 c8) ∧ w4.cell? (q1.add 2) = some (.int .i64 i9) ∧ ∃ b10 : Bool, ∃ (a11 : Option Addr) (n12 c13 : Nat), ∃ i14 : Int, w4.cell? q3 = some (.bool b10) ∧ w4.cell? (q3.add 1) = some (.slice a11 n12 c13) ∧ w4.cell? (q3.add 2) = some (.int .i64 i14) ∧ straightedgeref02_D_Sub.call [(.agg ⟨[(.bool b5), (.slice a6 n7 c8), (.int .i64 i9)]⟩), (.agg ⟨[(.bool b10), (.slice a11 n12 c13), (.int .i64 i14)]⟩)] w4 fun v15 w16 => ∃ b17 : Bool, ∃ (a18 : Option Addr) (n19 c20 : Nat), ∃ i21 : Int, v15 = (.agg ⟨[(.bool b17), (.slice a18 n19 c20), (.int .i64 i21)]⟩) ∧ straightedgeref02_D_Sign.call [(.agg ⟨[(.bool b17), (.slice a18 n19 c20), (.int .i64 i21)]⟩)] w16 fun v22 w23 => ∃ i24 : Int, v22 = (.int .i64 i24) ∧ K (.int .i64 i24) w23
theorem straightedgeref02_D_Cmp.ok {A0_0 : Bool} {A0_1p : Option Addr} {A0_1n A0_1c : Nat} {A0_2 : Int} {A1_0 : Bool} {A1_1p : Option Addr} {A1_1n A1_1c : Nat} {A1_2 : Int} {w : World} {K : Value → World → Prop} (h : straightedgeref02_D_Cmp.x A0_0 A0_1p A0_1n A0_1c A0_2 A1_0 A1_1p A1_1n A1_1c A1_2 w K) : straightedgeref02_D_Cmp.call [(.agg ⟨[(.bool A0_0), (.slice A0_1p A0_1n A0_1c), (.int .i64 A0_2)]⟩), (.agg ⟨[(.bool A1_0), (.slice A1_1p A1_1n A1_1c), (.int .i64 A1_2)]⟩)] w K :=
  callF_of_ex0 (f := Try.f22) Try.func22 rfl mixed (by kernel_rfl) (Eq.mp (by kernel_rfl) h)

/-! ### (straightedge/straightedgeref02.D).Shift: function 23 -/
def straightedgeref02_D_Shift.c4 (K : Value → World → Prop) : Nat → Option Addr → Option Addr → Int → Int → Option Addr → Nat → Nat → Int → World → Prop
  | 0, _, _, _, _, _, _, _, _, _ => False
  | fu + 1, z2, z4, z5, z6, z7p, z7n, z7c, z8, w => ptrSome z2 fun q1 => ∃ (a2 : Option Addr) (n3 c4 : Nat), w.cell? (q1.add 1) = some (.slice a2 n3 c4) ∧ br (decide (z8 < ((n3 : Nat) : Int))) (ptrSome z2 fun q5 => ∃ (a6 : Option Addr) (n7 c8 : Nat), w.drew.cell? (q5.add 1) = some (.slice a6 n7 c8) ∧ ptrSome a6 fun q9 => (0 : Int) ≤ z8 ∧ z8 < ((n7 : Nat) : Int) ∧ ∃ i10 : Int, w.drew.cell? (q9.add (Int.toNat z8)) = some (.int .i64 i10) ∧ straightedgeref02_power.call [(.int .i64 z6)] w.drew fun v11 w12 => ∃ i13 : Int, v11 = (.int .i64 i13) ∧ Kept w.drew w12 ∧ ptrSome z7p fun q14 => (0 : Int) ≤ z8 ∧ z8 < ((z7n : Nat) : Int) ∧ ∃ i15 : Int, w12.cell? (q14.add (Int.toNat z8)) = some (.int .i64 i15) ∧ ptrSome z7p fun q16 => (0 : Int) ≤ z8 ∧ z8 < ((z7n : Nat) : Int) ∧ (w12.cell? (q16.add (Int.toNat z8))).isSome = true ∧ w12.frozen? (q16.add (Int.toNat z8)) = false ∧ ptrSome z7p fun q17 => (0 : Int) ≤ (IntKind.i64.wrap (z8 + 1)) ∧ (IntKind.i64.wrap (z8 + 1)) < ((z7n : Nat) : Int) ∧ ((w12.setCell (q16.add (Int.toNat z8)) (.int .i64 (IntKind.i64.wrap (i15 + (Int.tmod (IntKind.i64.wrap (i10 * i13)) 65536))))).cell? (q17.add (Int.toNat (IntKind.i64.wrap (z8 + 1))))).isSome = true ∧ (w12.setCell (q16.add (Int.toNat z8)) (.int .i64 (IntKind.i64.wrap (i15 + (Int.tmod (IntKind.i64.wrap (i10 * i13)) 65536))))).frozen? (q17.add (Int.toNat (IntKind.i64.wrap (z8 + 1)))) = false ∧ straightedgeref02_D_Shift.c4 K fu z2 z4 z5 z6 z7p z7n z7c (IntKind.i64.wrap (z8 + 1)) ((w12.setCell (q16.add (Int.toNat z8)) (.int .i64 (IntKind.i64.wrap (i15 + (Int.tmod (IntKind.i64.wrap (i10 * i13)) 65536))))).setCell (q17.add (Int.toNat (IntKind.i64.wrap (z8 + 1)))) (.int .i64 (IntKind.i64.wrap (Int.tdiv (IntKind.i64.wrap (i10 * i13)) 65536))))) (ptrSome z2 fun q18 => ∃ b19 : Bool, w.cell? q18 = some (.bool b19) ∧ ptrSome z2 fun q20 => ∃ i21 : Int, w.cell? (q20.add 2) = some (.int .i64 i21) ∧ straightedgeref02_Made.call [(.bool b19), (.slice z7p z7n z7c), (.int .i64 (IntKind.i64.wrap (i21 + z5)))] w fun v22 w23 => ∃ b24 : Bool, ∃ (a25 : Option Addr) (n26 c27 : Nat), ∃ i28 : Int, v22 = (.agg ⟨[(.bool b24), (.slice a25 n26 c27), (.int .i64 i28)]⟩) ∧ ptrSome z4 fun q29 => (w23.cell? q29).isSome = true ∧ w23.frozen? q29 = false ∧ ((w23.setCell q29 (.bool b24)).cell? (q29.add 1)).isSome = true ∧ (w23.setCell q29 (.bool b24)).frozen? (q29.add 1) = false ∧ (((w23.setCell q29 (.bool b24)).setCell (q29.add 1) (.slice a25 n26 c27)).cell? (q29.add 2)).isSome = true ∧ ((w23.setCell q29 (.bool b24)).setCell (q29.add 1) (.slice a25 n26 c27)).frozen? (q29.add 2) = false ∧ ptrSome z4 fun q30 => ∃ b31 : Bool, ∃ (a32 : Option Addr) (n33 c34 : Nat), ∃ i35 : Int, (((w23.setCell q29 (.bool b24)).setCell (q29.add 1) (.slice a25 n26 c27)).setCell (q29.add 2) (.int .i64 i28)).cell? q30 = some (.bool b31) ∧ (((w23.setCell q29 (.bool b24)).setCell (q29.add 1) (.slice a25 n26 c27)).setCell (q29.add 2) (.int .i64 i28)).cell? (q30.add 1) = some (.slice a32 n33 c34) ∧ (((w23.setCell q29 (.bool b24)).setCell (q29.add 1) (.slice a25 n26 c27)).setCell (q29.add 2) (.int .i64 i28)).cell? (q30.add 2) = some (.int .i64 i35) ∧ K (.agg ⟨[(.bool b31), (.slice a32 n33 c34), (.int .i64 i35)]⟩) (((w23.setCell q29 (.bool b24)).setCell (q29.add 1) (.slice a25 n26 c27)).setCell (q29.add 2) (.int .i64 i28)))
def straightedgeref02_D_Shift.x (fu : Nat) (A0_0 : Bool) (A0_1p : Option Addr) (A0_1n A0_1c : Nat) (A0_2 : Int) (A1 : Int) (w : World) (K : Value → World → Prop) : Prop := newB [(.bool A0_0), (.slice A0_1p A0_1n A0_1c), (.int .i64 A0_2)] 45 w fun q1 w2 => newB [(.bool false), (.slice none 0 0), (.int .i64 0)] 45 w2 fun q3 w4 => straightedgeref02_floor.call [(.int .i64 A1)] w4 fun v5 w6 => ∃ i7 : Int, ∃ i8 : Int, v5 = (.tuple ⟨[(.int .i64 i7), (.int .i64 i8)]⟩) ∧ ∃ (a9 : Option Addr) (n10 c11 : Nat), w6.cell? (q1.add 1) = some (.slice a9 n10 c11) ∧ (0 : Int) ≤ (IntKind.i64.wrap (((n10 : Nat) : Int) + 1)) ∧ ((IntKind.i64.wrap (((n10 : Nat) : Int) + 1)) : Int) ≤ (IntKind.i64.wrap (((n10 : Nat) : Int) + 1)) ∧ ((8 : Nat) : Int) * (IntKind.i64.wrap (((n10 : Nat) : Int) + 1)) ≤ 281474976710656 ∧ (IntKind.i64.wrap (((n10 : Nat) : Int) + 1)) ≤ 9223372036854775807 ∧ newB ((List.range (Int.toNat (IntKind.i64.wrap (((n10 : Nat) : Int) + 1)))).map fun j => List.getD [(.int .i64 0)] (j % 1) default) 3 w6 fun q12 w13 => straightedgeref02_D_Shift.c4 K fu (some q1) (some q3) i7 i8 (some q12) (Int.toNat (IntKind.i64.wrap (((n10 : Nat) : Int) + 1))) (Int.toNat (IntKind.i64.wrap (((n10 : Nat) : Int) + 1))) 0 w13
def straightedgeref02_D_Shift.hd (K : Value → World → Prop) (n id : Nat) (t : List Value) (w : World) : Prop :=
  match id with
  | 4 => asP (t.getD 2 undef) fun z2 => asP (t.getD 4 undef) fun z4 => asI .i64 (t.getD 5 undef) fun z5 => asI .i64 (t.getD 6 undef) fun z6 => asL (t.getD 7 undef) fun z7p z7n z7c => asI .i64 (t.getD 8 undef) fun z8 => straightedgeref02_D_Shift.c4 K n z2 z4 z5 z6 z7p z7n z7c z8 w
  | _ => False
theorem straightedgeref02_D_Shift.t4 (K : Value → World → Prop) (n : Nat) (z2 : Option Addr) (z4 : Option Addr) (z5 : Int) (z6 : Int) (z7p : Option Addr) (z7n z7c : Nat) (z8 : Int) (u : Nat → Value) (w : World) (h : straightedgeref02_D_Shift.c4 K (n + 1) z2 z4 z5 z6 z7p z7n z7c z8 w) :
    exT prog [4] (straightedgeref02_D_Shift.hd K n) Try.f23 4 59 [(2, (.pointer z2)), (4, (.pointer z4)), (5, (.int .i64 z5)), (6, (.int .i64 z6)), (7, (.slice z7p z7n z7c)), (8, (.int .i64 z8))] u w K := Eq.mp (by kernel_rfl) h
theorem straightedgeref02_D_Shift.ok (fu : Nat) {A0_0 : Bool} {A0_1p : Option Addr} {A0_1n A0_1c : Nat} {A0_2 : Int} {A1 : Int} {w : World} {K : Value → World → Prop} (h : straightedgeref02_D_Shift.x fu A0_0 A0_1p A0_1n A0_1c A0_2 A1 w K) : straightedgeref02_D_Shift.call [(.agg ⟨[(.bool A0_0), (.slice A0_1p A0_1n A0_1c), (.int .i64 A0_2)]⟩), (.int .i64 A1)] w K := by
  refine callF_of_ex (cuts := [4]) (H := straightedgeref02_D_Shift.hd K) (N := 59) Try.func23 rfl mixed (by kernel_rfl) ?_ ?_ ?_ rfl (n := fu) (Eq.mp (by kernel_rfl) h)
  · intro id hid; simp only [List.mem_cons, List.not_mem_nil, or_false] at hid; subst hid
    · exact (by kernel_rfl : (stacks (bodyOf Try.f23) []).filter (headIs 4) = [at_ (bodyOf Try.f23) 4])
  · intro id t w h
    unfold straightedgeref02_D_Shift.hd at h
    split at h
    · obtain ⟨z2, _, h⟩ := asP_elim h
      obtain ⟨z4, _, h⟩ := asP_elim h
      obtain ⟨z5, _, h⟩ := asI_elim h
      obtain ⟨z6, _, h⟩ := asI_elim h
      obtain ⟨z7p, z7n, z7c, _, h⟩ := asL_elim h
      obtain ⟨z8, _, h⟩ := asI_elim h
      exact h
    · exact h
  · intro n id hid t w hl h; simp only [List.mem_cons, List.not_mem_nil, or_false] at hid; subst hid
    · replace h : asP (t.getD 2 undef) fun z2 => asP (t.getD 4 undef) fun z4 => asI .i64 (t.getD 5 undef) fun z5 => asI .i64 (t.getD 6 undef) fun z6 => asL (t.getD 7 undef) fun z7p z7n z7c => asI .i64 (t.getD 8 undef) fun z8 => straightedgeref02_D_Shift.c4 K (n + 1) z2 z4 z5 z6 z7p z7n z7c z8 w := h
      obtain ⟨z2, e2, h⟩ := asP_elim h
      obtain ⟨z4, e4, h⟩ := asP_elim h
      obtain ⟨z5, e5, h⟩ := asI_elim h
      obtain ⟨z6, e6, h⟩ := asI_elim h
      obtain ⟨z7p, z7n, z7c, e7, h⟩ := asL_elim h
      obtain ⟨z8, e8, h⟩ := asI_elim h
      rw [mk_of hl [(2, (.pointer z2)), (4, (.pointer z4)), (5, (.int .i64 z5)), (6, (.int .i64 z6)), (7, (.slice z7p z7n z7c)), (8, (.int .i64 z8))] (by simp only [List.forall_mem_cons, List.not_mem_nil, false_implies, implies_true, and_true]; exact ⟨e2, e4, e5, e6, e7, e8⟩)]
      exact straightedgeref02_D_Shift.t4 K n z2 z4 z5 z6 z7p z7n z7c z8 _ w h

/-! ### (straightedge/straightedgeref02.D).Add: function 24 -/
def straightedgeref02_D_Add.b5 (K : Value → World → Prop) (h5 : Option Addr → Option Addr → Option Addr → Int → Int → Option Addr → Nat → Nat → Int → World → Prop) (h7 : Option Addr → Option Addr → Option Addr → Int → Int → Option Addr → Nat → Nat → Int → Bool → Int → World → Prop) (h16 : Option Addr → Option Addr → Option Addr → Int → Int → Option Addr → Nat → Nat → Int → Int → World → Prop) (z2 : Option Addr) (z3 : Option Addr) (z4 : Option Addr) (z5 : Int) (z6 : Int) (z7p : Option Addr) (z7n z7c : Nat) (z8 : Int) (w : World) : Prop := ptrSome z2 fun q1 => ∃ b2 : Bool, w.cell? q1 = some (.bool b2) ∧ br b2 (h7 z2 z3 z4 z5 z6 z7p z7n z7c z8 true z5 w) (ptrSome z3 fun q3 => ∃ b4 : Bool, w.cell? q3 = some (.bool b4) ∧ h7 z2 z3 z4 z5 z6 z7p z7n z7c z8 b4 z5 w)
def straightedgeref02_D_Add.b7 (K : Value → World → Prop) (h5 : Option Addr → Option Addr → Option Addr → Int → Int → Option Addr → Nat → Nat → Int → World → Prop) (h7 : Option Addr → Option Addr → Option Addr → Int → Int → Option Addr → Nat → Nat → Int → Bool → Int → World → Prop) (h16 : Option Addr → Option Addr → Option Addr → Int → Int → Option Addr → Nat → Nat → Int → Int → World → Prop) (z2 : Option Addr) (z3 : Option Addr) (z4 : Option Addr) (z5 : Int) (z6 : Int) (z7p : Option Addr) (z7n z7c : Nat) (z8 : Int) (z9 : Bool) (z10 : Int) (w : World) : Prop := br (decide (z10 < z6)) (ptrSome z2 fun q1 => ∃ b2 : Bool, ∃ (a3 : Option Addr) (n4 c5 : Nat), ∃ i6 : Int, w.drew.cell? q1 = some (.bool b2) ∧ w.drew.cell? (q1.add 1) = some (.slice a3 n4 c5) ∧ w.drew.cell? (q1.add 2) = some (.int .i64 i6) ∧ ptrSome z3 fun q7 => ∃ b8 : Bool, ∃ (a9 : Option Addr) (n10 c11 : Nat), ∃ i12 : Int, w.drew.cell? q7 = some (.bool b8) ∧ w.drew.cell? (q7.add 1) = some (.slice a9 n10 c11) ∧ w.drew.cell? (q7.add 2) = some (.int .i64 i12) ∧ straightedgeref02_D_at.call [(.agg ⟨[(.bool b2), (.slice a3 n4 c5), (.int .i64 i6)]⟩), (.int .i64 z10)] w.drew fun v13 w14 => ∃ i15 : Int, v13 = (.int .i64 i15) ∧ Kept w.drew w14 ∧ straightedgeref02_D_at.call [(.agg ⟨[(.bool b8), (.slice a9 n10 c11), (.int .i64 i12)]⟩), (.int .i64 z10)] w14 fun v16 w17 => ∃ i18 : Int, v16 = (.int .i64 i18) ∧ newB [(.int .i64 (Int.tmod (IntKind.i64.wrap ((IntKind.i64.wrap (z8 + i15)) + i18)) 65536))] 3 w17 fun q19 w20 => Raw prog (Builtin.append_ #[31, 31] 31 ⟨[(.slice z7p z7n z7c), (.slice (some q19) 1 1)]⟩) w20 fun v21 w22 => ∃ (a23 : Option Addr) (n24 c25 : Nat), v21 = .slice a23 n24 c25 ∧ h7 z2 z3 z4 z5 z6 a23 n24 c25 (IntKind.i64.wrap (Int.tdiv (IntKind.i64.wrap ((IntKind.i64.wrap (z8 + i15)) + i18)) 65536)) z9 (IntKind.i64.wrap (z10 + 1)) w22) (newB [(.int .i64 z8)] 3 w fun q26 w27 => Raw prog (Builtin.append_ #[31, 31] 31 ⟨[(.slice z7p z7n z7c), (.slice (some q26) 1 1)]⟩) w27 fun v28 w29 => ∃ (a30 : Option Addr) (n31 c32 : Nat), v28 = .slice a30 n31 c32 ∧ straightedgeref02_Made.call [(.bool z9), (.slice a30 n31 c32), (.int .i64 z5)] w29 fun v33 w34 => ∃ b35 : Bool, ∃ (a36 : Option Addr) (n37 c38 : Nat), ∃ i39 : Int, v33 = (.agg ⟨[(.bool b35), (.slice a36 n37 c38), (.int .i64 i39)]⟩) ∧ ptrSome z4 fun q40 => (w34.cell? q40).isSome = true ∧ w34.frozen? q40 = false ∧ ((w34.setCell q40 (.bool b35)).cell? (q40.add 1)).isSome = true ∧ (w34.setCell q40 (.bool b35)).frozen? (q40.add 1) = false ∧ (((w34.setCell q40 (.bool b35)).setCell (q40.add 1) (.slice a36 n37 c38)).cell? (q40.add 2)).isSome = true ∧ ((w34.setCell q40 (.bool b35)).setCell (q40.add 1) (.slice a36 n37 c38)).frozen? (q40.add 2) = false ∧ ptrSome z4 fun q41 => ∃ b42 : Bool, ∃ (a43 : Option Addr) (n44 c45 : Nat), ∃ i46 : Int, (((w34.setCell q40 (.bool b35)).setCell (q40.add 1) (.slice a36 n37 c38)).setCell (q40.add 2) (.int .i64 i39)).cell? q41 = some (.bool b42) ∧ (((w34.setCell q40 (.bool b35)).setCell (q40.add 1) (.slice a36 n37 c38)).setCell (q40.add 2) (.int .i64 i39)).cell? (q41.add 1) = some (.slice a43 n44 c45) ∧ (((w34.setCell q40 (.bool b35)).setCell (q40.add 1) (.slice a36 n37 c38)).setCell (q40.add 2) (.int .i64 i39)).cell? (q41.add 2) = some (.int .i64 i46) ∧ K (.agg ⟨[(.bool b42), (.slice a43 n44 c45), (.int .i64 i46)]⟩) (((w34.setCell q40 (.bool b35)).setCell (q40.add 1) (.slice a36 n37 c38)).setCell (q40.add 2) (.int .i64 i39)))
def straightedgeref02_D_Add.b16 (K : Value → World → Prop) (h5 : Option Addr → Option Addr → Option Addr → Int → Int → Option Addr → Nat → Nat → Int → World → Prop) (h7 : Option Addr → Option Addr → Option Addr → Int → Int → Option Addr → Nat → Nat → Int → Bool → Int → World → Prop) (h16 : Option Addr → Option Addr → Option Addr → Int → Int → Option Addr → Nat → Nat → Int → Int → World → Prop) (z2 : Option Addr) (z3 : Option Addr) (z4 : Option Addr) (z5 : Int) (z6 : Int) (z7p : Option Addr) (z7n z7c : Nat) (z8 : Int) (z11 : Int) (w : World) : Prop := br (decide (z11 < z6)) (ptrSome z2 fun q1 => ∃ b2 : Bool, ∃ (a3 : Option Addr) (n4 c5 : Nat), ∃ i6 : Int, w.drew.cell? q1 = some (.bool b2) ∧ w.drew.cell? (q1.add 1) = some (.slice a3 n4 c5) ∧ w.drew.cell? (q1.add 2) = some (.int .i64 i6) ∧ ptrSome z3 fun q7 => ∃ b8 : Bool, ∃ (a9 : Option Addr) (n10 c11 : Nat), ∃ i12 : Int, w.drew.cell? q7 = some (.bool b8) ∧ w.drew.cell? (q7.add 1) = some (.slice a9 n10 c11) ∧ w.drew.cell? (q7.add 2) = some (.int .i64 i12) ∧ straightedgeref02_D_at.call [(.agg ⟨[(.bool b2), (.slice a3 n4 c5), (.int .i64 i6)]⟩), (.int .i64 z11)] w.drew fun v13 w14 => ∃ i15 : Int, v13 = (.int .i64 i15) ∧ Kept w.drew w14 ∧ straightedgeref02_D_at.call [(.agg ⟨[(.bool b8), (.slice a9 n10 c11), (.int .i64 i12)]⟩), (.int .i64 z11)] w14 fun v16 w17 => ∃ i18 : Int, v16 = (.int .i64 i18) ∧ br (decide ((IntKind.i64.wrap ((IntKind.i64.wrap (i15 - i18)) - z8)) < 0)) (newB [(.int .i64 (IntKind.i64.wrap ((IntKind.i64.wrap ((IntKind.i64.wrap (i15 - i18)) - z8)) + 65536)))] 3 w17 fun q19 w20 => Raw prog (Builtin.append_ #[31, 31] 31 ⟨[(.slice z7p z7n z7c), (.slice (some q19) 1 1)]⟩) w20 fun v21 w22 => ∃ (a23 : Option Addr) (n24 c25 : Nat), v21 = .slice a23 n24 c25 ∧ h16 z2 z3 z4 z5 z6 a23 n24 c25 1 (IntKind.i64.wrap (z11 + 1)) w22) (newB [(.int .i64 (IntKind.i64.wrap ((IntKind.i64.wrap (i15 - i18)) - z8)))] 3 w17 fun q26 w27 => Raw prog (Builtin.append_ #[31, 31] 31 ⟨[(.slice z7p z7n z7c), (.slice (some q26) 1 1)]⟩) w27 fun v28 w29 => ∃ (a30 : Option Addr) (n31 c32 : Nat), v28 = .slice a30 n31 c32 ∧ h16 z2 z3 z4 z5 z6 a30 n31 c32 0 (IntKind.i64.wrap (z11 + 1)) w29)) (ptrSome z2 fun q33 => ∃ b34 : Bool, w.cell? q33 = some (.bool b34) ∧ straightedgeref02_Made.call [(.bool b34), (.slice z7p z7n z7c), (.int .i64 z5)] w fun v35 w36 => ∃ b37 : Bool, ∃ (a38 : Option Addr) (n39 c40 : Nat), ∃ i41 : Int, v35 = (.agg ⟨[(.bool b37), (.slice a38 n39 c40), (.int .i64 i41)]⟩) ∧ ptrSome z4 fun q42 => (w36.cell? q42).isSome = true ∧ w36.frozen? q42 = false ∧ ((w36.setCell q42 (.bool b37)).cell? (q42.add 1)).isSome = true ∧ (w36.setCell q42 (.bool b37)).frozen? (q42.add 1) = false ∧ (((w36.setCell q42 (.bool b37)).setCell (q42.add 1) (.slice a38 n39 c40)).cell? (q42.add 2)).isSome = true ∧ ((w36.setCell q42 (.bool b37)).setCell (q42.add 1) (.slice a38 n39 c40)).frozen? (q42.add 2) = false ∧ ptrSome z4 fun q43 => ∃ b44 : Bool, ∃ (a45 : Option Addr) (n46 c47 : Nat), ∃ i48 : Int, (((w36.setCell q42 (.bool b37)).setCell (q42.add 1) (.slice a38 n39 c40)).setCell (q42.add 2) (.int .i64 i41)).cell? q43 = some (.bool b44) ∧ (((w36.setCell q42 (.bool b37)).setCell (q42.add 1) (.slice a38 n39 c40)).setCell (q42.add 2) (.int .i64 i41)).cell? (q43.add 1) = some (.slice a45 n46 c47) ∧ (((w36.setCell q42 (.bool b37)).setCell (q42.add 1) (.slice a38 n39 c40)).setCell (q42.add 2) (.int .i64 i41)).cell? (q43.add 2) = some (.int .i64 i48) ∧ K (.agg ⟨[(.bool b44), (.slice a45 n46 c47), (.int .i64 i48)]⟩) (((w36.setCell q42 (.bool b37)).setCell (q42.add 1) (.slice a38 n39 c40)).setCell (q42.add 2) (.int .i64 i41)))
def straightedgeref02_D_Add.H (K : Value → World → Prop) : Nat → (Option Addr → Option Addr → Option Addr → Int → Int → Option Addr → Nat → Nat → Int → World → Prop) × (Option Addr → Option Addr → Option Addr → Int → Int → Option Addr → Nat → Nat → Int → Bool → Int → World → Prop) × (Option Addr → Option Addr → Option Addr → Int → Int → Option Addr → Nat → Nat → Int → Int → World → Prop)
  | 0 => (fun _ _ _ _ _ _ _ _ _ _ => False, fun _ _ _ _ _ _ _ _ _ _ _ _ => False, fun _ _ _ _ _ _ _ _ _ _ _ => False)
  | fu + 1 => (straightedgeref02_D_Add.b5 K (straightedgeref02_D_Add.H K fu).1 (straightedgeref02_D_Add.H K fu).2.1 (straightedgeref02_D_Add.H K fu).2.2, straightedgeref02_D_Add.b7 K (straightedgeref02_D_Add.H K fu).1 (straightedgeref02_D_Add.H K fu).2.1 (straightedgeref02_D_Add.H K fu).2.2, straightedgeref02_D_Add.b16 K (straightedgeref02_D_Add.H K fu).1 (straightedgeref02_D_Add.H K fu).2.1 (straightedgeref02_D_Add.H K fu).2.2)
def straightedgeref02_D_Add.x (fu : Nat) (A0_0 : Bool) (A0_1p : Option Addr) (A0_1n A0_1c : Nat) (A0_2 : Int) (A1_0 : Bool) (A1_1p : Option Addr) (A1_1n A1_1c : Nat) (A1_2 : Int) (w : World) (K : Value → World → Prop) : Prop := newB [(.bool A0_0), (.slice A0_1p A0_1n A0_1c), (.int .i64 A0_2)] 45 w fun q1 w2 => newB [(.bool A1_0), (.slice A1_1p A1_1n A1_1c), (.int .i64 A1_2)] 45 w2 fun q3 w4 => newB [(.bool false), (.slice none 0 0), (.int .i64 0)] 45 w4 fun q5 w6 => ∃ b7 : Bool, ∃ (a8 : Option Addr) (n9 c10 : Nat), ∃ i11 : Int, w6.cell? q1 = some (.bool b7) ∧ w6.cell? (q1.add 1) = some (.slice a8 n9 c10) ∧ w6.cell? (q1.add 2) = some (.int .i64 i11) ∧ ∃ b12 : Bool, ∃ (a13 : Option Addr) (n14 c15 : Nat), ∃ i16 : Int, w6.cell? q3 = some (.bool b12) ∧ w6.cell? (q3.add 1) = some (.slice a13 n14 c15) ∧ w6.cell? (q3.add 2) = some (.int .i64 i16) ∧ straightedgeref02_ends.call [(.agg ⟨[(.bool b7), (.slice a8 n9 c10), (.int .i64 i11)]⟩), (.agg ⟨[(.bool b12), (.slice a13 n14 c15), (.int .i64 i16)]⟩)] w6 fun v17 w18 => ∃ i19 : Int, ∃ i20 : Int, v17 = (.tuple ⟨[(.int .i64 i19), (.int .i64 i20)]⟩) ∧ ∃ b21 : Bool, w18.cell? q1 = some (.bool b21) ∧ ∃ b22 : Bool, w18.cell? q3 = some (.bool b22) ∧ br (b21 == b22) ((straightedgeref02_D_Add.H K fu).1 (some q1) (some q3) (some q5) i19 i20 none 0 0 0 w18) (∃ (a23 : Option Addr) (n24 c25 : Nat), w18.cell? (q1.add 1) = some (.slice a23 n24 c25) ∧ br (((n24 : Nat) : Int) == 0) ((straightedgeref02_D_Add.H K fu).1 (some q1) (some q3) (some q5) i19 i20 none 0 0 0 w18) (∃ (a26 : Option Addr) (n27 c28 : Nat), w18.cell? (q3.add 1) = some (.slice a26 n27 c28) ∧ br (((n27 : Nat) : Int) == 0) ((straightedgeref02_D_Add.H K fu).1 (some q1) (some q3) (some q5) i19 i20 none 0 0 0 w18) (∃ b29 : Bool, ∃ (a30 : Option Addr) (n31 c32 : Nat), ∃ i33 : Int, w18.cell? q1 = some (.bool b29) ∧ w18.cell? (q1.add 1) = some (.slice a30 n31 c32) ∧ w18.cell? (q1.add 2) = some (.int .i64 i33) ∧ ∃ b34 : Bool, ∃ (a35 : Option Addr) (n36 c37 : Nat), ∃ i38 : Int, w18.cell? q3 = some (.bool b34) ∧ w18.cell? (q3.add 1) = some (.slice a35 n36 c37) ∧ w18.cell? (q3.add 2) = some (.int .i64 i38) ∧ straightedgeref02_size.call [(.agg ⟨[(.bool b29), (.slice a30 n31 c32), (.int .i64 i33)]⟩), (.agg ⟨[(.bool b34), (.slice a35 n36 c37), (.int .i64 i38)]⟩)] w18 fun v39 w40 => ∃ i41 : Int, v39 = (.int .i64 i41) ∧ br (decide (i41 < 0)) (∃ b42 : Bool, ∃ (a43 : Option Addr) (n44 c45 : Nat), ∃ i46 : Int, w40.cell? q3 = some (.bool b42) ∧ w40.cell? (q3.add 1) = some (.slice a43 n44 c45) ∧ w40.cell? (q3.add 2) = some (.int .i64 i46) ∧ ∃ b47 : Bool, ∃ (a48 : Option Addr) (n49 c50 : Nat), ∃ i51 : Int, w40.cell? q1 = some (.bool b47) ∧ w40.cell? (q1.add 1) = some (.slice a48 n49 c50) ∧ w40.cell? (q1.add 2) = some (.int .i64 i51) ∧ (w40.cell? q1).isSome = true ∧ w40.frozen? q1 = false ∧ ((w40.setCell q1 (.bool b42)).cell? (q1.add 1)).isSome = true ∧ (w40.setCell q1 (.bool b42)).frozen? (q1.add 1) = false ∧ (((w40.setCell q1 (.bool b42)).setCell (q1.add 1) (.slice a43 n44 c45)).cell? (q1.add 2)).isSome = true ∧ ((w40.setCell q1 (.bool b42)).setCell (q1.add 1) (.slice a43 n44 c45)).frozen? (q1.add 2) = false ∧ ((((w40.setCell q1 (.bool b42)).setCell (q1.add 1) (.slice a43 n44 c45)).setCell (q1.add 2) (.int .i64 i46)).cell? q3).isSome = true ∧ (((w40.setCell q1 (.bool b42)).setCell (q1.add 1) (.slice a43 n44 c45)).setCell (q1.add 2) (.int .i64 i46)).frozen? q3 = false ∧ (((((w40.setCell q1 (.bool b42)).setCell (q1.add 1) (.slice a43 n44 c45)).setCell (q1.add 2) (.int .i64 i46)).setCell q3 (.bool b47)).cell? (q3.add 1)).isSome = true ∧ ((((w40.setCell q1 (.bool b42)).setCell (q1.add 1) (.slice a43 n44 c45)).setCell (q1.add 2) (.int .i64 i46)).setCell q3 (.bool b47)).frozen? (q3.add 1) = false ∧ ((((((w40.setCell q1 (.bool b42)).setCell (q1.add 1) (.slice a43 n44 c45)).setCell (q1.add 2) (.int .i64 i46)).setCell q3 (.bool b47)).setCell (q3.add 1) (.slice a48 n49 c50)).cell? (q3.add 2)).isSome = true ∧ (((((w40.setCell q1 (.bool b42)).setCell (q1.add 1) (.slice a43 n44 c45)).setCell (q1.add 2) (.int .i64 i46)).setCell q3 (.bool b47)).setCell (q3.add 1) (.slice a48 n49 c50)).frozen? (q3.add 2) = false ∧ (straightedgeref02_D_Add.H K fu).2.2 (some q1) (some q3) (some q5) i19 i20 none 0 0 0 i19 (((((((w40.setCell q1 (.bool b42)).setCell (q1.add 1) (.slice a43 n44 c45)).setCell (q1.add 2) (.int .i64 i46)).setCell q3 (.bool b47)).setCell (q3.add 1) (.slice a48 n49 c50)).setCell (q3.add 2) (.int .i64 i51)))) ((straightedgeref02_D_Add.H K fu).2.2 (some q1) (some q3) (some q5) i19 i20 none 0 0 0 i19 w40))))
def straightedgeref02_D_Add.hd (K : Value → World → Prop) (n id : Nat) (t : List Value) (w : World) : Prop :=
  match id with
  | 5 => asP (t.getD 2 undef) fun z2 => asP (t.getD 3 undef) fun z3 => asP (t.getD 4 undef) fun z4 => asI .i64 (t.getD 5 undef) fun z5 => asI .i64 (t.getD 6 undef) fun z6 => asL (t.getD 7 undef) fun z7p z7n z7c => asI .i64 (t.getD 8 undef) fun z8 => (straightedgeref02_D_Add.H K n).1 z2 z3 z4 z5 z6 z7p z7n z7c z8 w
  | 7 => asP (t.getD 2 undef) fun z2 => asP (t.getD 3 undef) fun z3 => asP (t.getD 4 undef) fun z4 => asI .i64 (t.getD 5 undef) fun z5 => asI .i64 (t.getD 6 undef) fun z6 => asL (t.getD 7 undef) fun z7p z7n z7c => asI .i64 (t.getD 8 undef) fun z8 => asB (t.getD 9 undef) fun z9 => asI .i64 (t.getD 10 undef) fun z10 => (straightedgeref02_D_Add.H K n).2.1 z2 z3 z4 z5 z6 z7p z7n z7c z8 z9 z10 w
  | 16 => asP (t.getD 2 undef) fun z2 => asP (t.getD 3 undef) fun z3 => asP (t.getD 4 undef) fun z4 => asI .i64 (t.getD 5 undef) fun z5 => asI .i64 (t.getD 6 undef) fun z6 => asL (t.getD 7 undef) fun z7p z7n z7c => asI .i64 (t.getD 8 undef) fun z8 => asI .i64 (t.getD 11 undef) fun z11 => (straightedgeref02_D_Add.H K n).2.2 z2 z3 z4 z5 z6 z7p z7n z7c z8 z11 w
  | _ => False
theorem straightedgeref02_D_Add.t5 (K : Value → World → Prop) (n : Nat) (z2 : Option Addr) (z3 : Option Addr) (z4 : Option Addr) (z5 : Int) (z6 : Int) (z7p : Option Addr) (z7n z7c : Nat) (z8 : Int) (u : Nat → Value) (w : World) (h : (straightedgeref02_D_Add.H K (n + 1)).1 z2 z3 z4 z5 z6 z7p z7n z7c z8 w) :
    exT prog [5, 7, 16] (straightedgeref02_D_Add.hd K n) Try.f24 5 105 [(2, (.pointer z2)), (3, (.pointer z3)), (4, (.pointer z4)), (5, (.int .i64 z5)), (6, (.int .i64 z6)), (7, (.slice z7p z7n z7c)), (8, (.int .i64 z8))] u w K := Eq.mp (by kernel_rfl) h
theorem straightedgeref02_D_Add.t7 (K : Value → World → Prop) (n : Nat) (z2 : Option Addr) (z3 : Option Addr) (z4 : Option Addr) (z5 : Int) (z6 : Int) (z7p : Option Addr) (z7n z7c : Nat) (z8 : Int) (z9 : Bool) (z10 : Int) (u : Nat → Value) (w : World) (h : (straightedgeref02_D_Add.H K (n + 1)).2.1 z2 z3 z4 z5 z6 z7p z7n z7c z8 z9 z10 w) :
    exT prog [5, 7, 16] (straightedgeref02_D_Add.hd K n) Try.f24 7 105 [(2, (.pointer z2)), (3, (.pointer z3)), (4, (.pointer z4)), (5, (.int .i64 z5)), (6, (.int .i64 z6)), (7, (.slice z7p z7n z7c)), (8, (.int .i64 z8)), (9, (.bool z9)), (10, (.int .i64 z10))] u w K := Eq.mp (by kernel_rfl) h
theorem straightedgeref02_D_Add.t16 (K : Value → World → Prop) (n : Nat) (z2 : Option Addr) (z3 : Option Addr) (z4 : Option Addr) (z5 : Int) (z6 : Int) (z7p : Option Addr) (z7n z7c : Nat) (z8 : Int) (z11 : Int) (u : Nat → Value) (w : World) (h : (straightedgeref02_D_Add.H K (n + 1)).2.2 z2 z3 z4 z5 z6 z7p z7n z7c z8 z11 w) :
    exT prog [5, 7, 16] (straightedgeref02_D_Add.hd K n) Try.f24 16 105 [(2, (.pointer z2)), (3, (.pointer z3)), (4, (.pointer z4)), (5, (.int .i64 z5)), (6, (.int .i64 z6)), (7, (.slice z7p z7n z7c)), (8, (.int .i64 z8)), (11, (.int .i64 z11))] u w K := Eq.mp (by kernel_rfl) h
theorem straightedgeref02_D_Add.ok (fu : Nat) {A0_0 : Bool} {A0_1p : Option Addr} {A0_1n A0_1c : Nat} {A0_2 : Int} {A1_0 : Bool} {A1_1p : Option Addr} {A1_1n A1_1c : Nat} {A1_2 : Int} {w : World} {K : Value → World → Prop} (h : straightedgeref02_D_Add.x fu A0_0 A0_1p A0_1n A0_1c A0_2 A1_0 A1_1p A1_1n A1_1c A1_2 w K) : straightedgeref02_D_Add.call [(.agg ⟨[(.bool A0_0), (.slice A0_1p A0_1n A0_1c), (.int .i64 A0_2)]⟩), (.agg ⟨[(.bool A1_0), (.slice A1_1p A1_1n A1_1c), (.int .i64 A1_2)]⟩)] w K := by
  refine callF_of_ex (cuts := [5, 7, 16]) (H := straightedgeref02_D_Add.hd K) (N := 105) Try.func24 rfl mixed (by kernel_rfl) ?_ ?_ ?_ rfl (n := fu) (Eq.mp (by kernel_rfl) h)
  · intro id hid; simp only [List.mem_cons, List.not_mem_nil, or_false] at hid; rcases hid with rfl | rfl | rfl
    · exact (by kernel_rfl : (stacks (bodyOf Try.f24) []).filter (headIs 5) = [at_ (bodyOf Try.f24) 5])
    · exact (by kernel_rfl : (stacks (bodyOf Try.f24) []).filter (headIs 7) = [at_ (bodyOf Try.f24) 7])
    · exact (by kernel_rfl : (stacks (bodyOf Try.f24) []).filter (headIs 16) = [at_ (bodyOf Try.f24) 16])
  · intro id t w h
    unfold straightedgeref02_D_Add.hd at h
    split at h
    · obtain ⟨z2, _, h⟩ := asP_elim h
      obtain ⟨z3, _, h⟩ := asP_elim h
      obtain ⟨z4, _, h⟩ := asP_elim h
      obtain ⟨z5, _, h⟩ := asI_elim h
      obtain ⟨z6, _, h⟩ := asI_elim h
      obtain ⟨z7p, z7n, z7c, _, h⟩ := asL_elim h
      obtain ⟨z8, _, h⟩ := asI_elim h
      exact h
    · obtain ⟨z2, _, h⟩ := asP_elim h
      obtain ⟨z3, _, h⟩ := asP_elim h
      obtain ⟨z4, _, h⟩ := asP_elim h
      obtain ⟨z5, _, h⟩ := asI_elim h
      obtain ⟨z6, _, h⟩ := asI_elim h
      obtain ⟨z7p, z7n, z7c, _, h⟩ := asL_elim h
      obtain ⟨z8, _, h⟩ := asI_elim h
      obtain ⟨z9, _, h⟩ := asB_elim h
      obtain ⟨z10, _, h⟩ := asI_elim h
      exact h
    · obtain ⟨z2, _, h⟩ := asP_elim h
      obtain ⟨z3, _, h⟩ := asP_elim h
      obtain ⟨z4, _, h⟩ := asP_elim h
      obtain ⟨z5, _, h⟩ := asI_elim h
      obtain ⟨z6, _, h⟩ := asI_elim h
      obtain ⟨z7p, z7n, z7c, _, h⟩ := asL_elim h
      obtain ⟨z8, _, h⟩ := asI_elim h
      obtain ⟨z11, _, h⟩ := asI_elim h
      exact h
    · exact h
  · intro n id hid t w hl h; simp only [List.mem_cons, List.not_mem_nil, or_false] at hid; rcases hid with rfl | rfl | rfl
    · replace h : asP (t.getD 2 undef) fun z2 => asP (t.getD 3 undef) fun z3 => asP (t.getD 4 undef) fun z4 => asI .i64 (t.getD 5 undef) fun z5 => asI .i64 (t.getD 6 undef) fun z6 => asL (t.getD 7 undef) fun z7p z7n z7c => asI .i64 (t.getD 8 undef) fun z8 => (straightedgeref02_D_Add.H K (n + 1)).1 z2 z3 z4 z5 z6 z7p z7n z7c z8 w := h
      obtain ⟨z2, e2, h⟩ := asP_elim h
      obtain ⟨z3, e3, h⟩ := asP_elim h
      obtain ⟨z4, e4, h⟩ := asP_elim h
      obtain ⟨z5, e5, h⟩ := asI_elim h
      obtain ⟨z6, e6, h⟩ := asI_elim h
      obtain ⟨z7p, z7n, z7c, e7, h⟩ := asL_elim h
      obtain ⟨z8, e8, h⟩ := asI_elim h
      rw [mk_of hl [(2, (.pointer z2)), (3, (.pointer z3)), (4, (.pointer z4)), (5, (.int .i64 z5)), (6, (.int .i64 z6)), (7, (.slice z7p z7n z7c)), (8, (.int .i64 z8))] (by simp only [List.forall_mem_cons, List.not_mem_nil, false_implies, implies_true, and_true]; exact ⟨e2, e3, e4, e5, e6, e7, e8⟩)]
      exact straightedgeref02_D_Add.t5 K n z2 z3 z4 z5 z6 z7p z7n z7c z8 _ w h
    · replace h : asP (t.getD 2 undef) fun z2 => asP (t.getD 3 undef) fun z3 => asP (t.getD 4 undef) fun z4 => asI .i64 (t.getD 5 undef) fun z5 => asI .i64 (t.getD 6 undef) fun z6 => asL (t.getD 7 undef) fun z7p z7n z7c => asI .i64 (t.getD 8 undef) fun z8 => asB (t.getD 9 undef) fun z9 => asI .i64 (t.getD 10 undef) fun z10 => (straightedgeref02_D_Add.H K (n + 1)).2.1 z2 z3 z4 z5 z6 z7p z7n z7c z8 z9 z10 w := h
      obtain ⟨z2, e2, h⟩ := asP_elim h
      obtain ⟨z3, e3, h⟩ := asP_elim h
      obtain ⟨z4, e4, h⟩ := asP_elim h
      obtain ⟨z5, e5, h⟩ := asI_elim h
      obtain ⟨z6, e6, h⟩ := asI_elim h
      obtain ⟨z7p, z7n, z7c, e7, h⟩ := asL_elim h
      obtain ⟨z8, e8, h⟩ := asI_elim h
      obtain ⟨z9, e9, h⟩ := asB_elim h
      obtain ⟨z10, e10, h⟩ := asI_elim h
      rw [mk_of hl [(2, (.pointer z2)), (3, (.pointer z3)), (4, (.pointer z4)), (5, (.int .i64 z5)), (6, (.int .i64 z6)), (7, (.slice z7p z7n z7c)), (8, (.int .i64 z8)), (9, (.bool z9)), (10, (.int .i64 z10))] (by simp only [List.forall_mem_cons, List.not_mem_nil, false_implies, implies_true, and_true]; exact ⟨e2, e3, e4, e5, e6, e7, e8, e9, e10⟩)]
      exact straightedgeref02_D_Add.t7 K n z2 z3 z4 z5 z6 z7p z7n z7c z8 z9 z10 _ w h
    · replace h : asP (t.getD 2 undef) fun z2 => asP (t.getD 3 undef) fun z3 => asP (t.getD 4 undef) fun z4 => asI .i64 (t.getD 5 undef) fun z5 => asI .i64 (t.getD 6 undef) fun z6 => asL (t.getD 7 undef) fun z7p z7n z7c => asI .i64 (t.getD 8 undef) fun z8 => asI .i64 (t.getD 11 undef) fun z11 => (straightedgeref02_D_Add.H K (n + 1)).2.2 z2 z3 z4 z5 z6 z7p z7n z7c z8 z11 w := h
      obtain ⟨z2, e2, h⟩ := asP_elim h
      obtain ⟨z3, e3, h⟩ := asP_elim h
      obtain ⟨z4, e4, h⟩ := asP_elim h
      obtain ⟨z5, e5, h⟩ := asI_elim h
      obtain ⟨z6, e6, h⟩ := asI_elim h
      obtain ⟨z7p, z7n, z7c, e7, h⟩ := asL_elim h
      obtain ⟨z8, e8, h⟩ := asI_elim h
      obtain ⟨z11, e11, h⟩ := asI_elim h
      rw [mk_of hl [(2, (.pointer z2)), (3, (.pointer z3)), (4, (.pointer z4)), (5, (.int .i64 z5)), (6, (.int .i64 z6)), (7, (.slice z7p z7n z7c)), (8, (.int .i64 z8)), (11, (.int .i64 z11))] (by simp only [List.forall_mem_cons, List.not_mem_nil, false_implies, implies_true, and_true]; exact ⟨e2, e3, e4, e5, e6, e7, e8, e11⟩)]
      exact straightedgeref02_D_Add.t16 K n z2 z3 z4 z5 z6 z7p z7n z7c z8 z11 _ w h

/-! ### straightedge/straightedgeref02.Int: function 43 -/
def straightedgeref02_Int.x (A0 : Int) (w : World) (K : Value → World → Prop) : Prop := newB [(.bool false), (.slice none 0 0), (.int .i64 0)] 45 w fun q1 w2 => br (decide (A0 < 0)) (straightedgeref02_Whole.call [(.bool true), (.int .u64 (IntKind.u64.wrap ((IntKind.u64.wrap ((IntKind.i64.wrap (0 - (IntKind.i64.wrap (A0 + 1)))))) + 1)))] w2 fun v3 w4 => ∃ b5 : Bool, ∃ (a6 : Option Addr) (n7 c8 : Nat), ∃ i9 : Int, v3 = (.agg ⟨[(.bool b5), (.slice a6 n7 c8), (.int .i64 i9)]⟩) ∧ (w4.cell? q1).isSome = true ∧ w4.frozen? q1 = false ∧ ((w4.setCell q1 (.bool b5)).cell? (q1.add 1)).isSome = true ∧ (w4.setCell q1 (.bool b5)).frozen? (q1.add 1) = false ∧ (((w4.setCell q1 (.bool b5)).setCell (q1.add 1) (.slice a6 n7 c8)).cell? (q1.add 2)).isSome = true ∧ ((w4.setCell q1 (.bool b5)).setCell (q1.add 1) (.slice a6 n7 c8)).frozen? (q1.add 2) = false ∧ ∃ b10 : Bool, ∃ (a11 : Option Addr) (n12 c13 : Nat), ∃ i14 : Int, (((w4.setCell q1 (.bool b5)).setCell (q1.add 1) (.slice a6 n7 c8)).setCell (q1.add 2) (.int .i64 i9)).cell? q1 = some (.bool b10) ∧ (((w4.setCell q1 (.bool b5)).setCell (q1.add 1) (.slice a6 n7 c8)).setCell (q1.add 2) (.int .i64 i9)).cell? (q1.add 1) = some (.slice a11 n12 c13) ∧ (((w4.setCell q1 (.bool b5)).setCell (q1.add 1) (.slice a6 n7 c8)).setCell (q1.add 2) (.int .i64 i9)).cell? (q1.add 2) = some (.int .i64 i14) ∧ K (.agg ⟨[(.bool b10), (.slice a11 n12 c13), (.int .i64 i14)]⟩) (((w4.setCell q1 (.bool b5)).setCell (q1.add 1) (.slice a6 n7 c8)).setCell (q1.add 2) (.int .i64 i9))) (straightedgeref02_Whole.call [(.bool false), (.int .u64 (IntKind.u64.wrap (A0)))] w2 fun v15 w16 => ∃ b17 : Bool, ∃ (a18 : Option Addr) (n19 c20 : Nat), ∃ i21 : Int, v15 = (.agg ⟨[(.bool b17), (.slice a18 n19 c20), (.int .i64 i21)]⟩) ∧ (w16.cell? q1).isSome = true ∧ w16.frozen? q1 = false ∧ ((w16.setCell q1 (.bool b17)).cell? (q1.add 1)).isSome = true ∧ (w16.setCell q1 (.bool b17)).frozen? (q1.add 1) = false ∧ (((w16.setCell q1 (.bool b17)).setCell (q1.add 1) (.slice a18 n19 c20)).cell? (q1.add 2)).isSome = true ∧ ((w16.setCell q1 (.bool b17)).setCell (q1.add 1) (.slice a18 n19 c20)).frozen? (q1.add 2) = false ∧ ∃ b22 : Bool, ∃ (a23 : Option Addr) (n24 c25 : Nat), ∃ i26 : Int, (((w16.setCell q1 (.bool b17)).setCell (q1.add 1) (.slice a18 n19 c20)).setCell (q1.add 2) (.int .i64 i21)).cell? q1 = some (.bool b22) ∧ (((w16.setCell q1 (.bool b17)).setCell (q1.add 1) (.slice a18 n19 c20)).setCell (q1.add 2) (.int .i64 i21)).cell? (q1.add 1) = some (.slice a23 n24 c25) ∧ (((w16.setCell q1 (.bool b17)).setCell (q1.add 1) (.slice a18 n19 c20)).setCell (q1.add 2) (.int .i64 i21)).cell? (q1.add 2) = some (.int .i64 i26) ∧ K (.agg ⟨[(.bool b22), (.slice a23 n24 c25), (.int .i64 i26)]⟩) (((w16.setCell q1 (.bool b17)).setCell (q1.add 1) (.slice a18 n19 c20)).setCell (q1.add 2) (.int .i64 i21)))
theorem straightedgeref02_Int.ok {A0 : Int} {w : World} {K : Value → World → Prop} (h : straightedgeref02_Int.x A0 w K) : straightedgeref02_Int.call [(.int .i64 A0)] w K :=
  callF_of_ex0 (f := Try.f43) Try.func43 rfl mixed (by kernel_rfl) (Eq.mp (by kernel_rfl) h)

/-! ### straightedge/straightedgeref02.Whole: function 46 -/
def straightedgeref02_Whole.c2 (K : Value → World → Prop) : Nat → Bool → Int → Option Addr → Option Addr → Nat → Nat → World → Prop
  | 0, _, _, _, _, _, _, _ => False
  | fu + 1, z0, z1, z4, z5p, z5n, z5c, w => br (decide (z1 > 0)) (newB [(.int .i64 (IntKind.i64.wrap ((Int.tmod z1 65536))))] 3 w fun q1 w2 => Raw prog (Builtin.append_ #[31, 31] 31 ⟨[(.slice z5p z5n z5c), (.slice (some q1) 1 1)]⟩) w2 fun v3 w4 => ∃ (a5 : Option Addr) (n6 c7 : Nat), v3 = .slice a5 n6 c7 ∧ straightedgeref02_Whole.c2 K fu z0 (IntKind.u64.wrap (Int.tdiv z1 65536)) z4 a5 n6 c7 w4) (straightedgeref02_Made.call [(.bool z0), (.slice z5p z5n z5c), (.int .i64 0)] w fun v8 w9 => ∃ b10 : Bool, ∃ (a11 : Option Addr) (n12 c13 : Nat), ∃ i14 : Int, v8 = (.agg ⟨[(.bool b10), (.slice a11 n12 c13), (.int .i64 i14)]⟩) ∧ ptrSome z4 fun q15 => (w9.cell? q15).isSome = true ∧ w9.frozen? q15 = false ∧ ((w9.setCell q15 (.bool b10)).cell? (q15.add 1)).isSome = true ∧ (w9.setCell q15 (.bool b10)).frozen? (q15.add 1) = false ∧ (((w9.setCell q15 (.bool b10)).setCell (q15.add 1) (.slice a11 n12 c13)).cell? (q15.add 2)).isSome = true ∧ ((w9.setCell q15 (.bool b10)).setCell (q15.add 1) (.slice a11 n12 c13)).frozen? (q15.add 2) = false ∧ ptrSome z4 fun q16 => ∃ b17 : Bool, ∃ (a18 : Option Addr) (n19 c20 : Nat), ∃ i21 : Int, (((w9.setCell q15 (.bool b10)).setCell (q15.add 1) (.slice a11 n12 c13)).setCell (q15.add 2) (.int .i64 i14)).cell? q16 = some (.bool b17) ∧ (((w9.setCell q15 (.bool b10)).setCell (q15.add 1) (.slice a11 n12 c13)).setCell (q15.add 2) (.int .i64 i14)).cell? (q16.add 1) = some (.slice a18 n19 c20) ∧ (((w9.setCell q15 (.bool b10)).setCell (q15.add 1) (.slice a11 n12 c13)).setCell (q15.add 2) (.int .i64 i14)).cell? (q16.add 2) = some (.int .i64 i21) ∧ K (.agg ⟨[(.bool b17), (.slice a18 n19 c20), (.int .i64 i21)]⟩) (((w9.setCell q15 (.bool b10)).setCell (q15.add 1) (.slice a11 n12 c13)).setCell (q15.add 2) (.int .i64 i14)))
def straightedgeref02_Whole.x (fu : Nat) (A0 : Bool) (A1 : Int) (w : World) (K : Value → World → Prop) : Prop := newB [(.bool false), (.slice none 0 0), (.int .i64 0)] 45 w fun q1 w2 => straightedgeref02_Whole.c2 K fu A0 A1 (some q1) none 0 0 w2
def straightedgeref02_Whole.hd (K : Value → World → Prop) (n id : Nat) (t : List Value) (w : World) : Prop :=
  match id with
  | 2 => asB (t.getD 0 undef) fun z0 => asI .u64 (t.getD 1 undef) fun z1 => asP (t.getD 4 undef) fun z4 => asL (t.getD 5 undef) fun z5p z5n z5c => straightedgeref02_Whole.c2 K n z0 z1 z4 z5p z5n z5c w
  | _ => False
theorem straightedgeref02_Whole.t2 (K : Value → World → Prop) (n : Nat) (z0 : Bool) (z1 : Int) (z4 : Option Addr) (z5p : Option Addr) (z5n z5c : Nat) (u : Nat → Value) (w : World) (h : straightedgeref02_Whole.c2 K (n + 1) z0 z1 z4 z5p z5n z5c w) :
    exT prog [2] (straightedgeref02_Whole.hd K n) Try.f46 2 19 [(0, (.bool z0)), (1, (.int .u64 z1)), (4, (.pointer z4)), (5, (.slice z5p z5n z5c))] u w K := Eq.mp (by kernel_rfl) h
theorem straightedgeref02_Whole.ok (fu : Nat) {A0 : Bool} {A1 : Int} {w : World} {K : Value → World → Prop} (h : straightedgeref02_Whole.x fu A0 A1 w K) : straightedgeref02_Whole.call [(.bool A0), (.int .u64 A1)] w K := by
  refine callF_of_ex (cuts := [2]) (H := straightedgeref02_Whole.hd K) (N := 19) Try.func46 rfl mixed (by kernel_rfl) ?_ ?_ ?_ rfl (n := fu) (Eq.mp (by kernel_rfl) h)
  · intro id hid; simp only [List.mem_cons, List.not_mem_nil, or_false] at hid; subst hid
    · exact (by kernel_rfl : (stacks (bodyOf Try.f46) []).filter (headIs 2) = [at_ (bodyOf Try.f46) 2])
  · intro id t w h
    unfold straightedgeref02_Whole.hd at h
    split at h
    · obtain ⟨z0, _, h⟩ := asB_elim h
      obtain ⟨z1, _, h⟩ := asI_elim h
      obtain ⟨z4, _, h⟩ := asP_elim h
      obtain ⟨z5p, z5n, z5c, _, h⟩ := asL_elim h
      exact h
    · exact h
  · intro n id hid t w hl h; simp only [List.mem_cons, List.not_mem_nil, or_false] at hid; subst hid
    · replace h : asB (t.getD 0 undef) fun z0 => asI .u64 (t.getD 1 undef) fun z1 => asP (t.getD 4 undef) fun z4 => asL (t.getD 5 undef) fun z5p z5n z5c => straightedgeref02_Whole.c2 K (n + 1) z0 z1 z4 z5p z5n z5c w := h
      obtain ⟨z0, e0, h⟩ := asB_elim h
      obtain ⟨z1, e1, h⟩ := asI_elim h
      obtain ⟨z4, e4, h⟩ := asP_elim h
      obtain ⟨z5p, z5n, z5c, e5, h⟩ := asL_elim h
      rw [mk_of hl [(0, (.bool z0)), (1, (.int .u64 z1)), (4, (.pointer z4)), (5, (.slice z5p z5n z5c))] (by simp only [List.forall_mem_cons, List.not_mem_nil, false_implies, implies_true, and_true]; exact ⟨e0, e1, e4, e5⟩)]
      exact straightedgeref02_Whole.t2 K n z0 z1 z4 z5p z5n z5c _ w h

/-! ### straightedge/straightedgeref02.Made: function 48 -/
def straightedgeref02_Made.b1 (K : Value → World → Prop) (h1 : Bool → Option Addr → Nat → Nat → Int → Option Addr → World → Prop) (h4 : Bool → Option Addr → Nat → Nat → Int → Option Addr → World → Prop) (z0 : Bool) (z1p : Option Addr) (z1n z1c : Nat) (z2 : Int) (z6 : Option Addr) (w : World) : Prop := br (decide (((z1n : Nat) : Int) > 0)) (ptrSome z1p fun q1 => (0 : Int) ≤ 0 ∧ 0 < ((z1n : Nat) : Int) ∧ ∃ i2 : Int, w.cell? (q1.add (Int.toNat 0)) = some (.int .i64 i2) ∧ br (i2 == 0) ((0 : Int) ≤ 1 ∧ 1 ≤ ((z1n : Nat) : Int) ∧ h1 z0 (if z1c = (Int.toNat 1) then z1p else z1p.map (·.add ((Int.toNat 1) * 1))) (z1n - (Int.toNat 1)) (z1c - (Int.toNat 1)) (IntKind.i64.wrap (z2 + 1)) z6 w) (h4 z0 z1p z1n z1c z2 z6 w)) (h4 z0 z1p z1n z1c z2 z6 w)
def straightedgeref02_Made.b4 (K : Value → World → Prop) (h1 : Bool → Option Addr → Nat → Nat → Int → Option Addr → World → Prop) (h4 : Bool → Option Addr → Nat → Nat → Int → Option Addr → World → Prop) (z0 : Bool) (z1p : Option Addr) (z1n z1c : Nat) (z2 : Int) (z6 : Option Addr) (w : World) : Prop := br (decide (((z1n : Nat) : Int) > 0)) (ptrSome z1p fun q1 => (0 : Int) ≤ (IntKind.i64.wrap (((z1n : Nat) : Int) - 1)) ∧ (IntKind.i64.wrap (((z1n : Nat) : Int) - 1)) < ((z1n : Nat) : Int) ∧ ∃ i2 : Int, w.cell? (q1.add (Int.toNat (IntKind.i64.wrap (((z1n : Nat) : Int) - 1)))) = some (.int .i64 i2) ∧ br (i2 == 0) ((0 : Int) ≤ (IntKind.i64.wrap (((z1n : Nat) : Int) - 1)) ∧ (IntKind.i64.wrap (((z1n : Nat) : Int) - 1)) ≤ ((z1c : Nat) : Int) ∧ h4 z0 (if z1c = 0 then z1p else z1p.map (·.add (0 * 1))) ((Int.toNat (IntKind.i64.wrap (((z1n : Nat) : Int) - 1))) - 0) (z1c - 0) z2 z6 w) (br (((z1n : Nat) : Int) == 0) (ptrSome z6 fun q3 => (w.cell? q3).isSome = true ∧ w.frozen? q3 = false ∧ ((w.setCell q3 (.bool false)).cell? (q3.add 1)).isSome = true ∧ (w.setCell q3 (.bool false)).frozen? (q3.add 1) = false ∧ (((w.setCell q3 (.bool false)).setCell (q3.add 1) (.slice none 0 0)).cell? (q3.add 2)).isSome = true ∧ ((w.setCell q3 (.bool false)).setCell (q3.add 1) (.slice none 0 0)).frozen? (q3.add 2) = false ∧ ptrSome z6 fun q4 => ∃ b5 : Bool, ∃ (a6 : Option Addr) (n7 c8 : Nat), ∃ i9 : Int, (((w.setCell q3 (.bool false)).setCell (q3.add 1) (.slice none 0 0)).setCell (q3.add 2) (.int .i64 0)).cell? q4 = some (.bool b5) ∧ (((w.setCell q3 (.bool false)).setCell (q3.add 1) (.slice none 0 0)).setCell (q3.add 2) (.int .i64 0)).cell? (q4.add 1) = some (.slice a6 n7 c8) ∧ (((w.setCell q3 (.bool false)).setCell (q3.add 1) (.slice none 0 0)).setCell (q3.add 2) (.int .i64 0)).cell? (q4.add 2) = some (.int .i64 i9) ∧ K (.agg ⟨[(.bool b5), (.slice a6 n7 c8), (.int .i64 i9)]⟩) (((w.setCell q3 (.bool false)).setCell (q3.add 1) (.slice none 0 0)).setCell (q3.add 2) (.int .i64 0))) (ptrSome z6 fun q10 => (w.cell? q10).isSome = true ∧ w.frozen? q10 = false ∧ ((w.setCell q10 (.bool z0)).cell? (q10.add 1)).isSome = true ∧ (w.setCell q10 (.bool z0)).frozen? (q10.add 1) = false ∧ (((w.setCell q10 (.bool z0)).setCell (q10.add 1) (.slice z1p z1n z1c)).cell? (q10.add 2)).isSome = true ∧ ((w.setCell q10 (.bool z0)).setCell (q10.add 1) (.slice z1p z1n z1c)).frozen? (q10.add 2) = false ∧ ptrSome z6 fun q11 => ∃ b12 : Bool, ∃ (a13 : Option Addr) (n14 c15 : Nat), ∃ i16 : Int, (((w.setCell q10 (.bool z0)).setCell (q10.add 1) (.slice z1p z1n z1c)).setCell (q10.add 2) (.int .i64 z2)).cell? q11 = some (.bool b12) ∧ (((w.setCell q10 (.bool z0)).setCell (q10.add 1) (.slice z1p z1n z1c)).setCell (q10.add 2) (.int .i64 z2)).cell? (q11.add 1) = some (.slice a13 n14 c15) ∧ (((w.setCell q10 (.bool z0)).setCell (q10.add 1) (.slice z1p z1n z1c)).setCell (q10.add 2) (.int .i64 z2)).cell? (q11.add 2) = some (.int .i64 i16) ∧ K (.agg ⟨[(.bool b12), (.slice a13 n14 c15), (.int .i64 i16)]⟩) (((w.setCell q10 (.bool z0)).setCell (q10.add 1) (.slice z1p z1n z1c)).setCell (q10.add 2) (.int .i64 z2))))) (br (((z1n : Nat) : Int) == 0) (ptrSome z6 fun q17 => (w.cell? q17).isSome = true ∧ w.frozen? q17 = false ∧ ((w.setCell q17 (.bool false)).cell? (q17.add 1)).isSome = true ∧ (w.setCell q17 (.bool false)).frozen? (q17.add 1) = false ∧ (((w.setCell q17 (.bool false)).setCell (q17.add 1) (.slice none 0 0)).cell? (q17.add 2)).isSome = true ∧ ((w.setCell q17 (.bool false)).setCell (q17.add 1) (.slice none 0 0)).frozen? (q17.add 2) = false ∧ ptrSome z6 fun q18 => ∃ b19 : Bool, ∃ (a20 : Option Addr) (n21 c22 : Nat), ∃ i23 : Int, (((w.setCell q17 (.bool false)).setCell (q17.add 1) (.slice none 0 0)).setCell (q17.add 2) (.int .i64 0)).cell? q18 = some (.bool b19) ∧ (((w.setCell q17 (.bool false)).setCell (q17.add 1) (.slice none 0 0)).setCell (q17.add 2) (.int .i64 0)).cell? (q18.add 1) = some (.slice a20 n21 c22) ∧ (((w.setCell q17 (.bool false)).setCell (q17.add 1) (.slice none 0 0)).setCell (q17.add 2) (.int .i64 0)).cell? (q18.add 2) = some (.int .i64 i23) ∧ K (.agg ⟨[(.bool b19), (.slice a20 n21 c22), (.int .i64 i23)]⟩) (((w.setCell q17 (.bool false)).setCell (q17.add 1) (.slice none 0 0)).setCell (q17.add 2) (.int .i64 0))) (ptrSome z6 fun q24 => (w.cell? q24).isSome = true ∧ w.frozen? q24 = false ∧ ((w.setCell q24 (.bool z0)).cell? (q24.add 1)).isSome = true ∧ (w.setCell q24 (.bool z0)).frozen? (q24.add 1) = false ∧ (((w.setCell q24 (.bool z0)).setCell (q24.add 1) (.slice z1p z1n z1c)).cell? (q24.add 2)).isSome = true ∧ ((w.setCell q24 (.bool z0)).setCell (q24.add 1) (.slice z1p z1n z1c)).frozen? (q24.add 2) = false ∧ ptrSome z6 fun q25 => ∃ b26 : Bool, ∃ (a27 : Option Addr) (n28 c29 : Nat), ∃ i30 : Int, (((w.setCell q24 (.bool z0)).setCell (q24.add 1) (.slice z1p z1n z1c)).setCell (q24.add 2) (.int .i64 z2)).cell? q25 = some (.bool b26) ∧ (((w.setCell q24 (.bool z0)).setCell (q24.add 1) (.slice z1p z1n z1c)).setCell (q24.add 2) (.int .i64 z2)).cell? (q25.add 1) = some (.slice a27 n28 c29) ∧ (((w.setCell q24 (.bool z0)).setCell (q24.add 1) (.slice z1p z1n z1c)).setCell (q24.add 2) (.int .i64 z2)).cell? (q25.add 2) = some (.int .i64 i30) ∧ K (.agg ⟨[(.bool b26), (.slice a27 n28 c29), (.int .i64 i30)]⟩) (((w.setCell q24 (.bool z0)).setCell (q24.add 1) (.slice z1p z1n z1c)).setCell (q24.add 2) (.int .i64 z2))))
def straightedgeref02_Made.H (K : Value → World → Prop) : Nat → (Bool → Option Addr → Nat → Nat → Int → Option Addr → World → Prop) × (Bool → Option Addr → Nat → Nat → Int → Option Addr → World → Prop)
  | 0 => (fun _ _ _ _ _ _ _ => False, fun _ _ _ _ _ _ _ => False)
  | fu + 1 => (straightedgeref02_Made.b1 K (straightedgeref02_Made.H K fu).1 (straightedgeref02_Made.H K fu).2, straightedgeref02_Made.b4 K (straightedgeref02_Made.H K fu).1 (straightedgeref02_Made.H K fu).2)
def straightedgeref02_Made.x (fu : Nat) (A0 : Bool) (A1p : Option Addr) (A1n A1c : Nat) (A2 : Int) (w : World) (K : Value → World → Prop) : Prop := newB [(.bool false), (.slice none 0 0), (.int .i64 0)] 45 w fun q1 w2 => (straightedgeref02_Made.H K fu).1 A0 A1p A1n A1c A2 (some q1) w2
def straightedgeref02_Made.hd (K : Value → World → Prop) (n id : Nat) (t : List Value) (w : World) : Prop :=
  match id with
  | 1 => asB (t.getD 0 undef) fun z0 => asL (t.getD 1 undef) fun z1p z1n z1c => asI .i64 (t.getD 2 undef) fun z2 => asP (t.getD 6 undef) fun z6 => (straightedgeref02_Made.H K n).1 z0 z1p z1n z1c z2 z6 w
  | 4 => asB (t.getD 0 undef) fun z0 => asL (t.getD 1 undef) fun z1p z1n z1c => asI .i64 (t.getD 2 undef) fun z2 => asP (t.getD 6 undef) fun z6 => (straightedgeref02_Made.H K n).2 z0 z1p z1n z1c z2 z6 w
  | _ => False
theorem straightedgeref02_Made.t1 (K : Value → World → Prop) (n : Nat) (z0 : Bool) (z1p : Option Addr) (z1n z1c : Nat) (z2 : Int) (z6 : Option Addr) (u : Nat → Value) (w : World) (h : (straightedgeref02_Made.H K (n + 1)).1 z0 z1p z1n z1c z2 z6 w) :
    exT prog [1, 4] (straightedgeref02_Made.hd K n) Try.f48 1 45 [(0, (.bool z0)), (1, (.slice z1p z1n z1c)), (2, (.int .i64 z2)), (6, (.pointer z6))] u w K := Eq.mp (by kernel_rfl) h
theorem straightedgeref02_Made.t4 (K : Value → World → Prop) (n : Nat) (z0 : Bool) (z1p : Option Addr) (z1n z1c : Nat) (z2 : Int) (z6 : Option Addr) (u : Nat → Value) (w : World) (h : (straightedgeref02_Made.H K (n + 1)).2 z0 z1p z1n z1c z2 z6 w) :
    exT prog [1, 4] (straightedgeref02_Made.hd K n) Try.f48 4 45 [(0, (.bool z0)), (1, (.slice z1p z1n z1c)), (2, (.int .i64 z2)), (6, (.pointer z6))] u w K := Eq.mp (by kernel_rfl) h
theorem straightedgeref02_Made.ok (fu : Nat) {A0 : Bool} {A1p : Option Addr} {A1n A1c : Nat} {A2 : Int} {w : World} {K : Value → World → Prop} (h : straightedgeref02_Made.x fu A0 A1p A1n A1c A2 w K) : straightedgeref02_Made.call [(.bool A0), (.slice A1p A1n A1c), (.int .i64 A2)] w K := by
  refine callF_of_ex (cuts := [1, 4]) (H := straightedgeref02_Made.hd K) (N := 45) Try.func48 rfl mixed (by kernel_rfl) ?_ ?_ ?_ rfl (n := fu) (Eq.mp (by kernel_rfl) h)
  · intro id hid; simp only [List.mem_cons, List.not_mem_nil, or_false] at hid; rcases hid with rfl | rfl
    · exact (by kernel_rfl : (stacks (bodyOf Try.f48) []).filter (headIs 1) = [at_ (bodyOf Try.f48) 1])
    · exact (by kernel_rfl : (stacks (bodyOf Try.f48) []).filter (headIs 4) = [at_ (bodyOf Try.f48) 4])
  · intro id t w h
    unfold straightedgeref02_Made.hd at h
    split at h
    · obtain ⟨z0, _, h⟩ := asB_elim h
      obtain ⟨z1p, z1n, z1c, _, h⟩ := asL_elim h
      obtain ⟨z2, _, h⟩ := asI_elim h
      obtain ⟨z6, _, h⟩ := asP_elim h
      exact h
    · obtain ⟨z0, _, h⟩ := asB_elim h
      obtain ⟨z1p, z1n, z1c, _, h⟩ := asL_elim h
      obtain ⟨z2, _, h⟩ := asI_elim h
      obtain ⟨z6, _, h⟩ := asP_elim h
      exact h
    · exact h
  · intro n id hid t w hl h; simp only [List.mem_cons, List.not_mem_nil, or_false] at hid; rcases hid with rfl | rfl
    · replace h : asB (t.getD 0 undef) fun z0 => asL (t.getD 1 undef) fun z1p z1n z1c => asI .i64 (t.getD 2 undef) fun z2 => asP (t.getD 6 undef) fun z6 => (straightedgeref02_Made.H K (n + 1)).1 z0 z1p z1n z1c z2 z6 w := h
      obtain ⟨z0, e0, h⟩ := asB_elim h
      obtain ⟨z1p, z1n, z1c, e1, h⟩ := asL_elim h
      obtain ⟨z2, e2, h⟩ := asI_elim h
      obtain ⟨z6, e6, h⟩ := asP_elim h
      rw [mk_of hl [(0, (.bool z0)), (1, (.slice z1p z1n z1c)), (2, (.int .i64 z2)), (6, (.pointer z6))] (by simp only [List.forall_mem_cons, List.not_mem_nil, false_implies, implies_true, and_true]; exact ⟨e0, e1, e2, e6⟩)]
      exact straightedgeref02_Made.t1 K n z0 z1p z1n z1c z2 z6 _ w h
    · replace h : asB (t.getD 0 undef) fun z0 => asL (t.getD 1 undef) fun z1p z1n z1c => asI .i64 (t.getD 2 undef) fun z2 => asP (t.getD 6 undef) fun z6 => (straightedgeref02_Made.H K (n + 1)).2 z0 z1p z1n z1c z2 z6 w := h
      obtain ⟨z0, e0, h⟩ := asB_elim h
      obtain ⟨z1p, z1n, z1c, e1, h⟩ := asL_elim h
      obtain ⟨z2, e2, h⟩ := asI_elim h
      obtain ⟨z6, e6, h⟩ := asP_elim h
      rw [mk_of hl [(0, (.bool z0)), (1, (.slice z1p z1n z1c)), (2, (.int .i64 z2)), (6, (.pointer z6))] (by simp only [List.forall_mem_cons, List.not_mem_nil, false_implies, implies_true, and_true]; exact ⟨e0, e1, e2, e6⟩)]
      exact straightedgeref02_Made.t4 K n z0 z1p z1n z1c z2 z6 _ w h

/-! ### (straightedge/straightedgeref02.D).Minus: function 49 -/
def straightedgeref02_D_Minus.x (A0_0 : Bool) (A0_1p : Option Addr) (A0_1n A0_1c : Nat) (A0_2 : Int) (w : World) (K : Value → World → Prop) : Prop := newB [(.bool A0_0), (.slice A0_1p A0_1n A0_1c), (.int .i64 A0_2)] 45 w fun q1 w2 => newB [(.bool false), (.slice none 0 0), (.int .i64 0)] 45 w2 fun q3 w4 => ∃ (a5 : Option Addr) (n6 c7 : Nat), w4.cell? (q1.add 1) = some (.slice a5 n6 c7) ∧ br (decide (((n6 : Nat) : Int) > 0)) (∃ b8 : Bool, w4.cell? q1 = some (.bool b8) ∧ (w4.cell? q1).isSome = true ∧ w4.frozen? q1 = false ∧ ∃ b9 : Bool, ∃ (a10 : Option Addr) (n11 c12 : Nat), ∃ i13 : Int, (w4.setCell q1 (.bool (!b8))).cell? q1 = some (.bool b9) ∧ (w4.setCell q1 (.bool (!b8))).cell? (q1.add 1) = some (.slice a10 n11 c12) ∧ (w4.setCell q1 (.bool (!b8))).cell? (q1.add 2) = some (.int .i64 i13) ∧ ((w4.setCell q1 (.bool (!b8))).cell? q3).isSome = true ∧ (w4.setCell q1 (.bool (!b8))).frozen? q3 = false ∧ (((w4.setCell q1 (.bool (!b8))).setCell q3 (.bool b9)).cell? (q3.add 1)).isSome = true ∧ ((w4.setCell q1 (.bool (!b8))).setCell q3 (.bool b9)).frozen? (q3.add 1) = false ∧ ((((w4.setCell q1 (.bool (!b8))).setCell q3 (.bool b9)).setCell (q3.add 1) (.slice a10 n11 c12)).cell? (q3.add 2)).isSome = true ∧ (((w4.setCell q1 (.bool (!b8))).setCell q3 (.bool b9)).setCell (q3.add 1) (.slice a10 n11 c12)).frozen? (q3.add 2) = false ∧ ∃ b14 : Bool, ∃ (a15 : Option Addr) (n16 c17 : Nat), ∃ i18 : Int, ((((w4.setCell q1 (.bool (!b8))).setCell q3 (.bool b9)).setCell (q3.add 1) (.slice a10 n11 c12)).setCell (q3.add 2) (.int .i64 i13)).cell? q3 = some (.bool b14) ∧ ((((w4.setCell q1 (.bool (!b8))).setCell q3 (.bool b9)).setCell (q3.add 1) (.slice a10 n11 c12)).setCell (q3.add 2) (.int .i64 i13)).cell? (q3.add 1) = some (.slice a15 n16 c17) ∧ ((((w4.setCell q1 (.bool (!b8))).setCell q3 (.bool b9)).setCell (q3.add 1) (.slice a10 n11 c12)).setCell (q3.add 2) (.int .i64 i13)).cell? (q3.add 2) = some (.int .i64 i18) ∧ K (.agg ⟨[(.bool b14), (.slice a15 n16 c17), (.int .i64 i18)]⟩) ((((w4.setCell q1 (.bool (!b8))).setCell q3 (.bool b9)).setCell (q3.add 1) (.slice a10 n11 c12)).setCell (q3.add 2) (.int .i64 i13))) (∃ b19 : Bool, ∃ (a20 : Option Addr) (n21 c22 : Nat), ∃ i23 : Int, w4.cell? q1 = some (.bool b19) ∧ w4.cell? (q1.add 1) = some (.slice a20 n21 c22) ∧ w4.cell? (q1.add 2) = some (.int .i64 i23) ∧ (w4.cell? q3).isSome = true ∧ w4.frozen? q3 = false ∧ ((w4.setCell q3 (.bool b19)).cell? (q3.add 1)).isSome = true ∧ (w4.setCell q3 (.bool b19)).frozen? (q3.add 1) = false ∧ (((w4.setCell q3 (.bool b19)).setCell (q3.add 1) (.slice a20 n21 c22)).cell? (q3.add 2)).isSome = true ∧ ((w4.setCell q3 (.bool b19)).setCell (q3.add 1) (.slice a20 n21 c22)).frozen? (q3.add 2) = false ∧ ∃ b24 : Bool, ∃ (a25 : Option Addr) (n26 c27 : Nat), ∃ i28 : Int, (((w4.setCell q3 (.bool b19)).setCell (q3.add 1) (.slice a20 n21 c22)).setCell (q3.add 2) (.int .i64 i23)).cell? q3 = some (.bool b24) ∧ (((w4.setCell q3 (.bool b19)).setCell (q3.add 1) (.slice a20 n21 c22)).setCell (q3.add 2) (.int .i64 i23)).cell? (q3.add 1) = some (.slice a25 n26 c27) ∧ (((w4.setCell q3 (.bool b19)).setCell (q3.add 1) (.slice a20 n21 c22)).setCell (q3.add 2) (.int .i64 i23)).cell? (q3.add 2) = some (.int .i64 i28) ∧ K (.agg ⟨[(.bool b24), (.slice a25 n26 c27), (.int .i64 i28)]⟩) (((w4.setCell q3 (.bool b19)).setCell (q3.add 1) (.slice a20 n21 c22)).setCell (q3.add 2) (.int .i64 i23)))
theorem straightedgeref02_D_Minus.ok {A0_0 : Bool} {A0_1p : Option Addr} {A0_1n A0_1c : Nat} {A0_2 : Int} {w : World} {K : Value → World → Prop} (h : straightedgeref02_D_Minus.x A0_0 A0_1p A0_1n A0_1c A0_2 w K) : straightedgeref02_D_Minus.call [(.agg ⟨[(.bool A0_0), (.slice A0_1p A0_1n A0_1c), (.int .i64 A0_2)]⟩)] w K :=
  callF_of_ex0 (f := Try.f49) Try.func49 rfl mixed (by kernel_rfl) (Eq.mp (by kernel_rfl) h)

/-! ### (straightedge/straightedgeref02.D).Sign: function 50 -/
def straightedgeref02_D_Sign.x (A0_0 : Bool) (A0_1p : Option Addr) (A0_1n A0_1c : Nat) (A0_2 : Int) (w : World) (K : Value → World → Prop) : Prop := newB [(.bool A0_0), (.slice A0_1p A0_1n A0_1c), (.int .i64 A0_2)] 45 w fun q1 w2 => ∃ (a3 : Option Addr) (n4 c5 : Nat), w2.cell? (q1.add 1) = some (.slice a3 n4 c5) ∧ br (((n4 : Nat) : Int) == 0) (K (.int .i64 0) w2) (∃ b6 : Bool, w2.cell? q1 = some (.bool b6) ∧ br b6 (K (.int .i64 (-1)) w2) (K (.int .i64 1) w2))
theorem straightedgeref02_D_Sign.ok {A0_0 : Bool} {A0_1p : Option Addr} {A0_1n A0_1c : Nat} {A0_2 : Int} {w : World} {K : Value → World → Prop} (h : straightedgeref02_D_Sign.x A0_0 A0_1p A0_1n A0_1c A0_2 w K) : straightedgeref02_D_Sign.call [(.agg ⟨[(.bool A0_0), (.slice A0_1p A0_1n A0_1c), (.int .i64 A0_2)]⟩)] w K :=
  callF_of_ex0 (f := Try.f50) Try.func50 rfl mixed (by kernel_rfl) (Eq.mp (by kernel_rfl) h)

/-! ### straightedge/straightedgeref02.floor: function 51 -/
def straightedgeref02_floor.x (A0 : Int) (w : World) (K : Value → World → Prop) : Prop := K (.tuple ⟨[(.int .i64 (IntKind.i64.wrap (Int.tdiv (IntKind.i64.wrap (A0 - (Int.tmod (IntKind.i64.wrap ((Int.tmod A0 16) + 16)) 16))) 16))), (.int .i64 (Int.tmod (IntKind.i64.wrap ((Int.tmod A0 16) + 16)) 16))]⟩) w
theorem straightedgeref02_floor.ok {A0 : Int} {w : World} {K : Value → World → Prop} (h : straightedgeref02_floor.x A0 w K) : straightedgeref02_floor.call [(.int .i64 A0)] w K :=
  callF_of_ex0 (f := Try.f51) Try.func51 rfl mixed (by kernel_rfl) (Eq.mp (by kernel_rfl) h)

/-! ### straightedge/straightedgeref02.power: function 52 -/
def straightedgeref02_power.c3 (K : Value → World → Prop) : Nat → Int → Int → Int → World → Prop
  | 0, _, _, _, _ => False
  | fu + 1, z0, z3, z4, w => br (decide (z4 < z0)) (straightedgeref02_power.c3 K fu z0 (IntKind.i64.wrap (z3 * 2)) (IntKind.i64.wrap (z4 + 1)) w) (K (.int .i64 z3) w)
def straightedgeref02_power.x (fu : Nat) (A0 : Int) (w : World) (K : Value → World → Prop) : Prop := straightedgeref02_power.c3 K fu A0 1 0 w
def straightedgeref02_power.hd (K : Value → World → Prop) (n id : Nat) (t : List Value) (w : World) : Prop :=
  match id with
  | 3 => asI .i64 (t.getD 0 undef) fun z0 => asI .i64 (t.getD 3 undef) fun z3 => asI .i64 (t.getD 4 undef) fun z4 => straightedgeref02_power.c3 K n z0 z3 z4 w
  | _ => False
theorem straightedgeref02_power.t3 (K : Value → World → Prop) (n : Nat) (z0 : Int) (z3 : Int) (z4 : Int) (u : Nat → Value) (w : World) (h : straightedgeref02_power.c3 K (n + 1) z0 z3 z4 w) :
    exT prog [3] (straightedgeref02_power.hd K n) Try.f52 3 13 [(0, (.int .i64 z0)), (3, (.int .i64 z3)), (4, (.int .i64 z4))] u w K := Eq.mp (by kernel_rfl) h
theorem straightedgeref02_power.ok (fu : Nat) {A0 : Int} {w : World} {K : Value → World → Prop} (h : straightedgeref02_power.x fu A0 w K) : straightedgeref02_power.call [(.int .i64 A0)] w K := by
  refine callF_of_ex (cuts := [3]) (H := straightedgeref02_power.hd K) (N := 13) Try.func52 rfl mixed (by kernel_rfl) ?_ ?_ ?_ rfl (n := fu) (Eq.mp (by kernel_rfl) h)
  · intro id hid; simp only [List.mem_cons, List.not_mem_nil, or_false] at hid; subst hid
    · exact (by kernel_rfl : (stacks (bodyOf Try.f52) []).filter (headIs 3) = [at_ (bodyOf Try.f52) 3])
  · intro id t w h
    unfold straightedgeref02_power.hd at h
    split at h
    · obtain ⟨z0, _, h⟩ := asI_elim h
      obtain ⟨z3, _, h⟩ := asI_elim h
      obtain ⟨z4, _, h⟩ := asI_elim h
      exact h
    · exact h
  · intro n id hid t w hl h; simp only [List.mem_cons, List.not_mem_nil, or_false] at hid; subst hid
    · replace h : asI .i64 (t.getD 0 undef) fun z0 => asI .i64 (t.getD 3 undef) fun z3 => asI .i64 (t.getD 4 undef) fun z4 => straightedgeref02_power.c3 K (n + 1) z0 z3 z4 w := h
      obtain ⟨z0, e0, h⟩ := asI_elim h
      obtain ⟨z3, e3, h⟩ := asI_elim h
      obtain ⟨z4, e4, h⟩ := asI_elim h
      rw [mk_of hl [(0, (.int .i64 z0)), (3, (.int .i64 z3)), (4, (.int .i64 z4))] (by simp only [List.forall_mem_cons, List.not_mem_nil, false_implies, implies_true, and_true]; exact ⟨e0, e3, e4⟩)]
      exact straightedgeref02_power.t3 K n z0 z3 z4 _ w h

/-! ### straightedge/straightedgeref02.ends: function 53 -/
def straightedgeref02_ends.x (A0_0 : Bool) (A0_1p : Option Addr) (A0_1n A0_1c : Nat) (A0_2 : Int) (A1_0 : Bool) (A1_1p : Option Addr) (A1_1n A1_1c : Nat) (A1_2 : Int) (w : World) (K : Value → World → Prop) : Prop := newB [(.bool A0_0), (.slice A0_1p A0_1n A0_1c), (.int .i64 A0_2)] 45 w fun q1 w2 => newB [(.bool A1_0), (.slice A1_1p A1_1n A1_1c), (.int .i64 A1_2)] 45 w2 fun q3 w4 => ∃ (a5 : Option Addr) (n6 c7 : Nat), w4.cell? (q1.add 1) = some (.slice a5 n6 c7) ∧ br (((n6 : Nat) : Int) == 0) (∃ i8 : Int, w4.drew.cell? (q3.add 2) = some (.int .i64 i8) ∧ ∃ i9 : Int, w4.drew.cell? (q3.add 2) = some (.int .i64 i9) ∧ ∃ (a10 : Option Addr) (n11 c12 : Nat), w4.drew.cell? (q3.add 1) = some (.slice a10 n11 c12) ∧ K (.tuple ⟨[(.int .i64 i8), (.int .i64 (IntKind.i64.wrap (i9 + ((n11 : Nat) : Int))))]⟩) w4.drew) (∃ (a13 : Option Addr) (n14 c15 : Nat), w4.cell? (q3.add 1) = some (.slice a13 n14 c15) ∧ br (((n14 : Nat) : Int) == 0) (∃ i16 : Int, w4.drew.cell? (q1.add 2) = some (.int .i64 i16) ∧ ∃ i17 : Int, w4.drew.cell? (q1.add 2) = some (.int .i64 i17) ∧ ∃ (a18 : Option Addr) (n19 c20 : Nat), w4.drew.cell? (q1.add 1) = some (.slice a18 n19 c20) ∧ K (.tuple ⟨[(.int .i64 i16), (.int .i64 (IntKind.i64.wrap (i17 + ((n19 : Nat) : Int))))]⟩) w4.drew) (∃ i21 : Int, w4.drew.cell? (q1.add 2) = some (.int .i64 i21) ∧ ∃ i22 : Int, w4.drew.cell? (q3.add 2) = some (.int .i64 i22) ∧ ∃ i23 : Int, w4.drew.cell? (q1.add 2) = some (.int .i64 i23) ∧ ∃ (a24 : Option Addr) (n25 c26 : Nat), w4.drew.cell? (q1.add 1) = some (.slice a24 n25 c26) ∧ ∃ i27 : Int, w4.drew.cell? (q3.add 2) = some (.int .i64 i27) ∧ ∃ (a28 : Option Addr) (n29 c30 : Nat), w4.drew.cell? (q3.add 1) = some (.slice a28 n29 c30) ∧ K (.tuple ⟨[(.int .i64 (if i22 < i21 then i22 else i21)), (.int .i64 (if (IntKind.i64.wrap (i27 + ((n29 : Nat) : Int))) > (IntKind.i64.wrap (i23 + ((n25 : Nat) : Int))) then (IntKind.i64.wrap (i27 + ((n29 : Nat) : Int))) else (IntKind.i64.wrap (i23 + ((n25 : Nat) : Int)))))]⟩) w4.drew))
theorem straightedgeref02_ends.ok {A0_0 : Bool} {A0_1p : Option Addr} {A0_1n A0_1c : Nat} {A0_2 : Int} {A1_0 : Bool} {A1_1p : Option Addr} {A1_1n A1_1c : Nat} {A1_2 : Int} {w : World} {K : Value → World → Prop} (h : straightedgeref02_ends.x A0_0 A0_1p A0_1n A0_1c A0_2 A1_0 A1_1p A1_1n A1_1c A1_2 w K) : straightedgeref02_ends.call [(.agg ⟨[(.bool A0_0), (.slice A0_1p A0_1n A0_1c), (.int .i64 A0_2)]⟩), (.agg ⟨[(.bool A1_0), (.slice A1_1p A1_1n A1_1c), (.int .i64 A1_2)]⟩)] w K :=
  callF_of_ex0 (f := Try.f53) Try.func53 rfl mixed (by kernel_rfl) (Eq.mp (by kernel_rfl) h)

/-! ### (straightedge/straightedgeref02.D).at: function 54 -/
def straightedgeref02_D_at.x (A0_0 : Bool) (A0_1p : Option Addr) (A0_1n A0_1c : Nat) (A0_2 : Int) (A1 : Int) (w : World) (K : Value → World → Prop) : Prop := newB [(.bool A0_0), (.slice A0_1p A0_1n A0_1c), (.int .i64 A0_2)] 45 w fun q1 w2 => ∃ i3 : Int, w2.cell? (q1.add 2) = some (.int .i64 i3) ∧ br (decide (A1 < i3)) (K (.int .i64 0) w2) (∃ i4 : Int, w2.cell? (q1.add 2) = some (.int .i64 i4) ∧ ∃ (a5 : Option Addr) (n6 c7 : Nat), w2.cell? (q1.add 1) = some (.slice a5 n6 c7) ∧ br (decide (A1 ≥ (IntKind.i64.wrap (i4 + ((n6 : Nat) : Int))))) (K (.int .i64 0) w2) (∃ (a8 : Option Addr) (n9 c10 : Nat), w2.cell? (q1.add 1) = some (.slice a8 n9 c10) ∧ ∃ i11 : Int, w2.cell? (q1.add 2) = some (.int .i64 i11) ∧ ptrSome a8 fun q12 => (0 : Int) ≤ (IntKind.i64.wrap (A1 - i11)) ∧ (IntKind.i64.wrap (A1 - i11)) < ((n9 : Nat) : Int) ∧ ∃ i13 : Int, w2.cell? (q12.add (Int.toNat (IntKind.i64.wrap (A1 - i11)))) = some (.int .i64 i13) ∧ K (.int .i64 i13) w2))
theorem straightedgeref02_D_at.ok {A0_0 : Bool} {A0_1p : Option Addr} {A0_1n A0_1c : Nat} {A0_2 : Int} {A1 : Int} {w : World} {K : Value → World → Prop} (h : straightedgeref02_D_at.x A0_0 A0_1p A0_1n A0_1c A0_2 A1 w K) : straightedgeref02_D_at.call [(.agg ⟨[(.bool A0_0), (.slice A0_1p A0_1n A0_1c), (.int .i64 A0_2)]⟩), (.int .i64 A1)] w K :=
  callF_of_ex0 (f := Try.f54) Try.func54 rfl mixed (by kernel_rfl) (Eq.mp (by kernel_rfl) h)

/-! ### straightedge/straightedgeref02.size: function 55 -/
def straightedgeref02_size.c3 (K : Value → World → Prop) : Nat → Option Addr → Option Addr → Int → Int → World → Prop
  | 0, _, _, _, _, _ => False
  | fu + 1, z2, z3, z5, z7, w => br (decide (z7 ≥ z5)) (ptrSome z2 fun q1 => ∃ b2 : Bool, ∃ (a3 : Option Addr) (n4 c5 : Nat), ∃ i6 : Int, w.drew.cell? q1 = some (.bool b2) ∧ w.drew.cell? (q1.add 1) = some (.slice a3 n4 c5) ∧ w.drew.cell? (q1.add 2) = some (.int .i64 i6) ∧ ptrSome z3 fun q7 => ∃ b8 : Bool, ∃ (a9 : Option Addr) (n10 c11 : Nat), ∃ i12 : Int, w.drew.cell? q7 = some (.bool b8) ∧ w.drew.cell? (q7.add 1) = some (.slice a9 n10 c11) ∧ w.drew.cell? (q7.add 2) = some (.int .i64 i12) ∧ straightedgeref02_D_at.call [(.agg ⟨[(.bool b2), (.slice a3 n4 c5), (.int .i64 i6)]⟩), (.int .i64 z7)] w.drew fun v13 w14 => ∃ i15 : Int, v13 = (.int .i64 i15) ∧ Kept w.drew w14 ∧ straightedgeref02_D_at.call [(.agg ⟨[(.bool b8), (.slice a9 n10 c11), (.int .i64 i12)]⟩), (.int .i64 z7)] w14 fun v16 w17 => ∃ i18 : Int, v16 = (.int .i64 i18) ∧ br (i15 != i18) (ptrSome z2 fun q19 => ∃ b20 : Bool, ∃ (a21 : Option Addr) (n22 c23 : Nat), ∃ i24 : Int, w17.drew.cell? q19 = some (.bool b20) ∧ w17.drew.cell? (q19.add 1) = some (.slice a21 n22 c23) ∧ w17.drew.cell? (q19.add 2) = some (.int .i64 i24) ∧ ptrSome z3 fun q25 => ∃ b26 : Bool, ∃ (a27 : Option Addr) (n28 c29 : Nat), ∃ i30 : Int, w17.drew.cell? q25 = some (.bool b26) ∧ w17.drew.cell? (q25.add 1) = some (.slice a27 n28 c29) ∧ w17.drew.cell? (q25.add 2) = some (.int .i64 i30) ∧ straightedgeref02_D_at.call [(.agg ⟨[(.bool b20), (.slice a21 n22 c23), (.int .i64 i24)]⟩), (.int .i64 z7)] w17.drew fun v31 w32 => ∃ i33 : Int, v31 = (.int .i64 i33) ∧ Kept w17.drew w32 ∧ straightedgeref02_D_at.call [(.agg ⟨[(.bool b26), (.slice a27 n28 c29), (.int .i64 i30)]⟩), (.int .i64 z7)] w32 fun v34 w35 => ∃ i36 : Int, v34 = (.int .i64 i36) ∧ br (decide (i33 < i36)) (K (.int .i64 (-1)) w35) (K (.int .i64 1) w35)) (straightedgeref02_size.c3 K fu z2 z3 z5 (IntKind.i64.wrap (z7 - 1)) w17)) (K (.int .i64 0) w)
def straightedgeref02_size.x (fu : Nat) (A0_0 : Bool) (A0_1p : Option Addr) (A0_1n A0_1c : Nat) (A0_2 : Int) (A1_0 : Bool) (A1_1p : Option Addr) (A1_1n A1_1c : Nat) (A1_2 : Int) (w : World) (K : Value → World → Prop) : Prop := newB [(.bool A0_0), (.slice A0_1p A0_1n A0_1c), (.int .i64 A0_2)] 45 w fun q1 w2 => newB [(.bool A1_0), (.slice A1_1p A1_1n A1_1c), (.int .i64 A1_2)] 45 w2 fun q3 w4 => ∃ b5 : Bool, ∃ (a6 : Option Addr) (n7 c8 : Nat), ∃ i9 : Int, w4.cell? q1 = some (.bool b5) ∧ w4.cell? (q1.add 1) = some (.slice a6 n7 c8) ∧ w4.cell? (q1.add 2) = some (.int .i64 i9) ∧ ∃ b10 : Bool, ∃ (a11 : Option Addr) (n12 c13 : Nat), ∃ i14 : Int, w4.cell? q3 = some (.bool b10) ∧ w4.cell? (q3.add 1) = some (.slice a11 n12 c13) ∧ w4.cell? (q3.add 2) = some (.int .i64 i14) ∧ straightedgeref02_ends.call [(.agg ⟨[(.bool b5), (.slice a6 n7 c8), (.int .i64 i9)]⟩), (.agg ⟨[(.bool b10), (.slice a11 n12 c13), (.int .i64 i14)]⟩)] w4 fun v15 w16 => ∃ i17 : Int, ∃ i18 : Int, v15 = (.tuple ⟨[(.int .i64 i17), (.int .i64 i18)]⟩) ∧ straightedgeref02_size.c3 K fu (some q1) (some q3) i17 (IntKind.i64.wrap (i18 - 1)) w16
def straightedgeref02_size.hd (K : Value → World → Prop) (n id : Nat) (t : List Value) (w : World) : Prop :=
  match id with
  | 3 => asP (t.getD 2 undef) fun z2 => asP (t.getD 3 undef) fun z3 => asI .i64 (t.getD 5 undef) fun z5 => asI .i64 (t.getD 7 undef) fun z7 => straightedgeref02_size.c3 K n z2 z3 z5 z7 w
  | _ => False
theorem straightedgeref02_size.t3 (K : Value → World → Prop) (n : Nat) (z2 : Option Addr) (z3 : Option Addr) (z5 : Int) (z7 : Int) (u : Nat → Value) (w : World) (h : straightedgeref02_size.c3 K (n + 1) z2 z3 z5 z7 w) :
    exT prog [3] (straightedgeref02_size.hd K n) Try.f55 3 35 [(2, (.pointer z2)), (3, (.pointer z3)), (5, (.int .i64 z5)), (7, (.int .i64 z7))] u w K := Eq.mp (by kernel_rfl) h
theorem straightedgeref02_size.ok (fu : Nat) {A0_0 : Bool} {A0_1p : Option Addr} {A0_1n A0_1c : Nat} {A0_2 : Int} {A1_0 : Bool} {A1_1p : Option Addr} {A1_1n A1_1c : Nat} {A1_2 : Int} {w : World} {K : Value → World → Prop} (h : straightedgeref02_size.x fu A0_0 A0_1p A0_1n A0_1c A0_2 A1_0 A1_1p A1_1n A1_1c A1_2 w K) : straightedgeref02_size.call [(.agg ⟨[(.bool A0_0), (.slice A0_1p A0_1n A0_1c), (.int .i64 A0_2)]⟩), (.agg ⟨[(.bool A1_0), (.slice A1_1p A1_1n A1_1c), (.int .i64 A1_2)]⟩)] w K := by
  refine callF_of_ex (cuts := [3]) (H := straightedgeref02_size.hd K) (N := 35) Try.func55 rfl mixed (by kernel_rfl) ?_ ?_ ?_ rfl (n := fu) (Eq.mp (by kernel_rfl) h)
  · intro id hid; simp only [List.mem_cons, List.not_mem_nil, or_false] at hid; subst hid
    · exact (by kernel_rfl : (stacks (bodyOf Try.f55) []).filter (headIs 3) = [at_ (bodyOf Try.f55) 3])
  · intro id t w h
    unfold straightedgeref02_size.hd at h
    split at h
    · obtain ⟨z2, _, h⟩ := asP_elim h
      obtain ⟨z3, _, h⟩ := asP_elim h
      obtain ⟨z5, _, h⟩ := asI_elim h
      obtain ⟨z7, _, h⟩ := asI_elim h
      exact h
    · exact h
  · intro n id hid t w hl h; simp only [List.mem_cons, List.not_mem_nil, or_false] at hid; subst hid
    · replace h : asP (t.getD 2 undef) fun z2 => asP (t.getD 3 undef) fun z3 => asI .i64 (t.getD 5 undef) fun z5 => asI .i64 (t.getD 7 undef) fun z7 => straightedgeref02_size.c3 K (n + 1) z2 z3 z5 z7 w := h
      obtain ⟨z2, e2, h⟩ := asP_elim h
      obtain ⟨z3, e3, h⟩ := asP_elim h
      obtain ⟨z5, e5, h⟩ := asI_elim h
      obtain ⟨z7, e7, h⟩ := asI_elim h
      rw [mk_of hl [(2, (.pointer z2)), (3, (.pointer z3)), (5, (.int .i64 z5)), (7, (.int .i64 z7))] (by simp only [List.forall_mem_cons, List.not_mem_nil, false_implies, implies_true, and_true]; exact ⟨e2, e3, e5, e7⟩)]
      exact straightedgeref02_size.t3 K n z2 z3 z5 z7 _ w h

end Go.Proofs.Ytgdkahbnepafgaa
