/- A part of the proof. -/
import Derived.Test.YtgdkahbnepafgaaG0
set_option linter.unusedVariables false

/-! ### AGlaw16 -/
/- The explicit forms of the functions of one package, and that the calls do what they say. Written by wip/tools/wk2.py. -/
set_option maxHeartbeats 4000000
set_option maxRecDepth 100000
set_option linter.unusedVariables false
namespace Go.Proofs.Ytgdkahbnepafgaa
open Go Go.Wk

/-! ### straightedge/straightedgelaw16.LuClose: function 3 -/
def straightedgelaw16_LuClose.b14 (K : Value → World → Prop) (h14 : Option Addr → Option Addr → Option Addr → Int → World → Prop) (h17 : Option Addr → Option Addr → Option Addr → Int → Int → World → Prop) (z1 : Option Addr) (z3 : Option Addr) (z6 : Option Addr) (z7 : Int) (w : World) : Prop := ptrSome z6 fun q1 => rd_i64 w q1 fun i2 => br (decide (z7 < i2)) (h17 z1 z3 z6 z7 0 w) (ptrSome z1 fun q4 => rd_l_i64_i64_i64_i64 w.drew q4 fun a5 n6 c7 i8 i9 i10 i11 => ptrSome z6 fun q12 => rd_i64_i64_l w.drew q12 fun i13 i14 a15 n16 c17 => ptrSome z3 fun q18 => rd_l w.drew (q18.add 5) fun a19 n20 c21 => straightedgeref03_Of.call [(.agg ⟨[(.slice a5 n6 c7), (.int .i64 i8), (.int .i64 i9), (.int .i64 i10), (.int .i64 i11)]⟩)] w.drew fun v22 w23 => ∃ i24 : Int, ∃ i25 : Int, ∃ (a26 : Option Addr) (n27 c28 : Nat), v22 = (.agg ⟨[(.int .i64 i24), (.int .i64 i25), (.slice a26 n27 c28)]⟩) ∧ Kept w.drew w23 ∧ straightedgelaw16_closeTo.call [(.agg ⟨[(.int .i64 i24), (.int .i64 i25), (.slice a26 n27 c28)]⟩), (.agg ⟨[(.int .i64 i13), (.int .i64 i14), (.slice a15 n16 c17)]⟩), (.slice a19 n20 c21)] w23 fun v29 w30 => ∃ b31 : Bool, v29 = (.bool b31) ∧ br b31 (straightedgelaw16_awake.call [] w30 fun v32 w33 => ∃ b34 : Bool, v32 = (.bool b34) ∧ K (.bool b34) w33) (K (.bool false) w30))
def straightedgelaw16_LuClose.b17 (K : Value → World → Prop) (h14 : Option Addr → Option Addr → Option Addr → Int → World → Prop) (h17 : Option Addr → Option Addr → Option Addr → Int → Int → World → Prop) (z1 : Option Addr) (z3 : Option Addr) (z6 : Option Addr) (z7 : Int) (z8 : Int) (w : World) : Prop := br (decide (z8 < z7)) (ptrSome z6 fun q1 => rd_i64_i64_l w q1 fun i2 i3 a4 n5 c6 => straightedgeref03_M_At.call [(.agg ⟨[(.int .i64 i2), (.int .i64 i3), (.slice a4 n5 c6)]⟩), (.int .i64 z7), (.int .i64 z8)] w fun v7 w8 => ∃ x9 : Nat, v7 = (.float .f64 x9) ∧ straightedgeref01_Abs.call [(.float .f64 x9)] w8 fun v10 w11 => ∃ x12 : Nat, v10 = (.float .f64 x12) ∧ br (fgt .f64 x12 4607182418800017408) (K (.bool false) w11) (h17 z1 z3 z6 z7 (IntKind.i64.wrap (z8 + 1)) w11)) (h14 z1 z3 z6 (IntKind.i64.wrap (z7 + 1)) w)
def straightedgelaw16_LuClose.H (K : Value → World → Prop) : Nat → (Option Addr → Option Addr → Option Addr → Int → World → Prop) × (Option Addr → Option Addr → Option Addr → Int → Int → World → Prop)
  | 0 => (fun _ _ _ _ _ => False, fun _ _ _ _ _ _ => False)
  | fu + 1 => (straightedgelaw16_LuClose.b14 K (straightedgelaw16_LuClose.H K fu).1 (straightedgelaw16_LuClose.H K fu).2, straightedgelaw16_LuClose.b17 K (straightedgelaw16_LuClose.H K fu).1 (straightedgelaw16_LuClose.H K fu).2)
def straightedgelaw16_LuClose.x (fu : Nat) (A0_0p : Option Addr) (A0_0n A0_0c : Nat) (A0_1 : Int) (A0_2 : Int) (A0_3 : Int) (A0_4 : Int) (w : World) (K : Value → World → Prop) : Prop := newB [(.slice A0_0p A0_0n A0_0c), (.int .i64 A0_1), (.int .i64 A0_2), (.int .i64 A0_3), (.int .i64 A0_4)] 24 w fun q1 w2 => straightedgelaw16_awake.call [] w2 fun v3 w4 => ∃ b5 : Bool, v3 = (.bool b5) ∧ br (!b5) (K (.bool false) w4) (rd_l_i64_i64_i64_i64 w4 q1 fun a6 n7 c8 i9 i10 i11 i12 => straightedgeref03_Great.call [(.agg ⟨[(.slice a6 n7 c8), (.int .i64 i9), (.int .i64 i10), (.int .i64 i11), (.int .i64 i12)]⟩)] w4 fun v13 w14 => ∃ b15 : Bool, v13 = (.bool b15) ∧ br b15 (straightedgelaw16_awake.call [] w14 fun v16 w17 => ∃ b18 : Bool, v16 = (.bool b18) ∧ K (.bool b18) w17) (rd_i64 w14 (q1.add 2) fun i19 => br (decide (i19 > 8)) (straightedgelaw16_awake.call [] w14 fun v20 w21 => ∃ b22 : Bool, v20 = (.bool b22) ∧ K (.bool b22) w21) (rd_l_i64_i64_i64_i64 w14 q1 fun a23 n24 c25 i26 i27 i28 i29 => straightedgeref03_Good.call [(.agg ⟨[(.slice a23 n24 c25), (.int .i64 i26), (.int .i64 i27), (.int .i64 i28), (.int .i64 i29)]⟩)] w14 fun v30 w31 => ∃ b32 : Bool, v30 = (.bool b32) ∧ br (!b32) (straightedgelaw16_awake.call [] w31 fun v33 w34 => ∃ b35 : Bool, v33 = (.bool b35) ∧ K (.bool b35) w34) (rd_l_i64_i64_i64_i64 w31 q1 fun a36 n37 c38 i39 i40 i41 i42 => straightedgeref03_Of.call [(.agg ⟨[(.slice a36 n37 c38), (.int .i64 i39), (.int .i64 i40), (.int .i64 i41), (.int .i64 i42)]⟩)] w31 fun v43 w44 => ∃ i45 : Int, ∃ i46 : Int, ∃ (a47 : Option Addr) (n48 c49 : Nat), v43 = (.agg ⟨[(.int .i64 i45), (.int .i64 i46), (.slice a47 n48 c49)]⟩) ∧ straightedgeref01_Finite.call [(.slice a47 n48 c49)] w44 fun v50 w51 => ∃ b52 : Bool, v50 = (.bool b52) ∧ br (!b52) (straightedgelaw16_awake.call [] w51 fun v53 w54 => ∃ b55 : Bool, v53 = (.bool b55) ∧ K (.bool b55) w54) (rd_l_i64_i64_i64_i64 w51 q1 fun a56 n57 c58 i59 i60 i61 i62 => lu_Factor.call [(.agg ⟨[(.slice a56 n57 c58), (.int .i64 i59), (.int .i64 i60), (.int .i64 i61), (.int .i64 i62)]⟩)] w51 fun v63 w64 => ∃ (a65 : Option Addr) (n66 c67 : Nat), ∃ i68 : Int, ∃ i69 : Int, ∃ i70 : Int, ∃ i71 : Int, ∃ (a72 : Option Addr) (n73 c74 : Nat), ∃ i75 : Int, ∃ i76 : Int, v63 = (.tuple ⟨[(.agg ⟨[(.slice a65 n66 c67), (.int .i64 i68), (.int .i64 i69), (.int .i64 i70), (.int .i64 i71), (.slice a72 n73 c74)]⟩), (.int .i64 i75), (.int .i64 i76)]⟩) ∧ newB [(.slice none 0 0), (.int .i64 0), (.int .i64 0), (.int .i64 0), (.int .i64 0), (.slice none 0 0)] 33 w64 fun q77 w78 => stPT q77 0 [(.slice a65 n66 c67), (.int .i64 i68), (.int .i64 i69), (.int .i64 i70), (.int .i64 i71), (.slice a72 n73 c74)] w78 fun w79 => br (i76 != 0) (br (i76 == 4) (straightedgelaw16_awake.call [] w79 fun v80 w81 => ∃ b82 : Bool, v80 = (.bool b82) ∧ K (.bool b82) w81) (br (i76 == 3) (straightedgelaw16_awake.call [] w79 fun v83 w84 => ∃ b85 : Bool, v83 = (.bool b85) ∧ K (.bool b85) w84) (K (.bool false) w79))) (rd_l_i64_i64_i64_i64 w79 q77 fun a86 n87 c88 i89 i90 i91 i92 => straightedgeref03_Good.call [(.agg ⟨[(.slice a86 n87 c88), (.int .i64 i89), (.int .i64 i90), (.int .i64 i91), (.int .i64 i92)]⟩)] w79 fun v93 w94 => ∃ b95 : Bool, v93 = (.bool b95) ∧ br (!b95) (K (.bool false) w94) (rd_i64 w94 (q77.add 2) fun i96 => rd_i64 w94 (q1.add 2) fun i97 => br (i96 != i97) (K (.bool false) w94) (rd_i64 w94 (q77.add 3) fun i98 => rd_i64 w94 (q1.add 2) fun i99 => br (i98 != i99) (K (.bool false) w94) (rd_l w94 (q77.add 5) fun a100 n101 c102 => rd_i64 w94 (q1.add 2) fun i103 => br (((n101 : Nat) : Int) != i103) (K (.bool false) w94) (rd_l w94 (q77.add 5) fun a104 n105 c106 => straightedgeref16_Piv.call [(.slice a104 n105 c106)] w94 fun v107 w108 => ∃ b109 : Bool, v107 = (.bool b109) ∧ br (!b109) (K (.bool false) w108) (rd_l_i64_i64_i64_i64 w108 q77 fun a110 n111 c112 i113 i114 i115 i116 => straightedgeref03_Of.call [(.agg ⟨[(.slice a110 n111 c112), (.int .i64 i113), (.int .i64 i114), (.int .i64 i115), (.int .i64 i116)]⟩)] w108 fun v117 w118 => ∃ i119 : Int, ∃ i120 : Int, ∃ (a121 : Option Addr) (n122 c123 : Nat), v117 = (.agg ⟨[(.int .i64 i119), (.int .i64 i120), (.slice a121 n122 c123)]⟩) ∧ newB [(.int .i64 0), (.int .i64 0), (.slice none 0 0)] 29 w118 fun q124 w125 => stPT q124 0 [(.int .i64 i119), (.int .i64 i120), (.slice a121 n122 c123)] w125 fun w126 => rd_l w126 (q124.add 2) fun a127 n128 c129 => straightedgeref01_Finite.call [(.slice a127 n128 c129)] w126 fun v130 w131 => ∃ b132 : Bool, v130 = (.bool b132) ∧ br (!b132) (straightedgelaw16_awake.call [] w131 fun v133 w134 => ∃ b135 : Bool, v133 = (.bool b135) ∧ K (.bool b135) w134) ((straightedgelaw16_LuClose.H K fu).1 (some q1) (some q77) (some q124) 0 w131))))))))))))
def straightedgelaw16_LuClose.hd (K : Value → World → Prop) (n id : Nat) (t : List Value) (w : World) : Prop :=
  match id with
  | 14 => asP (t.getD 1 undef) fun z1 => asP (t.getD 3 undef) fun z3 => asP (t.getD 6 undef) fun z6 => asI .i64 (t.getD 7 undef) fun z7 => (straightedgelaw16_LuClose.H K n).1 z1 z3 z6 z7 w
  | 17 => asP (t.getD 1 undef) fun z1 => asP (t.getD 3 undef) fun z3 => asP (t.getD 6 undef) fun z6 => asI .i64 (t.getD 7 undef) fun z7 => asI .i64 (t.getD 8 undef) fun z8 => (straightedgelaw16_LuClose.H K n).2 z1 z3 z6 z7 z8 w
  | _ => False
theorem straightedgelaw16_LuClose.t14 (K : Value → World → Prop) (n : Nat) (z1 : Option Addr) (z3 : Option Addr) (z6 : Option Addr) (z7 : Int) (u : Nat → Value) (w : World) (h : (straightedgelaw16_LuClose.H K (n + 1)).1 z1 z3 z6 z7 w) :
    exT prog [14, 17] (straightedgelaw16_LuClose.hd K n) Try.f3 14 116 [(1, (.pointer z1)), (3, (.pointer z3)), (6, (.pointer z6)), (7, (.int .i64 z7))] u w K := Eq.mp (by kernel_rfl) h
theorem straightedgelaw16_LuClose.t17 (K : Value → World → Prop) (n : Nat) (z1 : Option Addr) (z3 : Option Addr) (z6 : Option Addr) (z7 : Int) (z8 : Int) (u : Nat → Value) (w : World) (h : (straightedgelaw16_LuClose.H K (n + 1)).2 z1 z3 z6 z7 z8 w) :
    exT prog [14, 17] (straightedgelaw16_LuClose.hd K n) Try.f3 17 116 [(1, (.pointer z1)), (3, (.pointer z3)), (6, (.pointer z6)), (7, (.int .i64 z7)), (8, (.int .i64 z8))] u w K := Eq.mp (by kernel_rfl) h
theorem straightedgelaw16_LuClose.ok (fu : Nat) {A0_0p : Option Addr} {A0_0n A0_0c : Nat} {A0_1 : Int} {A0_2 : Int} {A0_3 : Int} {A0_4 : Int} {w : World} {K : Value → World → Prop} (h : straightedgelaw16_LuClose.x fu A0_0p A0_0n A0_0c A0_1 A0_2 A0_3 A0_4 w K) : straightedgelaw16_LuClose.call [(.agg ⟨[(.slice A0_0p A0_0n A0_0c), (.int .i64 A0_1), (.int .i64 A0_2), (.int .i64 A0_3), (.int .i64 A0_4)]⟩)] w K := by
  refine callF_of_ex (cuts := [14, 17]) (H := straightedgelaw16_LuClose.hd K) (N := 116) Try.func3 rfl mixed (by kernel_rfl) ?_ ?_ ?_ rfl (n := fu) (Eq.mp (by kernel_rfl) h)
  · intro id hid; simp only [List.mem_cons, List.not_mem_nil, or_false] at hid; rcases hid with rfl | rfl
    · exact (by kernel_rfl : (stacks (bodyOf Try.f3) []).filter (headIs 14) = [at_ (bodyOf Try.f3) 14])
    · exact (by kernel_rfl : (stacks (bodyOf Try.f3) []).filter (headIs 17) = [at_ (bodyOf Try.f3) 17])
  · intro id t w h
    unfold straightedgelaw16_LuClose.hd at h
    split at h
    · obtain ⟨z1, _, h⟩ := asP_elim h
      obtain ⟨z3, _, h⟩ := asP_elim h
      obtain ⟨z6, _, h⟩ := asP_elim h
      obtain ⟨z7, _, h⟩ := asI_elim h
      exact h
    · obtain ⟨z1, _, h⟩ := asP_elim h
      obtain ⟨z3, _, h⟩ := asP_elim h
      obtain ⟨z6, _, h⟩ := asP_elim h
      obtain ⟨z7, _, h⟩ := asI_elim h
      obtain ⟨z8, _, h⟩ := asI_elim h
      exact h
    · exact h
  · intro n id hid t w hl h; simp only [List.mem_cons, List.not_mem_nil, or_false] at hid; rcases hid with rfl | rfl
    · replace h : asP (t.getD 1 undef) fun z1 => asP (t.getD 3 undef) fun z3 => asP (t.getD 6 undef) fun z6 => asI .i64 (t.getD 7 undef) fun z7 => (straightedgelaw16_LuClose.H K (n + 1)).1 z1 z3 z6 z7 w := h
      obtain ⟨z1, e1, h⟩ := asP_elim h
      obtain ⟨z3, e3, h⟩ := asP_elim h
      obtain ⟨z6, e6, h⟩ := asP_elim h
      obtain ⟨z7, e7, h⟩ := asI_elim h
      rw [mk_of hl [(1, (.pointer z1)), (3, (.pointer z3)), (6, (.pointer z6)), (7, (.int .i64 z7))] (by simp only [List.forall_mem_cons, List.not_mem_nil, false_implies, implies_true, and_true]; exact ⟨e1, e3, e6, e7⟩)]
      exact straightedgelaw16_LuClose.t14 K n z1 z3 z6 z7 _ w h
    · replace h : asP (t.getD 1 undef) fun z1 => asP (t.getD 3 undef) fun z3 => asP (t.getD 6 undef) fun z6 => asI .i64 (t.getD 7 undef) fun z7 => asI .i64 (t.getD 8 undef) fun z8 => (straightedgelaw16_LuClose.H K (n + 1)).2 z1 z3 z6 z7 z8 w := h
      obtain ⟨z1, e1, h⟩ := asP_elim h
      obtain ⟨z3, e3, h⟩ := asP_elim h
      obtain ⟨z6, e6, h⟩ := asP_elim h
      obtain ⟨z7, e7, h⟩ := asI_elim h
      obtain ⟨z8, e8, h⟩ := asI_elim h
      rw [mk_of hl [(1, (.pointer z1)), (3, (.pointer z3)), (6, (.pointer z6)), (7, (.int .i64 z7)), (8, (.int .i64 z8))] (by simp only [List.forall_mem_cons, List.not_mem_nil, false_implies, implies_true, and_true]; exact ⟨e1, e3, e6, e7, e8⟩)]
      exact straightedgelaw16_LuClose.t17 K n z1 z3 z6 z7 z8 _ w h
/-! the same, the local variables taken out -/
def straightedgelaw16_LuClose.e14 (K : Value → World → Prop) (h14 : Nat → Option Addr → Nat → Nat → Int → Int → Int → Int → Nat → Option Addr → Nat → Nat → Int → Int → Int → Int → Option Addr → Nat → Nat → Nat → Int → Int → Option Addr → Nat → Nat → Int → World → Prop) (h17 : Nat → Option Addr → Nat → Nat → Int → Int → Int → Int → Nat → Option Addr → Nat → Nat → Int → Int → Int → Int → Option Addr → Nat → Nat → Nat → Int → Int → Option Addr → Nat → Nat → Int → Int → World → Prop) (k1 : Nat) (y1_0p : Option Addr) (y1_0n y1_0c : Nat) (y1_1 : Int) (y1_2 : Int) (y1_3 : Int) (y1_4 : Int) (k3 : Nat) (y3_0p : Option Addr) (y3_0n y3_0c : Nat) (y3_1 : Int) (y3_2 : Int) (y3_3 : Int) (y3_4 : Int) (y3_5p : Option Addr) (y3_5n y3_5c : Nat) (k6 : Nat) (y6_0 : Int) (y6_1 : Int) (y6_2p : Option Addr) (y6_2n y6_2c : Nat) (z7 : Int) (w : World) : Prop := br (decide (z7 < y6_0)) (h17 k1 y1_0p y1_0n y1_0c y1_1 y1_2 y1_3 y1_4 k3 y3_0p y3_0n y3_0c y3_1 y3_2 y3_3 y3_4 y3_5p y3_5n y3_5c k6 y6_0 y6_1 y6_2p y6_2n y6_2c z7 0 w) (straightedgeref03_Of.call [(.agg ⟨[(.slice y1_0p y1_0n y1_0c), (.int .i64 y1_1), (.int .i64 y1_2), (.int .i64 y1_3), (.int .i64 y1_4)]⟩)] w.drew fun v22 w23 => Stay [k1, k3, k6] w.drew w23 ∧ ∃ i24 : Int, ∃ i25 : Int, ∃ (a26 : Option Addr) (n27 c28 : Nat), v22 = (.agg ⟨[(.int .i64 i24), (.int .i64 i25), (.slice a26 n27 c28)]⟩) ∧ Kept w.drew w23 ∧ straightedgelaw16_closeTo.call [(.agg ⟨[(.int .i64 i24), (.int .i64 i25), (.slice a26 n27 c28)]⟩), (.agg ⟨[(.int .i64 y6_0), (.int .i64 y6_1), (.slice y6_2p y6_2n y6_2c)]⟩), (.slice y3_5p y3_5n y3_5c)] w23 fun v29 w30 => Stay [k1, k3, k6] w23 w30 ∧ ∃ b31 : Bool, v29 = (.bool b31) ∧ br b31 (straightedgelaw16_awake.call [] w30 fun v32 w33 => Stay [k1, k3, k6] w30 w33 ∧ ∃ b34 : Bool, v32 = (.bool b34) ∧ K (.bool b34) w33) (K (.bool false) w30))
def straightedgelaw16_LuClose.e17 (K : Value → World → Prop) (h14 : Nat → Option Addr → Nat → Nat → Int → Int → Int → Int → Nat → Option Addr → Nat → Nat → Int → Int → Int → Int → Option Addr → Nat → Nat → Nat → Int → Int → Option Addr → Nat → Nat → Int → World → Prop) (h17 : Nat → Option Addr → Nat → Nat → Int → Int → Int → Int → Nat → Option Addr → Nat → Nat → Int → Int → Int → Int → Option Addr → Nat → Nat → Nat → Int → Int → Option Addr → Nat → Nat → Int → Int → World → Prop) (k1 : Nat) (y1_0p : Option Addr) (y1_0n y1_0c : Nat) (y1_1 : Int) (y1_2 : Int) (y1_3 : Int) (y1_4 : Int) (k3 : Nat) (y3_0p : Option Addr) (y3_0n y3_0c : Nat) (y3_1 : Int) (y3_2 : Int) (y3_3 : Int) (y3_4 : Int) (y3_5p : Option Addr) (y3_5n y3_5c : Nat) (k6 : Nat) (y6_0 : Int) (y6_1 : Int) (y6_2p : Option Addr) (y6_2n y6_2c : Nat) (z7 : Int) (z8 : Int) (w : World) : Prop := br (decide (z8 < z7)) (straightedgeref03_M_At.call [(.agg ⟨[(.int .i64 y6_0), (.int .i64 y6_1), (.slice y6_2p y6_2n y6_2c)]⟩), (.int .i64 z7), (.int .i64 z8)] w fun v7 w8 => Stay [k1, k3, k6] w w8 ∧ ∃ x9 : Nat, v7 = (.float .f64 x9) ∧ straightedgeref01_Abs.call [(.float .f64 x9)] w8 fun v10 w11 => Stay [k1, k3, k6] w8 w11 ∧ ∃ x12 : Nat, v10 = (.float .f64 x12) ∧ br (fgt .f64 x12 4607182418800017408) (K (.bool false) w11) (h17 k1 y1_0p y1_0n y1_0c y1_1 y1_2 y1_3 y1_4 k3 y3_0p y3_0n y3_0c y3_1 y3_2 y3_3 y3_4 y3_5p y3_5n y3_5c k6 y6_0 y6_1 y6_2p y6_2n y6_2c z7 (IntKind.i64.wrap (z8 + 1)) w11)) (h14 k1 y1_0p y1_0n y1_0c y1_1 y1_2 y1_3 y1_4 k3 y3_0p y3_0n y3_0c y3_1 y3_2 y3_3 y3_4 y3_5p y3_5n y3_5c k6 y6_0 y6_1 y6_2p y6_2n y6_2c (IntKind.i64.wrap (z7 + 1)) w)
def straightedgelaw16_LuClose.I (K : Value → World → Prop) : Nat → (Nat → Option Addr → Nat → Nat → Int → Int → Int → Int → Nat → Option Addr → Nat → Nat → Int → Int → Int → Int → Option Addr → Nat → Nat → Nat → Int → Int → Option Addr → Nat → Nat → Int → World → Prop) × (Nat → Option Addr → Nat → Nat → Int → Int → Int → Int → Nat → Option Addr → Nat → Nat → Int → Int → Int → Int → Option Addr → Nat → Nat → Nat → Int → Int → Option Addr → Nat → Nat → Int → Int → World → Prop)
  | 0 => (fun _ _ _ _ _ _ _ _ _ _ _ _ _ _ _ _ _ _ _ _ _ _ _ _ _ _ _ => False, fun _ _ _ _ _ _ _ _ _ _ _ _ _ _ _ _ _ _ _ _ _ _ _ _ _ _ _ _ => False)
  | fu + 1 => (straightedgelaw16_LuClose.e14 K (straightedgelaw16_LuClose.I K fu).1 (straightedgelaw16_LuClose.I K fu).2, straightedgelaw16_LuClose.e17 K (straightedgelaw16_LuClose.I K fu).1 (straightedgelaw16_LuClose.I K fu).2)
def straightedgelaw16_LuClose.s (fu : Nat) (A0_0p : Option Addr) (A0_0n A0_0c : Nat) (A0_1 : Int) (A0_2 : Int) (A0_3 : Int) (A0_4 : Int) (w : World) (K : Value → World → Prop) : Prop := ∀ (k3 : Nat) (w2 : World), k3 = w.heap.size → k3 < w2.heap.size → Ext w w2 → straightedgelaw16_awake.call [] w2 fun v5 w6 => Stay [k3] w2 w6 ∧ ∃ b7 : Bool, v5 = (.bool b7) ∧ br (!b7) (K (.bool false) w6) (straightedgeref03_Great.call [(.agg ⟨[(.slice A0_0p A0_0n A0_0c), (.int .i64 A0_1), (.int .i64 A0_2), (.int .i64 A0_3), (.int .i64 A0_4)]⟩)] w6 fun v15 w16 => Stay [k3] w6 w16 ∧ ∃ b17 : Bool, v15 = (.bool b17) ∧ br b17 (straightedgelaw16_awake.call [] w16 fun v18 w19 => Stay [k3] w16 w19 ∧ ∃ b20 : Bool, v18 = (.bool b20) ∧ K (.bool b20) w19) (br (decide (A0_2 > 8)) (straightedgelaw16_awake.call [] w16 fun v22 w23 => Stay [k3] w16 w23 ∧ ∃ b24 : Bool, v22 = (.bool b24) ∧ K (.bool b24) w23) (straightedgeref03_Good.call [(.agg ⟨[(.slice A0_0p A0_0n A0_0c), (.int .i64 A0_1), (.int .i64 A0_2), (.int .i64 A0_3), (.int .i64 A0_4)]⟩)] w16 fun v32 w33 => Stay [k3] w16 w33 ∧ ∃ b34 : Bool, v32 = (.bool b34) ∧ br (!b34) (straightedgelaw16_awake.call [] w33 fun v35 w36 => Stay [k3] w33 w36 ∧ ∃ b37 : Bool, v35 = (.bool b37) ∧ K (.bool b37) w36) (straightedgeref03_Of.call [(.agg ⟨[(.slice A0_0p A0_0n A0_0c), (.int .i64 A0_1), (.int .i64 A0_2), (.int .i64 A0_3), (.int .i64 A0_4)]⟩)] w33 fun v45 w46 => Stay [k3] w33 w46 ∧ ∃ i47 : Int, ∃ i48 : Int, ∃ (a49 : Option Addr) (n50 c51 : Nat), v45 = (.agg ⟨[(.int .i64 i47), (.int .i64 i48), (.slice a49 n50 c51)]⟩) ∧ straightedgeref01_Finite.call [(.slice a49 n50 c51)] w46 fun v52 w53 => Stay [k3] w46 w53 ∧ ∃ b54 : Bool, v52 = (.bool b54) ∧ br (!b54) (straightedgelaw16_awake.call [] w53 fun v55 w56 => Stay [k3] w53 w56 ∧ ∃ b57 : Bool, v55 = (.bool b57) ∧ K (.bool b57) w56) (lu_Factor.call [(.agg ⟨[(.slice A0_0p A0_0n A0_0c), (.int .i64 A0_1), (.int .i64 A0_2), (.int .i64 A0_3), (.int .i64 A0_4)]⟩)] w53 fun v65 w66 => Stay [k3] w53 w66 ∧ ∃ (a67 : Option Addr) (n68 c69 : Nat), ∃ i70 : Int, ∃ i71 : Int, ∃ i72 : Int, ∃ i73 : Int, ∃ (a74 : Option Addr) (n75 c76 : Nat), ∃ i77 : Int, ∃ i78 : Int, v65 = (.tuple ⟨[(.agg ⟨[(.slice a67 n68 c69), (.int .i64 i70), (.int .i64 i71), (.int .i64 i72), (.int .i64 i73), (.slice a74 n75 c76)]⟩), (.int .i64 i77), (.int .i64 i78)]⟩) ∧ ∀ (k81 : Nat) (w80 : World), k81 = w66.heap.size → k81 < w80.heap.size → Ext w66 w80 → ∀ w83 : World, Exc k81 w80 w83 → br (i78 != 0) (br (i78 == 4) (straightedgelaw16_awake.call [] w83 fun v84 w85 => Stay [k81, k3] w83 w85 ∧ ∃ b86 : Bool, v84 = (.bool b86) ∧ K (.bool b86) w85) (br (i78 == 3) (straightedgelaw16_awake.call [] w83 fun v87 w88 => Stay [k81, k3] w83 w88 ∧ ∃ b89 : Bool, v87 = (.bool b89) ∧ K (.bool b89) w88) (K (.bool false) w83))) (straightedgeref03_Good.call [(.agg ⟨[(.slice a67 n68 c69), (.int .i64 i70), (.int .i64 i71), (.int .i64 i72), (.int .i64 i73)]⟩)] w83 fun v97 w98 => Stay [k81, k3] w83 w98 ∧ ∃ b99 : Bool, v97 = (.bool b99) ∧ br (!b99) (K (.bool false) w98) (br (i71 != A0_2) (K (.bool false) w98) (br (i72 != A0_2) (K (.bool false) w98) (br (((n75 : Nat) : Int) != A0_2) (K (.bool false) w98) (straightedgeref16_Piv.call [(.slice a74 n75 c76)] w98 fun v111 w112 => Stay [k81, k3] w98 w112 ∧ ∃ b113 : Bool, v111 = (.bool b113) ∧ br (!b113) (K (.bool false) w112) (straightedgeref03_Of.call [(.agg ⟨[(.slice a67 n68 c69), (.int .i64 i70), (.int .i64 i71), (.int .i64 i72), (.int .i64 i73)]⟩)] w112 fun v121 w122 => Stay [k81, k3] w112 w122 ∧ ∃ i123 : Int, ∃ i124 : Int, ∃ (a125 : Option Addr) (n126 c127 : Nat), v121 = (.agg ⟨[(.int .i64 i123), (.int .i64 i124), (.slice a125 n126 c127)]⟩) ∧ ∀ (k130 : Nat) (w129 : World), k130 = w122.heap.size → k130 < w129.heap.size → Ext w122 w129 → ∀ w132 : World, Exc k130 w129 w132 → straightedgeref01_Finite.call [(.slice a125 n126 c127)] w132 fun v136 w137 => Stay [k130, k81, k3] w132 w137 ∧ ∃ b138 : Bool, v136 = (.bool b138) ∧ br (!b138) (straightedgelaw16_awake.call [] w137 fun v139 w140 => Stay [k130, k81, k3] w137 w140 ∧ ∃ b141 : Bool, v139 = (.bool b141) ∧ K (.bool b141) w140) ((straightedgelaw16_LuClose.I K fu).1 k3 A0_0p A0_0n A0_0c A0_1 A0_2 A0_3 A0_4 k81 a67 n68 c69 i70 i71 i72 i73 a74 n75 c76 k130 i123 i124 a125 n126 c127 0 w137))))))))))))
theorem straightedgelaw16_LuClose.b14_s {K : Value → World → Prop} {x14 : Option Addr → Option Addr → Option Addr → Int → World → Prop} {x17 : Option Addr → Option Addr → Option Addr → Int → Int → World → Prop} {s14 : Nat → Option Addr → Nat → Nat → Int → Int → Int → Int → Nat → Option Addr → Nat → Nat → Int → Int → Int → Int → Option Addr → Nat → Nat → Nat → Int → Int → Option Addr → Nat → Nat → Int → World → Prop} {s17 : Nat → Option Addr → Nat → Nat → Int → Int → Int → Int → Nat → Option Addr → Nat → Nat → Int → Int → Int → Int → Option Addr → Nat → Nat → Nat → Int → Int → Option Addr → Nat → Nat → Int → Int → World → Prop} (i14 : ∀ {q1 : Addr} {y1_0p : Option Addr} {y1_0n y1_0c : Nat} {y1_1 : Int} {y1_2 : Int} {y1_3 : Int} {y1_4 : Int} {q3 : Addr} {y3_0p : Option Addr} {y3_0n y3_0c : Nat} {y3_1 : Int} {y3_2 : Int} {y3_3 : Int} {y3_4 : Int} {y3_5p : Option Addr} {y3_5n y3_5c : Nat} {q6 : Addr} {y6_0 : Int} {y6_1 : Int} {y6_2p : Option Addr} {y6_2n y6_2c : Nat} {z7 : Int} {w : World}, s14 q1.block y1_0p y1_0n y1_0c y1_1 y1_2 y1_3 y1_4 q3.block y3_0p y3_0n y3_0c y3_1 y3_2 y3_3 y3_4 y3_5p y3_5n y3_5c q6.block y6_0 y6_1 y6_2p y6_2n y6_2c z7 w → St w [(q1, [(.slice y1_0p y1_0n y1_0c), (.int .i64 y1_1), (.int .i64 y1_2), (.int .i64 y1_3), (.int .i64 y1_4)]), (q3, [(.slice y3_0p y3_0n y3_0c), (.int .i64 y3_1), (.int .i64 y3_2), (.int .i64 y3_3), (.int .i64 y3_4), (.slice y3_5p y3_5n y3_5c)]), (q6, [(.int .i64 y6_0), (.int .i64 y6_1), (.slice y6_2p y6_2n y6_2c)])] → x14 (some q1) (some q3) (some q6) z7 w) (i17 : ∀ {q1 : Addr} {y1_0p : Option Addr} {y1_0n y1_0c : Nat} {y1_1 : Int} {y1_2 : Int} {y1_3 : Int} {y1_4 : Int} {q3 : Addr} {y3_0p : Option Addr} {y3_0n y3_0c : Nat} {y3_1 : Int} {y3_2 : Int} {y3_3 : Int} {y3_4 : Int} {y3_5p : Option Addr} {y3_5n y3_5c : Nat} {q6 : Addr} {y6_0 : Int} {y6_1 : Int} {y6_2p : Option Addr} {y6_2n y6_2c : Nat} {z7 : Int} {z8 : Int} {w : World}, s17 q1.block y1_0p y1_0n y1_0c y1_1 y1_2 y1_3 y1_4 q3.block y3_0p y3_0n y3_0c y3_1 y3_2 y3_3 y3_4 y3_5p y3_5n y3_5c q6.block y6_0 y6_1 y6_2p y6_2n y6_2c z7 z8 w → St w [(q1, [(.slice y1_0p y1_0n y1_0c), (.int .i64 y1_1), (.int .i64 y1_2), (.int .i64 y1_3), (.int .i64 y1_4)]), (q3, [(.slice y3_0p y3_0n y3_0c), (.int .i64 y3_1), (.int .i64 y3_2), (.int .i64 y3_3), (.int .i64 y3_4), (.slice y3_5p y3_5n y3_5c)]), (q6, [(.int .i64 y6_0), (.int .i64 y6_1), (.slice y6_2p y6_2n y6_2c)])] → x17 (some q1) (some q3) (some q6) z7 z8 w) {q1 : Addr} {y1_0p : Option Addr} {y1_0n y1_0c : Nat} {y1_1 : Int} {y1_2 : Int} {y1_3 : Int} {y1_4 : Int} {q3 : Addr} {y3_0p : Option Addr} {y3_0n y3_0c : Nat} {y3_1 : Int} {y3_2 : Int} {y3_3 : Int} {y3_4 : Int} {y3_5p : Option Addr} {y3_5n y3_5c : Nat} {q6 : Addr} {y6_0 : Int} {y6_1 : Int} {y6_2p : Option Addr} {y6_2n y6_2c : Nat} {z7 : Int} {w : World} (h : straightedgelaw16_LuClose.e14 K s14 s17 q1.block y1_0p y1_0n y1_0c y1_1 y1_2 y1_3 y1_4 q3.block y3_0p y3_0n y3_0c y3_1 y3_2 y3_3 y3_4 y3_5p y3_5n y3_5c q6.block y6_0 y6_1 y6_2p y6_2n y6_2c z7 w) (st : St w [(q1, [(.slice y1_0p y1_0n y1_0c), (.int .i64 y1_1), (.int .i64 y1_2), (.int .i64 y1_3), (.int .i64 y1_4)]), (q3, [(.slice y3_0p y3_0n y3_0c), (.int .i64 y3_1), (.int .i64 y3_2), (.int .i64 y3_3), (.int .i64 y3_4), (.slice y3_5p y3_5n y3_5c)]), (q6, [(.int .i64 y6_0), (.int .i64 y6_1), (.slice y6_2p y6_2n y6_2c)])]) : straightedgelaw16_LuClose.b14 K x14 x17 (some q1) (some q3) (some q6) z7 w := by
  unfold straightedgelaw16_LuClose.b14
  unfold straightedgelaw16_LuClose.e14 at h
  refine ptrSome_intro rfl ?_
  refine rd_i64.bx 2 0 st rfl rfl rfl ?_
  refine br_mono (fun h => ?_) (fun h => ?_) h
  · exact i17 h (st.pick [0, 1, 2] (by decide))
  · replace st := st.drew
    have st3 := st
    refine ptrSome_intro rfl ?_
    refine rd_l_i64_i64_i64_i64.bx 0 0 st3 rfl rfl rfl rfl rfl rfl rfl ?_
    refine ptrSome_intro rfl ?_
    refine rd_i64_i64_l.bx 2 0 st3 rfl rfl rfl rfl rfl ?_
    refine ptrSome_intro rfl ?_
    refine rd_l.bx 1 5 st3 rfl rfl rfl ?_
    refine CallF.mono h (fun v22 w23 h => ?_)
    obtain ⟨hK, h⟩ := h
    replace st := st.stay hK
    obtain ⟨i24, i25, a26, n27, c28, h⟩ := h
    refine ⟨i24, i25, a26, n27, c28, ?_⟩
    refine And.imp_right (fun h => ?_) h
    refine And.imp_right (fun h => ?_) h
    refine CallF.mono h (fun v29 w30 h => ?_)
    obtain ⟨hK, h⟩ := h
    replace st := st.stay hK
    obtain ⟨b31, h⟩ := h
    refine ⟨b31, ?_⟩
    refine And.imp_right (fun h => ?_) h
    refine br_mono (fun h => ?_) (fun h => ?_) h
    · refine CallF.mono h (fun v32 w33 h => ?_)
      obtain ⟨hK, h⟩ := h
      replace st := st.stay hK
      exact h
    · exact h
theorem straightedgelaw16_LuClose.b17_s {K : Value → World → Prop} {x14 : Option Addr → Option Addr → Option Addr → Int → World → Prop} {x17 : Option Addr → Option Addr → Option Addr → Int → Int → World → Prop} {s14 : Nat → Option Addr → Nat → Nat → Int → Int → Int → Int → Nat → Option Addr → Nat → Nat → Int → Int → Int → Int → Option Addr → Nat → Nat → Nat → Int → Int → Option Addr → Nat → Nat → Int → World → Prop} {s17 : Nat → Option Addr → Nat → Nat → Int → Int → Int → Int → Nat → Option Addr → Nat → Nat → Int → Int → Int → Int → Option Addr → Nat → Nat → Nat → Int → Int → Option Addr → Nat → Nat → Int → Int → World → Prop} (i14 : ∀ {q1 : Addr} {y1_0p : Option Addr} {y1_0n y1_0c : Nat} {y1_1 : Int} {y1_2 : Int} {y1_3 : Int} {y1_4 : Int} {q3 : Addr} {y3_0p : Option Addr} {y3_0n y3_0c : Nat} {y3_1 : Int} {y3_2 : Int} {y3_3 : Int} {y3_4 : Int} {y3_5p : Option Addr} {y3_5n y3_5c : Nat} {q6 : Addr} {y6_0 : Int} {y6_1 : Int} {y6_2p : Option Addr} {y6_2n y6_2c : Nat} {z7 : Int} {w : World}, s14 q1.block y1_0p y1_0n y1_0c y1_1 y1_2 y1_3 y1_4 q3.block y3_0p y3_0n y3_0c y3_1 y3_2 y3_3 y3_4 y3_5p y3_5n y3_5c q6.block y6_0 y6_1 y6_2p y6_2n y6_2c z7 w → St w [(q1, [(.slice y1_0p y1_0n y1_0c), (.int .i64 y1_1), (.int .i64 y1_2), (.int .i64 y1_3), (.int .i64 y1_4)]), (q3, [(.slice y3_0p y3_0n y3_0c), (.int .i64 y3_1), (.int .i64 y3_2), (.int .i64 y3_3), (.int .i64 y3_4), (.slice y3_5p y3_5n y3_5c)]), (q6, [(.int .i64 y6_0), (.int .i64 y6_1), (.slice y6_2p y6_2n y6_2c)])] → x14 (some q1) (some q3) (some q6) z7 w) (i17 : ∀ {q1 : Addr} {y1_0p : Option Addr} {y1_0n y1_0c : Nat} {y1_1 : Int} {y1_2 : Int} {y1_3 : Int} {y1_4 : Int} {q3 : Addr} {y3_0p : Option Addr} {y3_0n y3_0c : Nat} {y3_1 : Int} {y3_2 : Int} {y3_3 : Int} {y3_4 : Int} {y3_5p : Option Addr} {y3_5n y3_5c : Nat} {q6 : Addr} {y6_0 : Int} {y6_1 : Int} {y6_2p : Option Addr} {y6_2n y6_2c : Nat} {z7 : Int} {z8 : Int} {w : World}, s17 q1.block y1_0p y1_0n y1_0c y1_1 y1_2 y1_3 y1_4 q3.block y3_0p y3_0n y3_0c y3_1 y3_2 y3_3 y3_4 y3_5p y3_5n y3_5c q6.block y6_0 y6_1 y6_2p y6_2n y6_2c z7 z8 w → St w [(q1, [(.slice y1_0p y1_0n y1_0c), (.int .i64 y1_1), (.int .i64 y1_2), (.int .i64 y1_3), (.int .i64 y1_4)]), (q3, [(.slice y3_0p y3_0n y3_0c), (.int .i64 y3_1), (.int .i64 y3_2), (.int .i64 y3_3), (.int .i64 y3_4), (.slice y3_5p y3_5n y3_5c)]), (q6, [(.int .i64 y6_0), (.int .i64 y6_1), (.slice y6_2p y6_2n y6_2c)])] → x17 (some q1) (some q3) (some q6) z7 z8 w) {q1 : Addr} {y1_0p : Option Addr} {y1_0n y1_0c : Nat} {y1_1 : Int} {y1_2 : Int} {y1_3 : Int} {y1_4 : Int} {q3 : Addr} {y3_0p : Option Addr} {y3_0n y3_0c : Nat} {y3_1 : Int} {y3_2 : Int} {y3_3 : Int} {y3_4 : Int} {y3_5p : Option Addr} {y3_5n y3_5c : Nat} {q6 : Addr} {y6_0 : Int} {y6_1 : Int} {y6_2p : Option Addr} {y6_2n y6_2c : Nat} {z7 : Int} {z8 : Int} {w : World} (h : straightedgelaw16_LuClose.e17 K s14 s17 q1.block y1_0p y1_0n y1_0c y1_1 y1_2 y1_3 y1_4 q3.block y3_0p y3_0n y3_0c y3_1 y3_2 y3_3 y3_4 y3_5p y3_5n y3_5c q6.block y6_0 y6_1 y6_2p y6_2n y6_2c z7 z8 w) (st : St w [(q1, [(.slice y1_0p y1_0n y1_0c), (.int .i64 y1_1), (.int .i64 y1_2), (.int .i64 y1_3), (.int .i64 y1_4)]), (q3, [(.slice y3_0p y3_0n y3_0c), (.int .i64 y3_1), (.int .i64 y3_2), (.int .i64 y3_3), (.int .i64 y3_4), (.slice y3_5p y3_5n y3_5c)]), (q6, [(.int .i64 y6_0), (.int .i64 y6_1), (.slice y6_2p y6_2n y6_2c)])]) : straightedgelaw16_LuClose.b17 K x14 x17 (some q1) (some q3) (some q6) z7 z8 w := by
  unfold straightedgelaw16_LuClose.b17
  unfold straightedgelaw16_LuClose.e17 at h
  refine br_mono (fun h => ?_) (fun h => ?_) h
  · refine ptrSome_intro rfl ?_
    refine rd_i64_i64_l.bx 2 0 st rfl rfl rfl rfl rfl ?_
    refine CallF.mono h (fun v7 w8 h => ?_)
    obtain ⟨hK, h⟩ := h
    replace st := st.stay hK
    obtain ⟨x9, h⟩ := h
    refine ⟨x9, ?_⟩
    refine And.imp_right (fun h => ?_) h
    refine CallF.mono h (fun v10 w11 h => ?_)
    obtain ⟨hK, h⟩ := h
    replace st := st.stay hK
    obtain ⟨x12, h⟩ := h
    refine ⟨x12, ?_⟩
    refine And.imp_right (fun h => ?_) h
    refine br_mono (fun h => ?_) (fun h => ?_) h
    · exact h
    · exact i17 h (st.pick [0, 1, 2] (by decide))
  · exact i14 h (st.pick [0, 1, 2] (by decide))
theorem straightedgelaw16_LuClose.H_s {K : Value → World → Prop} (fu : Nat) : (∀ {q1 : Addr} {y1_0p : Option Addr} {y1_0n y1_0c : Nat} {y1_1 : Int} {y1_2 : Int} {y1_3 : Int} {y1_4 : Int} {q3 : Addr} {y3_0p : Option Addr} {y3_0n y3_0c : Nat} {y3_1 : Int} {y3_2 : Int} {y3_3 : Int} {y3_4 : Int} {y3_5p : Option Addr} {y3_5n y3_5c : Nat} {q6 : Addr} {y6_0 : Int} {y6_1 : Int} {y6_2p : Option Addr} {y6_2n y6_2c : Nat} {z7 : Int} {w : World}, (straightedgelaw16_LuClose.I K fu).1 q1.block y1_0p y1_0n y1_0c y1_1 y1_2 y1_3 y1_4 q3.block y3_0p y3_0n y3_0c y3_1 y3_2 y3_3 y3_4 y3_5p y3_5n y3_5c q6.block y6_0 y6_1 y6_2p y6_2n y6_2c z7 w → St w [(q1, [(.slice y1_0p y1_0n y1_0c), (.int .i64 y1_1), (.int .i64 y1_2), (.int .i64 y1_3), (.int .i64 y1_4)]), (q3, [(.slice y3_0p y3_0n y3_0c), (.int .i64 y3_1), (.int .i64 y3_2), (.int .i64 y3_3), (.int .i64 y3_4), (.slice y3_5p y3_5n y3_5c)]), (q6, [(.int .i64 y6_0), (.int .i64 y6_1), (.slice y6_2p y6_2n y6_2c)])] → (straightedgelaw16_LuClose.H K fu).1 (some q1) (some q3) (some q6) z7 w) ∧ (∀ {q1 : Addr} {y1_0p : Option Addr} {y1_0n y1_0c : Nat} {y1_1 : Int} {y1_2 : Int} {y1_3 : Int} {y1_4 : Int} {q3 : Addr} {y3_0p : Option Addr} {y3_0n y3_0c : Nat} {y3_1 : Int} {y3_2 : Int} {y3_3 : Int} {y3_4 : Int} {y3_5p : Option Addr} {y3_5n y3_5c : Nat} {q6 : Addr} {y6_0 : Int} {y6_1 : Int} {y6_2p : Option Addr} {y6_2n y6_2c : Nat} {z7 : Int} {z8 : Int} {w : World}, (straightedgelaw16_LuClose.I K fu).2 q1.block y1_0p y1_0n y1_0c y1_1 y1_2 y1_3 y1_4 q3.block y3_0p y3_0n y3_0c y3_1 y3_2 y3_3 y3_4 y3_5p y3_5n y3_5c q6.block y6_0 y6_1 y6_2p y6_2n y6_2c z7 z8 w → St w [(q1, [(.slice y1_0p y1_0n y1_0c), (.int .i64 y1_1), (.int .i64 y1_2), (.int .i64 y1_3), (.int .i64 y1_4)]), (q3, [(.slice y3_0p y3_0n y3_0c), (.int .i64 y3_1), (.int .i64 y3_2), (.int .i64 y3_3), (.int .i64 y3_4), (.slice y3_5p y3_5n y3_5c)]), (q6, [(.int .i64 y6_0), (.int .i64 y6_1), (.slice y6_2p y6_2n y6_2c)])] → (straightedgelaw16_LuClose.H K fu).2 (some q1) (some q3) (some q6) z7 z8 w) := by
  induction fu with
  | zero => exact ⟨fun h _ => False.elim h, fun h _ => False.elim h⟩
  | succ fu ih => exact ⟨fun h st => straightedgelaw16_LuClose.b14_s (K := K) (x14 := (straightedgelaw16_LuClose.H K fu).1) (s14 := (straightedgelaw16_LuClose.I K fu).1) (x17 := (straightedgelaw16_LuClose.H K fu).2) (s17 := (straightedgelaw16_LuClose.I K fu).2) ih.1 ih.2 h st, fun h st => straightedgelaw16_LuClose.b17_s (K := K) (x14 := (straightedgelaw16_LuClose.H K fu).1) (s14 := (straightedgelaw16_LuClose.I K fu).1) (x17 := (straightedgelaw16_LuClose.H K fu).2) (s17 := (straightedgelaw16_LuClose.I K fu).2) ih.1 ih.2 h st⟩
theorem straightedgelaw16_LuClose.os (fu : Nat) {A0_0p : Option Addr} {A0_0n A0_0c : Nat} {A0_1 : Int} {A0_2 : Int} {A0_3 : Int} {A0_4 : Int} {w : World} {K : Value → World → Prop} (h : straightedgelaw16_LuClose.s fu A0_0p A0_0n A0_0c A0_1 A0_2 A0_3 A0_4 w K) : straightedgelaw16_LuClose.call [(.agg ⟨[(.slice A0_0p A0_0n A0_0c), (.int .i64 A0_1), (.int .i64 A0_2), (.int .i64 A0_3), (.int .i64 A0_4)]⟩)] w K := by
  refine straightedgelaw16_LuClose.ok fu ?_
  have st := St.nil w
  unfold straightedgelaw16_LuClose.x
  unfold straightedgelaw16_LuClose.s at h
  refine St.new (St.nil _) (fun q1 w2 hk hlt he st => ?_)
  replace h := h q1.block w2 hk hlt he
  refine CallF.mono h (fun v5 w6 h => ?_)
  obtain ⟨hK, h⟩ := h
  replace st := st.stay hK
  obtain ⟨b7, h⟩ := h
  refine ⟨b7, ?_⟩
  refine And.imp_right (fun h => ?_) h
  refine br_mono (fun h => ?_) (fun h => ?_) h
  · exact h
  · refine rd_l_i64_i64_i64_i64.bx 0 0 st rfl rfl rfl rfl rfl rfl rfl ?_
    refine CallF.mono h (fun v15 w16 h => ?_)
    obtain ⟨hK, h⟩ := h
    replace st := st.stay hK
    obtain ⟨b17, h⟩ := h
    refine ⟨b17, ?_⟩
    refine And.imp_right (fun h => ?_) h
    refine br_mono (fun h => ?_) (fun h => ?_) h
    · refine CallF.mono h (fun v18 w19 h => ?_)
      obtain ⟨hK, h⟩ := h
      replace st := st.stay hK
      exact h
    · refine rd_i64.bx 0 2 st rfl rfl rfl ?_
      refine br_mono (fun h => ?_) (fun h => ?_) h
      · refine CallF.mono h (fun v22 w23 h => ?_)
        obtain ⟨hK, h⟩ := h
        replace st := st.stay hK
        exact h
      · refine rd_l_i64_i64_i64_i64.bx 0 0 st rfl rfl rfl rfl rfl rfl rfl ?_
        refine CallF.mono h (fun v32 w33 h => ?_)
        obtain ⟨hK, h⟩ := h
        replace st := st.stay hK
        obtain ⟨b34, h⟩ := h
        refine ⟨b34, ?_⟩
        refine And.imp_right (fun h => ?_) h
        refine br_mono (fun h => ?_) (fun h => ?_) h
        · refine CallF.mono h (fun v35 w36 h => ?_)
          obtain ⟨hK, h⟩ := h
          replace st := st.stay hK
          exact h
        · refine rd_l_i64_i64_i64_i64.bx 0 0 st rfl rfl rfl rfl rfl rfl rfl ?_
          refine CallF.mono h (fun v45 w46 h => ?_)
          obtain ⟨hK, h⟩ := h
          replace st := st.stay hK
          obtain ⟨i47, i48, a49, n50, c51, h⟩ := h
          refine ⟨i47, i48, a49, n50, c51, ?_⟩
          refine And.imp_right (fun h => ?_) h
          refine CallF.mono h (fun v52 w53 h => ?_)
          obtain ⟨hK, h⟩ := h
          replace st := st.stay hK
          obtain ⟨b54, h⟩ := h
          refine ⟨b54, ?_⟩
          refine And.imp_right (fun h => ?_) h
          refine br_mono (fun h => ?_) (fun h => ?_) h
          · refine CallF.mono h (fun v55 w56 h => ?_)
            obtain ⟨hK, h⟩ := h
            replace st := st.stay hK
            exact h
          · refine rd_l_i64_i64_i64_i64.bx 0 0 st rfl rfl rfl rfl rfl rfl rfl ?_
            refine CallF.mono h (fun v65 w66 h => ?_)
            obtain ⟨hK, h⟩ := h
            replace st := st.stay hK
            obtain ⟨a67, n68, c69, i70, i71, i72, i73, a74, n75, c76, i77, i78, h⟩ := h
            refine ⟨a67, n68, c69, i70, i71, i72, i73, a74, n75, c76, i77, i78, ?_⟩
            refine And.imp_right (fun h => ?_) h
            refine St.new st (fun q79 w80 hk hlt he st => ?_)
            replace h := h q79.block w80 hk hlt he
            refine St.put 0 0 st rfl rfl rfl rfl (fun w83 he st => ?_)
            replace h := h w83 he
            refine br_mono (fun h => ?_) (fun h => ?_) h
            · refine br_mono (fun h => ?_) (fun h => ?_) h
              · refine CallF.mono h (fun v84 w85 h => ?_)
                obtain ⟨hK, h⟩ := h
                replace st := st.stay hK
                exact h
              · refine br_mono (fun h => ?_) (fun h => ?_) h
                · refine CallF.mono h (fun v87 w88 h => ?_)
                  obtain ⟨hK, h⟩ := h
                  replace st := st.stay hK
                  exact h
                · exact h
            · refine rd_l_i64_i64_i64_i64.bx 0 0 st rfl rfl rfl rfl rfl rfl rfl ?_
              refine CallF.mono h (fun v97 w98 h => ?_)
              obtain ⟨hK, h⟩ := h
              replace st := st.stay hK
              obtain ⟨b99, h⟩ := h
              refine ⟨b99, ?_⟩
              refine And.imp_right (fun h => ?_) h
              refine br_mono (fun h => ?_) (fun h => ?_) h
              · exact h
              · refine rd_i64.bx 0 2 st rfl rfl rfl ?_
                refine rd_i64.bx 1 2 st rfl rfl rfl ?_
                refine br_mono (fun h => ?_) (fun h => ?_) h
                · exact h
                · refine rd_i64.bx 0 3 st rfl rfl rfl ?_
                  refine rd_i64.bx 1 2 st rfl rfl rfl ?_
                  refine br_mono (fun h => ?_) (fun h => ?_) h
                  · exact h
                  · refine rd_l.bx 0 5 st rfl rfl rfl ?_
                    refine rd_i64.bx 1 2 st rfl rfl rfl ?_
                    refine br_mono (fun h => ?_) (fun h => ?_) h
                    · exact h
                    · refine rd_l.bx 0 5 st rfl rfl rfl ?_
                      refine CallF.mono h (fun v111 w112 h => ?_)
                      obtain ⟨hK, h⟩ := h
                      replace st := st.stay hK
                      obtain ⟨b113, h⟩ := h
                      refine ⟨b113, ?_⟩
                      refine And.imp_right (fun h => ?_) h
                      refine br_mono (fun h => ?_) (fun h => ?_) h
                      · exact h
                      · refine rd_l_i64_i64_i64_i64.bx 0 0 st rfl rfl rfl rfl rfl rfl rfl ?_
                        refine CallF.mono h (fun v121 w122 h => ?_)
                        obtain ⟨hK, h⟩ := h
                        replace st := st.stay hK
                        obtain ⟨i123, i124, a125, n126, c127, h⟩ := h
                        refine ⟨i123, i124, a125, n126, c127, ?_⟩
                        refine And.imp_right (fun h => ?_) h
                        refine St.new st (fun q128 w129 hk hlt he st => ?_)
                        replace h := h q128.block w129 hk hlt he
                        refine St.put 0 0 st rfl rfl rfl rfl (fun w132 he st => ?_)
                        replace h := h w132 he
                        refine rd_l.bx 0 2 st rfl rfl rfl ?_
                        refine CallF.mono h (fun v136 w137 h => ?_)
                        obtain ⟨hK, h⟩ := h
                        replace st := st.stay hK
                        obtain ⟨b138, h⟩ := h
                        refine ⟨b138, ?_⟩
                        refine And.imp_right (fun h => ?_) h
                        refine br_mono (fun h => ?_) (fun h => ?_) h
                        · refine CallF.mono h (fun v139 w140 h => ?_)
                          obtain ⟨hK, h⟩ := h
                          replace st := st.stay hK
                          exact h
                        · exact (straightedgelaw16_LuClose.H_s fu).1 h (st.pick [2, 1, 0] (by decide))

/-! ### straightedge/straightedgelaw16.awake: function 5 -/
def straightedgelaw16_awake.x  (w : World) (K : Value → World → Prop) : Prop := newB [(.float .f64 4607182418800017408), (.float .f64 4611686018427387904), (.float .f64 4616189618054758400), (.float .f64 4616189618054758400)] 38 w fun q1 w2 => view_Dense.call [(.int .i64 2), (.int .i64 2), (.slice (some q1) 4 4)] w2 fun v3 w4 => ∃ (a5 : Option Addr) (n6 c7 : Nat), ∃ i8 : Int, ∃ i9 : Int, ∃ i10 : Int, ∃ i11 : Int, v3 = (.agg ⟨[(.slice a5 n6 c7), (.int .i64 i8), (.int .i64 i9), (.int .i64 i10), (.int .i64 i11)]⟩) ∧ lu_Factor.call [(.agg ⟨[(.slice a5 n6 c7), (.int .i64 i8), (.int .i64 i9), (.int .i64 i10), (.int .i64 i11)]⟩)] w4 fun v12 w13 => ∃ (a14 : Option Addr) (n15 c16 : Nat), ∃ i17 : Int, ∃ i18 : Int, ∃ i19 : Int, ∃ i20 : Int, ∃ (a21 : Option Addr) (n22 c23 : Nat), ∃ i24 : Int, ∃ i25 : Int, v12 = (.tuple ⟨[(.agg ⟨[(.slice a14 n15 c16), (.int .i64 i17), (.int .i64 i18), (.int .i64 i19), (.int .i64 i20), (.slice a21 n22 c23)]⟩), (.int .i64 i24), (.int .i64 i25)]⟩) ∧ newB [(.slice none 0 0), (.int .i64 0), (.int .i64 0), (.int .i64 0), (.int .i64 0), (.slice none 0 0)] 33 w13 fun q26 w27 => stPT q26 0 [(.slice a14 n15 c16), (.int .i64 i17), (.int .i64 i18), (.int .i64 i19), (.int .i64 i20), (.slice a21 n22 c23)] w27 fun w28 => br (i25 == 0) (br (i24 == 0) (rd_l w28 (q26.add 5) fun a29 n30 c31 => newB [(.int .i64 1), (.int .i64 1)] 3 w28 fun q32 w33 => straightedgelaw16_ints.call [(.slice a29 n30 c31), (.slice (some q32) 2 2)] w33 fun v34 w35 => ∃ b36 : Bool, v34 = (.bool b36) ∧ br b36 (rd_l w35 q26 fun a37 n38 c39 => newB [(.float .f64 4616189618054758400), (.float .f64 4598175219545276416), (.float .f64 4616189618054758400), (.float .f64 4607182418800017408)] 38 w35 fun q40 w41 => straightedgeref01_All.call [(.slice a37 n38 c39), (.slice (some q40) 4 4)] w41 fun v42 w43 => ∃ b44 : Bool, v42 = (.bool b44) ∧ K (.bool b44) w43) (K (.bool false) w35)) (K (.bool false) w28)) (K (.bool false) w28)
theorem straightedgelaw16_awake.ok  {w : World} {K : Value → World → Prop} (h : straightedgelaw16_awake.x  w K) : straightedgelaw16_awake.call [] w K :=
  callF_of_ex0 (f := Try.f5) Try.func5 rfl mixed (by kernel_rfl) (Eq.mp (by kernel_rfl) h)
/-! the same, the local variables taken out -/
def straightedgelaw16_awake.s  (w : World) (K : Value → World → Prop) : Prop := newB [(.float .f64 4607182418800017408), (.float .f64 4611686018427387904), (.float .f64 4616189618054758400), (.float .f64 4616189618054758400)] 38 w fun q1 w2 => view_Dense.call [(.int .i64 2), (.int .i64 2), (.slice (some q1) 4 4)] w2 fun v3 w4 => ∃ (a5 : Option Addr) (n6 c7 : Nat), ∃ i8 : Int, ∃ i9 : Int, ∃ i10 : Int, ∃ i11 : Int, v3 = (.agg ⟨[(.slice a5 n6 c7), (.int .i64 i8), (.int .i64 i9), (.int .i64 i10), (.int .i64 i11)]⟩) ∧ lu_Factor.call [(.agg ⟨[(.slice a5 n6 c7), (.int .i64 i8), (.int .i64 i9), (.int .i64 i10), (.int .i64 i11)]⟩)] w4 fun v12 w13 => ∃ (a14 : Option Addr) (n15 c16 : Nat), ∃ i17 : Int, ∃ i18 : Int, ∃ i19 : Int, ∃ i20 : Int, ∃ (a21 : Option Addr) (n22 c23 : Nat), ∃ i24 : Int, ∃ i25 : Int, v12 = (.tuple ⟨[(.agg ⟨[(.slice a14 n15 c16), (.int .i64 i17), (.int .i64 i18), (.int .i64 i19), (.int .i64 i20), (.slice a21 n22 c23)]⟩), (.int .i64 i24), (.int .i64 i25)]⟩) ∧ ∀ (k28 : Nat) (w27 : World), k28 = w13.heap.size → k28 < w27.heap.size → Ext w13 w27 → ∀ w30 : World, Exc k28 w27 w30 → br (i25 == 0) (br (i24 == 0) (newB [(.int .i64 1), (.int .i64 1)] 3 w30 fun q34 w35 => straightedgelaw16_ints.call [(.slice a21 n22 c23), (.slice (some q34) 2 2)] w35 fun v36 w37 => Stay [k28] w35 w37 ∧ ∃ b38 : Bool, v36 = (.bool b38) ∧ br b38 (newB [(.float .f64 4616189618054758400), (.float .f64 4598175219545276416), (.float .f64 4616189618054758400), (.float .f64 4607182418800017408)] 38 w37 fun q42 w43 => straightedgeref01_All.call [(.slice a14 n15 c16), (.slice (some q42) 4 4)] w43 fun v44 w45 => Stay [k28] w43 w45 ∧ ∃ b46 : Bool, v44 = (.bool b46) ∧ K (.bool b46) w45) (K (.bool false) w37)) (K (.bool false) w30)) (K (.bool false) w30)
theorem straightedgelaw16_awake.os  {w : World} {K : Value → World → Prop} (h : straightedgelaw16_awake.s  w K) : straightedgelaw16_awake.call [] w K := by
  refine straightedgelaw16_awake.ok ?_
  have st := St.nil w
  unfold straightedgelaw16_awake.x
  unfold straightedgelaw16_awake.s at h
  refine newB_mono (St.nil _) h (fun q1 w2 st h => ?_)
  refine CallF.mono h (fun v3 w4 h => ?_)
  obtain ⟨a5, n6, c7, i8, i9, i10, i11, h⟩ := h
  refine ⟨a5, n6, c7, i8, i9, i10, i11, ?_⟩
  refine And.imp_right (fun h => ?_) h
  refine CallF.mono h (fun v12 w13 h => ?_)
  obtain ⟨a14, n15, c16, i17, i18, i19, i20, a21, n22, c23, i24, i25, h⟩ := h
  refine ⟨a14, n15, c16, i17, i18, i19, i20, a21, n22, c23, i24, i25, ?_⟩
  refine And.imp_right (fun h => ?_) h
  refine St.new (St.nil _) (fun q26 w27 hk hlt he st => ?_)
  replace h := h q26.block w27 hk hlt he
  refine St.put 0 0 st rfl rfl rfl rfl (fun w30 he st => ?_)
  replace h := h w30 he
  refine br_mono (fun h => ?_) (fun h => ?_) h
  · refine br_mono (fun h => ?_) (fun h => ?_) h
    · refine rd_l.bx 0 5 st rfl rfl rfl ?_
      refine newB_mono st h (fun q34 w35 st h => ?_)
      refine CallF.mono h (fun v36 w37 h => ?_)
      obtain ⟨hK, h⟩ := h
      replace st := st.stay hK
      obtain ⟨b38, h⟩ := h
      refine ⟨b38, ?_⟩
      refine And.imp_right (fun h => ?_) h
      refine br_mono (fun h => ?_) (fun h => ?_) h
      · refine rd_l.bx 0 0 st rfl rfl rfl ?_
        refine newB_mono st h (fun q42 w43 st h => ?_)
        refine CallF.mono h (fun v44 w45 h => ?_)
        obtain ⟨hK, h⟩ := h
        replace st := st.stay hK
        exact h
      · exact h
    · exact h
  · exact h

/-! ### straightedge/straightedgelaw16.closeTo: function 14 -/
def straightedgelaw16_closeTo.b5 (K : Value → World → Prop) (h5 : Option Addr → Option Addr → Option Addr → Option Addr → Option Addr → Nat → Nat → Option Addr → Int → World → Prop) (h8 : Option Addr → Option Addr → Option Addr → Option Addr → Option Addr → Nat → Nat → Option Addr → Int → Int → World → Prop) (h12 : Option Addr → Option Addr → Option Addr → Option Addr → Option Addr → Nat → Nat → Option Addr → Int → Int → Option Addr → Option Addr → Int → World → Prop) (h15 : Option Addr → Option Addr → Option Addr → Option Addr → Option Addr → Nat → Nat → Option Addr → Int → Int → Option Addr → Option Addr → Int → Option Addr → World → Prop) (h18 : Option Addr → Option Addr → Option Addr → Option Addr → Option Addr → Nat → Nat → Option Addr → Int → Int → Option Addr → Option Addr → World → Prop) (z3 : Option Addr) (z4 : Option Addr) (z7 : Option Addr) (z8 : Option Addr) (z9p : Option Addr) (z9n z9c : Nat) (z10 : Option Addr) (z11 : Int) (w : World) : Prop := ptrSome z4 fun q1 => rd_i64 w q1 fun i2 => br (decide (z11 < i2)) (h8 z3 z4 z7 z8 z9p z9n z9c z10 z11 0 w) (K (.bool true) w)
def straightedgelaw16_closeTo.b8 (K : Value → World → Prop) (h5 : Option Addr → Option Addr → Option Addr → Option Addr → Option Addr → Nat → Nat → Option Addr → Int → World → Prop) (h8 : Option Addr → Option Addr → Option Addr → Option Addr → Option Addr → Nat → Nat → Option Addr → Int → Int → World → Prop) (h12 : Option Addr → Option Addr → Option Addr → Option Addr → Option Addr → Nat → Nat → Option Addr → Int → Int → Option Addr → Option Addr → Int → World → Prop) (h15 : Option Addr → Option Addr → Option Addr → Option Addr → Option Addr → Nat → Nat → Option Addr → Int → Int → Option Addr → Option Addr → Int → Option Addr → World → Prop) (h18 : Option Addr → Option Addr → Option Addr → Option Addr → Option Addr → Nat → Nat → Option Addr → Int → Int → Option Addr → Option Addr → World → Prop) (z3 : Option Addr) (z4 : Option Addr) (z7 : Option Addr) (z8 : Option Addr) (z9p : Option Addr) (z9n z9c : Nat) (z10 : Option Addr) (z11 : Int) (z12 : Int) (w : World) : Prop := ptrSome z4 fun q1 => rd_i64 w q1 fun i2 => br (decide (z12 < i2)) (newB [(.bool false), (.slice none 0 0), (.int .i64 0)] 45 w fun q3 w4 => newB [(.bool false), (.slice none 0 0), (.int .i64 0)] 45 w4 fun q5 w6 => stPT q3 0 [(.bool false), (.slice none 0 0), (.int .i64 0)] w6 fun w7 => stPT q5 0 [(.bool false), (.slice none 0 0), (.int .i64 0)] w7 fun w8 => h12 z3 z4 z7 z8 z9p z9n z9c z10 z11 z12 (some q3) (some q5) 0 w8) (h5 z3 z4 z7 z8 z9p z9n z9c z10 (IntKind.i64.wrap (z11 + 1)) w)
def straightedgelaw16_closeTo.b12 (K : Value → World → Prop) (h5 : Option Addr → Option Addr → Option Addr → Option Addr → Option Addr → Nat → Nat → Option Addr → Int → World → Prop) (h8 : Option Addr → Option Addr → Option Addr → Option Addr → Option Addr → Nat → Nat → Option Addr → Int → Int → World → Prop) (h12 : Option Addr → Option Addr → Option Addr → Option Addr → Option Addr → Nat → Nat → Option Addr → Int → Int → Option Addr → Option Addr → Int → World → Prop) (h15 : Option Addr → Option Addr → Option Addr → Option Addr → Option Addr → Nat → Nat → Option Addr → Int → Int → Option Addr → Option Addr → Int → Option Addr → World → Prop) (h18 : Option Addr → Option Addr → Option Addr → Option Addr → Option Addr → Nat → Nat → Option Addr → Int → Int → Option Addr → Option Addr → World → Prop) (z3 : Option Addr) (z4 : Option Addr) (z7 : Option Addr) (z8 : Option Addr) (z9p : Option Addr) (z9n z9c : Nat) (z10 : Option Addr) (z11 : Int) (z12 : Int) (z13 : Option Addr) (z14 : Option Addr) (z15 : Int) (w : World) : Prop := br (decide (z15 ≤ (if z12 < z11 then z12 else z11))) (ptrSome z7 fun q2 => rd_i64_i64_l w.drew q2 fun i3 i4 a5 n6 c7 => ptrSome z8 fun q8 => rd_i64_i64_l w.drew q8 fun i9 i10 a11 n12 c13 => (straightedgeref03_M_At.call [(.agg ⟨[(.int .i64 i3), (.int .i64 i4), (.slice a5 n6 c7)]⟩), (.int .i64 z11), (.int .i64 z15)] w.drew fun v14 w15 => ∃ x16 : Nat, v14 = (.float .f64 x16) ∧ Kept w.drew w15 ∧ (straightedgeref02_Of.call [(.float .f64 x16)] w15 fun v17 w18 => ∃ b19 : Bool, ∃ (a20 : Option Addr) (n21 c22 : Nat), ∃ i23 : Int, v17 = (.agg ⟨[(.bool b19), (.slice a20 n21 c22), (.int .i64 i23)]⟩) ∧ Kept w15 w18 ∧ (straightedgeref03_M_At.call [(.agg ⟨[(.int .i64 i9), (.int .i64 i10), (.slice a11 n12 c13)]⟩), (.int .i64 z15), (.int .i64 z12)] w18 fun v24 w25 => ∃ x26 : Nat, v24 = (.float .f64 x26) ∧ (straightedgeref02_Of.call [(.float .f64 x26)] w25 fun v27 w28 => ∃ b29 : Bool, ∃ (a30 : Option Addr) (n31 c32 : Nat), ∃ i33 : Int, v27 = (.agg ⟨[(.bool b29), (.slice a30 n31 c32), (.int .i64 i33)]⟩) ∧ (straightedgeref02_D_Mul.call [(.agg ⟨[(.bool b19), (.slice a20 n21 c22), (.int .i64 i23)]⟩), (.agg ⟨[(.bool b29), (.slice a30 n31 c32), (.int .i64 i33)]⟩)] w28 fun v34 w35 => ∃ b36 : Bool, ∃ (a37 : Option Addr) (n38 c39 : Nat), ∃ i40 : Int, v34 = (.agg ⟨[(.bool b36), (.slice a37 n38 c39), (.int .i64 i40)]⟩) ∧ newB [(.bool false), (.slice none 0 0), (.int .i64 0)] 45 w35 fun q41 w42 => Kept w35 w42 ∧ stPT q41 0 [(.bool b36), (.slice a37 n38 c39), (.int .i64 i40)] w42 fun w43 => h15 z3 z4 z7 z8 z9p z9n z9c z10 z11 z12 z13 z14 z15 (some q41) w43) ∧ (newB [(.bool false), (.slice none 0 0), (.int .i64 0)] 45 w28 fun q44 w45 => Kept w28 w45 ∧ straightedgeref02_D_Mul.call [(.agg ⟨[(.bool b19), (.slice a20 n21 c22), (.int .i64 i23)]⟩), (.agg ⟨[(.bool b29), (.slice a30 n31 c32), (.int .i64 i33)]⟩)] w45 fun v46 w47 => ∃ b48 : Bool, ∃ (a49 : Option Addr) (n50 c51 : Nat), ∃ i52 : Int, v46 = (.agg ⟨[(.bool b48), (.slice a49 n50 c51), (.int .i64 i52)]⟩) ∧ stPT q44 0 [(.bool b48), (.slice a49 n50 c51), (.int .i64 i52)] w47 fun w53 => h15 z3 z4 z7 z8 z9p z9n z9c z10 z11 z12 z13 z14 z15 (some q44) w53)) ∧ (newB [(.bool false), (.slice none 0 0), (.int .i64 0)] 45 w25 fun q54 w55 => Kept w25 w55 ∧ straightedgeref02_Of.call [(.float .f64 x26)] w55 fun v56 w57 => ∃ b58 : Bool, ∃ (a59 : Option Addr) (n60 c61 : Nat), ∃ i62 : Int, v56 = (.agg ⟨[(.bool b58), (.slice a59 n60 c61), (.int .i64 i62)]⟩) ∧ straightedgeref02_D_Mul.call [(.agg ⟨[(.bool b19), (.slice a20 n21 c22), (.int .i64 i23)]⟩), (.agg ⟨[(.bool b58), (.slice a59 n60 c61), (.int .i64 i62)]⟩)] w57 fun v63 w64 => ∃ b65 : Bool, ∃ (a66 : Option Addr) (n67 c68 : Nat), ∃ i69 : Int, v63 = (.agg ⟨[(.bool b65), (.slice a66 n67 c68), (.int .i64 i69)]⟩) ∧ stPT q54 0 [(.bool b65), (.slice a66 n67 c68), (.int .i64 i69)] w64 fun w70 => h15 z3 z4 z7 z8 z9p z9n z9c z10 z11 z12 z13 z14 z15 (some q54) w70)) ∧ (newB [(.bool false), (.slice none 0 0), (.int .i64 0)] 45 w18 fun q71 w72 => Kept w18 w72 ∧ straightedgeref03_M_At.call [(.agg ⟨[(.int .i64 i9), (.int .i64 i10), (.slice a11 n12 c13)]⟩), (.int .i64 z15), (.int .i64 z12)] w72 fun v73 w74 => ∃ x75 : Nat, v73 = (.float .f64 x75) ∧ straightedgeref02_Of.call [(.float .f64 x75)] w74 fun v76 w77 => ∃ b78 : Bool, ∃ (a79 : Option Addr) (n80 c81 : Nat), ∃ i82 : Int, v76 = (.agg ⟨[(.bool b78), (.slice a79 n80 c81), (.int .i64 i82)]⟩) ∧ straightedgeref02_D_Mul.call [(.agg ⟨[(.bool b19), (.slice a20 n21 c22), (.int .i64 i23)]⟩), (.agg ⟨[(.bool b78), (.slice a79 n80 c81), (.int .i64 i82)]⟩)] w77 fun v83 w84 => ∃ b85 : Bool, ∃ (a86 : Option Addr) (n87 c88 : Nat), ∃ i89 : Int, v83 = (.agg ⟨[(.bool b85), (.slice a86 n87 c88), (.int .i64 i89)]⟩) ∧ stPT q71 0 [(.bool b85), (.slice a86 n87 c88), (.int .i64 i89)] w84 fun w90 => h15 z3 z4 z7 z8 z9p z9n z9c z10 z11 z12 z13 z14 z15 (some q71) w90)) ∧ (newB [(.bool false), (.slice none 0 0), (.int .i64 0)] 45 w15 fun q91 w92 => Kept w15 w92 ∧ straightedgeref02_Of.call [(.float .f64 x16)] w92 fun v93 w94 => ∃ b95 : Bool, ∃ (a96 : Option Addr) (n97 c98 : Nat), ∃ i99 : Int, v93 = (.agg ⟨[(.bool b95), (.slice a96 n97 c98), (.int .i64 i99)]⟩) ∧ Kept w92 w94 ∧ straightedgeref03_M_At.call [(.agg ⟨[(.int .i64 i9), (.int .i64 i10), (.slice a11 n12 c13)]⟩), (.int .i64 z15), (.int .i64 z12)] w94 fun v100 w101 => ∃ x102 : Nat, v100 = (.float .f64 x102) ∧ straightedgeref02_Of.call [(.float .f64 x102)] w101 fun v103 w104 => ∃ b105 : Bool, ∃ (a106 : Option Addr) (n107 c108 : Nat), ∃ i109 : Int, v103 = (.agg ⟨[(.bool b105), (.slice a106 n107 c108), (.int .i64 i109)]⟩) ∧ straightedgeref02_D_Mul.call [(.agg ⟨[(.bool b95), (.slice a96 n97 c98), (.int .i64 i99)]⟩), (.agg ⟨[(.bool b105), (.slice a106 n107 c108), (.int .i64 i109)]⟩)] w104 fun v110 w111 => ∃ b112 : Bool, ∃ (a113 : Option Addr) (n114 c115 : Nat), ∃ i116 : Int, v110 = (.agg ⟨[(.bool b112), (.slice a113 n114 c115), (.int .i64 i116)]⟩) ∧ stPT q91 0 [(.bool b112), (.slice a113 n114 c115), (.int .i64 i116)] w111 fun w117 => h15 z3 z4 z7 z8 z9p z9n z9c z10 z11 z12 z13 z14 z15 (some q91) w117)) ∧ (newB [(.bool false), (.slice none 0 0), (.int .i64 0)] 45 w.drew fun q118 w119 => Kept w.drew w119 ∧ straightedgeref03_M_At.call [(.agg ⟨[(.int .i64 i3), (.int .i64 i4), (.slice a5 n6 c7)]⟩), (.int .i64 z11), (.int .i64 z15)] w119 fun v120 w121 => ∃ x122 : Nat, v120 = (.float .f64 x122) ∧ Kept w119 w121 ∧ straightedgeref02_Of.call [(.float .f64 x122)] w121 fun v123 w124 => ∃ b125 : Bool, ∃ (a126 : Option Addr) (n127 c128 : Nat), ∃ i129 : Int, v123 = (.agg ⟨[(.bool b125), (.slice a126 n127 c128), (.int .i64 i129)]⟩) ∧ Kept w121 w124 ∧ straightedgeref03_M_At.call [(.agg ⟨[(.int .i64 i9), (.int .i64 i10), (.slice a11 n12 c13)]⟩), (.int .i64 z15), (.int .i64 z12)] w124 fun v130 w131 => ∃ x132 : Nat, v130 = (.float .f64 x132) ∧ straightedgeref02_Of.call [(.float .f64 x132)] w131 fun v133 w134 => ∃ b135 : Bool, ∃ (a136 : Option Addr) (n137 c138 : Nat), ∃ i139 : Int, v133 = (.agg ⟨[(.bool b135), (.slice a136 n137 c138), (.int .i64 i139)]⟩) ∧ straightedgeref02_D_Mul.call [(.agg ⟨[(.bool b125), (.slice a126 n127 c128), (.int .i64 i129)]⟩), (.agg ⟨[(.bool b135), (.slice a136 n137 c138), (.int .i64 i139)]⟩)] w134 fun v140 w141 => ∃ b142 : Bool, ∃ (a143 : Option Addr) (n144 c145 : Nat), ∃ i146 : Int, v140 = (.agg ⟨[(.bool b142), (.slice a143 n144 c145), (.int .i64 i146)]⟩) ∧ stPT q118 0 [(.bool b142), (.slice a143 n144 c145), (.int .i64 i146)] w141 fun w147 => h15 z3 z4 z7 z8 z9p z9n z9c z10 z11 z12 z13 z14 z15 (some q118) w147)) (ptrSome z14 fun q149 => rd_b_l_i64 w.drew q149 fun b150 a151 n152 c153 i154 => ptrSome z4 fun q155 => rd_i64 w.drew q155 fun i156 => ptrSome z10 fun q157 => rd_b_l_i64 w.drew q157 fun b158 a159 n160 c161 i162 => (straightedgeref02_D_Shift.call [(.agg ⟨[(.bool b150), (.slice a151 n152 c153), (.int .i64 i154)]⟩), (.int .i64 (-51))] w.drew fun v163 w164 => ∃ b165 : Bool, ∃ (a166 : Option Addr) (n167 c168 : Nat), ∃ i169 : Int, v163 = (.agg ⟨[(.bool b165), (.slice a166 n167 c168), (.int .i64 i169)]⟩) ∧ Kept w.drew w164 ∧ (straightedgeref02_Int.call [(.int .i64 i156)] w164 fun v170 w171 => ∃ b172 : Bool, ∃ (a173 : Option Addr) (n174 c175 : Nat), ∃ i176 : Int, v170 = (.agg ⟨[(.bool b172), (.slice a173 n174 c175), (.int .i64 i176)]⟩) ∧ Kept w164 w171 ∧ (straightedgeref02_D_Mul.call [(.agg ⟨[(.bool b165), (.slice a166 n167 c168), (.int .i64 i169)]⟩), (.agg ⟨[(.bool b172), (.slice a173 n174 c175), (.int .i64 i176)]⟩)] w171 fun v177 w178 => ∃ b179 : Bool, ∃ (a180 : Option Addr) (n181 c182 : Nat), ∃ i183 : Int, v177 = (.agg ⟨[(.bool b179), (.slice a180 n181 c182), (.int .i64 i183)]⟩) ∧ Kept w171 w178 ∧ (straightedgeref02_D_Add.call [(.agg ⟨[(.bool b179), (.slice a180 n181 c182), (.int .i64 i183)]⟩), (.agg ⟨[(.bool b158), (.slice a159 n160 c161), (.int .i64 i162)]⟩)] w178 fun v184 w185 => ∃ b186 : Bool, ∃ (a187 : Option Addr) (n188 c189 : Nat), ∃ i190 : Int, v184 = (.agg ⟨[(.bool b186), (.slice a187 n188 c189), (.int .i64 i190)]⟩) ∧ newB [(.bool false), (.slice none 0 0), (.int .i64 0)] 45 w185 fun q191 w192 => Kept w185 w192 ∧ stPT q191 0 [(.bool b186), (.slice a187 n188 c189), (.int .i64 i190)] w192 fun w193 => h18 z3 z4 z7 z8 z9p z9n z9c z10 z11 z12 z13 (some q191) w193) ∧ (newB [(.bool false), (.slice none 0 0), (.int .i64 0)] 45 w178 fun q194 w195 => Kept w178 w195 ∧ straightedgeref02_D_Add.call [(.agg ⟨[(.bool b179), (.slice a180 n181 c182), (.int .i64 i183)]⟩), (.agg ⟨[(.bool b158), (.slice a159 n160 c161), (.int .i64 i162)]⟩)] w195 fun v196 w197 => ∃ b198 : Bool, ∃ (a199 : Option Addr) (n200 c201 : Nat), ∃ i202 : Int, v196 = (.agg ⟨[(.bool b198), (.slice a199 n200 c201), (.int .i64 i202)]⟩) ∧ stPT q194 0 [(.bool b198), (.slice a199 n200 c201), (.int .i64 i202)] w197 fun w203 => h18 z3 z4 z7 z8 z9p z9n z9c z10 z11 z12 z13 (some q194) w203)) ∧ (newB [(.bool false), (.slice none 0 0), (.int .i64 0)] 45 w171 fun q204 w205 => Kept w171 w205 ∧ straightedgeref02_D_Mul.call [(.agg ⟨[(.bool b165), (.slice a166 n167 c168), (.int .i64 i169)]⟩), (.agg ⟨[(.bool b172), (.slice a173 n174 c175), (.int .i64 i176)]⟩)] w205 fun v206 w207 => ∃ b208 : Bool, ∃ (a209 : Option Addr) (n210 c211 : Nat), ∃ i212 : Int, v206 = (.agg ⟨[(.bool b208), (.slice a209 n210 c211), (.int .i64 i212)]⟩) ∧ Kept w205 w207 ∧ straightedgeref02_D_Add.call [(.agg ⟨[(.bool b208), (.slice a209 n210 c211), (.int .i64 i212)]⟩), (.agg ⟨[(.bool b158), (.slice a159 n160 c161), (.int .i64 i162)]⟩)] w207 fun v213 w214 => ∃ b215 : Bool, ∃ (a216 : Option Addr) (n217 c218 : Nat), ∃ i219 : Int, v213 = (.agg ⟨[(.bool b215), (.slice a216 n217 c218), (.int .i64 i219)]⟩) ∧ stPT q204 0 [(.bool b215), (.slice a216 n217 c218), (.int .i64 i219)] w214 fun w220 => h18 z3 z4 z7 z8 z9p z9n z9c z10 z11 z12 z13 (some q204) w220)) ∧ (newB [(.bool false), (.slice none 0 0), (.int .i64 0)] 45 w164 fun q221 w222 => Kept w164 w222 ∧ straightedgeref02_Int.call [(.int .i64 i156)] w222 fun v223 w224 => ∃ b225 : Bool, ∃ (a226 : Option Addr) (n227 c228 : Nat), ∃ i229 : Int, v223 = (.agg ⟨[(.bool b225), (.slice a226 n227 c228), (.int .i64 i229)]⟩) ∧ Kept w222 w224 ∧ straightedgeref02_D_Mul.call [(.agg ⟨[(.bool b165), (.slice a166 n167 c168), (.int .i64 i169)]⟩), (.agg ⟨[(.bool b225), (.slice a226 n227 c228), (.int .i64 i229)]⟩)] w224 fun v230 w231 => ∃ b232 : Bool, ∃ (a233 : Option Addr) (n234 c235 : Nat), ∃ i236 : Int, v230 = (.agg ⟨[(.bool b232), (.slice a233 n234 c235), (.int .i64 i236)]⟩) ∧ Kept w224 w231 ∧ straightedgeref02_D_Add.call [(.agg ⟨[(.bool b232), (.slice a233 n234 c235), (.int .i64 i236)]⟩), (.agg ⟨[(.bool b158), (.slice a159 n160 c161), (.int .i64 i162)]⟩)] w231 fun v237 w238 => ∃ b239 : Bool, ∃ (a240 : Option Addr) (n241 c242 : Nat), ∃ i243 : Int, v237 = (.agg ⟨[(.bool b239), (.slice a240 n241 c242), (.int .i64 i243)]⟩) ∧ stPT q221 0 [(.bool b239), (.slice a240 n241 c242), (.int .i64 i243)] w238 fun w244 => h18 z3 z4 z7 z8 z9p z9n z9c z10 z11 z12 z13 (some q221) w244)) ∧ (newB [(.bool false), (.slice none 0 0), (.int .i64 0)] 45 w.drew fun q245 w246 => Kept w.drew w246 ∧ straightedgeref02_D_Shift.call [(.agg ⟨[(.bool b150), (.slice a151 n152 c153), (.int .i64 i154)]⟩), (.int .i64 (-51))] w246 fun v247 w248 => ∃ b249 : Bool, ∃ (a250 : Option Addr) (n251 c252 : Nat), ∃ i253 : Int, v247 = (.agg ⟨[(.bool b249), (.slice a250 n251 c252), (.int .i64 i253)]⟩) ∧ Kept w246 w248 ∧ straightedgeref02_Int.call [(.int .i64 i156)] w248 fun v254 w255 => ∃ b256 : Bool, ∃ (a257 : Option Addr) (n258 c259 : Nat), ∃ i260 : Int, v254 = (.agg ⟨[(.bool b256), (.slice a257 n258 c259), (.int .i64 i260)]⟩) ∧ Kept w248 w255 ∧ straightedgeref02_D_Mul.call [(.agg ⟨[(.bool b249), (.slice a250 n251 c252), (.int .i64 i253)]⟩), (.agg ⟨[(.bool b256), (.slice a257 n258 c259), (.int .i64 i260)]⟩)] w255 fun v261 w262 => ∃ b263 : Bool, ∃ (a264 : Option Addr) (n265 c266 : Nat), ∃ i267 : Int, v261 = (.agg ⟨[(.bool b263), (.slice a264 n265 c266), (.int .i64 i267)]⟩) ∧ Kept w255 w262 ∧ straightedgeref02_D_Add.call [(.agg ⟨[(.bool b263), (.slice a264 n265 c266), (.int .i64 i267)]⟩), (.agg ⟨[(.bool b158), (.slice a159 n160 c161), (.int .i64 i162)]⟩)] w262 fun v268 w269 => ∃ b270 : Bool, ∃ (a271 : Option Addr) (n272 c273 : Nat), ∃ i274 : Int, v268 = (.agg ⟨[(.bool b270), (.slice a271 n272 c273), (.int .i64 i274)]⟩) ∧ stPT q245 0 [(.bool b270), (.slice a271 n272 c273), (.int .i64 i274)] w269 fun w275 => h18 z3 z4 z7 z8 z9p z9n z9c z10 z11 z12 z13 (some q245) w275))
def straightedgelaw16_closeTo.b15 (K : Value → World → Prop) (h5 : Option Addr → Option Addr → Option Addr → Option Addr → Option Addr → Nat → Nat → Option Addr → Int → World → Prop) (h8 : Option Addr → Option Addr → Option Addr → Option Addr → Option Addr → Nat → Nat → Option Addr → Int → Int → World → Prop) (h12 : Option Addr → Option Addr → Option Addr → Option Addr → Option Addr → Nat → Nat → Option Addr → Int → Int → Option Addr → Option Addr → Int → World → Prop) (h15 : Option Addr → Option Addr → Option Addr → Option Addr → Option Addr → Nat → Nat → Option Addr → Int → Int → Option Addr → Option Addr → Int → Option Addr → World → Prop) (h18 : Option Addr → Option Addr → Option Addr → Option Addr → Option Addr → Nat → Nat → Option Addr → Int → Int → Option Addr → Option Addr → World → Prop) (z3 : Option Addr) (z4 : Option Addr) (z7 : Option Addr) (z8 : Option Addr) (z9p : Option Addr) (z9n z9c : Nat) (z10 : Option Addr) (z11 : Int) (z12 : Int) (z13 : Option Addr) (z14 : Option Addr) (z15 : Int) (z16 : Option Addr) (w : World) : Prop := ptrSome z13 fun q1 => rd_b_l_i64 w q1 fun b2 a3 n4 c5 i6 => ptrSome z16 fun q7 => rd_b_l_i64 w q7 fun b8 a9 n10 c11 i12 => straightedgeref02_D_Add.call [(.agg ⟨[(.bool b2), (.slice a3 n4 c5), (.int .i64 i6)]⟩), (.agg ⟨[(.bool b8), (.slice a9 n10 c11), (.int .i64 i12)]⟩)] w fun v13 w14 => ∃ b15 : Bool, ∃ (a16 : Option Addr) (n17 c18 : Nat), ∃ i19 : Int, v13 = (.agg ⟨[(.bool b15), (.slice a16 n17 c18), (.int .i64 i19)]⟩) ∧ ptrSome z13 fun q20 => stPT q20 0 [(.bool b15), (.slice a16 n17 c18), (.int .i64 i19)] w14 fun w21 => ptrSome z14 fun q23 => rd_b_l_i64 w21.drew q23 fun b24 a25 n26 c27 i28 => ptrSome z16 fun q29 => rd_b_l_i64 w21.drew q29 fun b30 a31 n32 c33 i34 => straightedgeref02_D_Abs.call [(.agg ⟨[(.bool b30), (.slice a31 n32 c33), (.int .i64 i34)]⟩)] w21.drew fun v35 w36 => ∃ b37 : Bool, ∃ (a38 : Option Addr) (n39 c40 : Nat), ∃ i41 : Int, v35 = (.agg ⟨[(.bool b37), (.slice a38 n39 c40), (.int .i64 i41)]⟩) ∧ Kept w21.drew w36 ∧ straightedgeref02_D_Add.call [(.agg ⟨[(.bool b24), (.slice a25 n26 c27), (.int .i64 i28)]⟩), (.agg ⟨[(.bool b37), (.slice a38 n39 c40), (.int .i64 i41)]⟩)] w36 fun v42 w43 => ∃ b44 : Bool, ∃ (a45 : Option Addr) (n46 c47 : Nat), ∃ i48 : Int, v42 = (.agg ⟨[(.bool b44), (.slice a45 n46 c47), (.int .i64 i48)]⟩) ∧ ptrSome z14 fun q49 => stPT q49 0 [(.bool b44), (.slice a45 n46 c47), (.int .i64 i48)] w43 fun w50 => h12 z3 z4 z7 z8 z9p z9n z9c z10 z11 z12 z13 z14 (IntKind.i64.wrap (z15 + 1)) w50
def straightedgelaw16_closeTo.b18 (K : Value → World → Prop) (h5 : Option Addr → Option Addr → Option Addr → Option Addr → Option Addr → Nat → Nat → Option Addr → Int → World → Prop) (h8 : Option Addr → Option Addr → Option Addr → Option Addr → Option Addr → Nat → Nat → Option Addr → Int → Int → World → Prop) (h12 : Option Addr → Option Addr → Option Addr → Option Addr → Option Addr → Nat → Nat → Option Addr → Int → Int → Option Addr → Option Addr → Int → World → Prop) (h15 : Option Addr → Option Addr → Option Addr → Option Addr → Option Addr → Nat → Nat → Option Addr → Int → Int → Option Addr → Option Addr → Int → Option Addr → World → Prop) (h18 : Option Addr → Option Addr → Option Addr → Option Addr → Option Addr → Nat → Nat → Option Addr → Int → Int → Option Addr → Option Addr → World → Prop) (z3 : Option Addr) (z4 : Option Addr) (z7 : Option Addr) (z8 : Option Addr) (z9p : Option Addr) (z9n z9c : Nat) (z10 : Option Addr) (z11 : Int) (z12 : Int) (z13 : Option Addr) (z17 : Option Addr) (w : World) : Prop := ptrSome z13 fun q2 => rd_b_l_i64 w.drew q2 fun b3 a4 n5 c6 i7 => ptrSome z3 fun q8 => rd_i64_i64_l w.drew q8 fun i9 i10 a11 n12 c13 => ptrSome z9p fun q14 => (0 : Int) ≤ z11 ∧ z11 < ((z9n : Nat) : Int) ∧ rd_i64 w.drew (q14.add (Int.toNat z11)) fun i15 => ptrSome z17 fun q16 => rd_b_l_i64 w.drew q16 fun b17 a18 n19 c20 i21 => straightedgeref03_M_At.call [(.agg ⟨[(.int .i64 i9), (.int .i64 i10), (.slice a11 n12 c13)]⟩), (.int .i64 i15), (.int .i64 z12)] w.drew fun v22 w23 => ∃ x24 : Nat, v22 = (.float .f64 x24) ∧ Kept w.drew w23 ∧ straightedgeref02_Of.call [(.float .f64 x24)] w23 fun v25 w26 => ∃ b27 : Bool, ∃ (a28 : Option Addr) (n29 c30 : Nat), ∃ i31 : Int, v25 = (.agg ⟨[(.bool b27), (.slice a28 n29 c30), (.int .i64 i31)]⟩) ∧ Kept w23 w26 ∧ straightedgeref02_D_Sub.call [(.agg ⟨[(.bool b3), (.slice a4 n5 c6), (.int .i64 i7)]⟩), (.agg ⟨[(.bool b27), (.slice a28 n29 c30), (.int .i64 i31)]⟩)] w26 fun v32 w33 => ∃ b34 : Bool, ∃ (a35 : Option Addr) (n36 c37 : Nat), ∃ i38 : Int, v32 = (.agg ⟨[(.bool b34), (.slice a35 n36 c37), (.int .i64 i38)]⟩) ∧ Kept w26 w33 ∧ straightedgeref02_D_Abs.call [(.agg ⟨[(.bool b34), (.slice a35 n36 c37), (.int .i64 i38)]⟩)] w33 fun v39 w40 => ∃ b41 : Bool, ∃ (a42 : Option Addr) (n43 c44 : Nat), ∃ i45 : Int, v39 = (.agg ⟨[(.bool b41), (.slice a42 n43 c44), (.int .i64 i45)]⟩) ∧ Kept w33 w40 ∧ straightedgeref02_D_Cmp.call [(.agg ⟨[(.bool b41), (.slice a42 n43 c44), (.int .i64 i45)]⟩), (.agg ⟨[(.bool b17), (.slice a18 n19 c20), (.int .i64 i21)]⟩)] w40 fun v46 w47 => ∃ i48 : Int, v46 = (.int .i64 i48) ∧ br (decide (i48 > 0)) (K (.bool false) w47) (h8 z3 z4 z7 z8 z9p z9n z9c z10 z11 (IntKind.i64.wrap (z12 + 1)) w47)
def straightedgelaw16_closeTo.H (K : Value → World → Prop) : Nat → (Option Addr → Option Addr → Option Addr → Option Addr → Option Addr → Nat → Nat → Option Addr → Int → World → Prop) × (Option Addr → Option Addr → Option Addr → Option Addr → Option Addr → Nat → Nat → Option Addr → Int → Int → World → Prop) × (Option Addr → Option Addr → Option Addr → Option Addr → Option Addr → Nat → Nat → Option Addr → Int → Int → Option Addr → Option Addr → Int → World → Prop) × (Option Addr → Option Addr → Option Addr → Option Addr → Option Addr → Nat → Nat → Option Addr → Int → Int → Option Addr → Option Addr → Int → Option Addr → World → Prop) × (Option Addr → Option Addr → Option Addr → Option Addr → Option Addr → Nat → Nat → Option Addr → Int → Int → Option Addr → Option Addr → World → Prop)
  | 0 => (fun _ _ _ _ _ _ _ _ _ _ => False, fun _ _ _ _ _ _ _ _ _ _ _ => False, fun _ _ _ _ _ _ _ _ _ _ _ _ _ _ => False, fun _ _ _ _ _ _ _ _ _ _ _ _ _ _ _ => False, fun _ _ _ _ _ _ _ _ _ _ _ _ _ => False)
  | fu + 1 => (straightedgelaw16_closeTo.b5 K (straightedgelaw16_closeTo.H K fu).1 (straightedgelaw16_closeTo.H K fu).2.1 (straightedgelaw16_closeTo.H K fu).2.2.1 (straightedgelaw16_closeTo.H K fu).2.2.2.1 (straightedgelaw16_closeTo.H K fu).2.2.2.2, straightedgelaw16_closeTo.b8 K (straightedgelaw16_closeTo.H K fu).1 (straightedgelaw16_closeTo.H K fu).2.1 (straightedgelaw16_closeTo.H K fu).2.2.1 (straightedgelaw16_closeTo.H K fu).2.2.2.1 (straightedgelaw16_closeTo.H K fu).2.2.2.2, straightedgelaw16_closeTo.b12 K (straightedgelaw16_closeTo.H K fu).1 (straightedgelaw16_closeTo.H K fu).2.1 (straightedgelaw16_closeTo.H K fu).2.2.1 (straightedgelaw16_closeTo.H K fu).2.2.2.1 (straightedgelaw16_closeTo.H K fu).2.2.2.2, straightedgelaw16_closeTo.b15 K (straightedgelaw16_closeTo.H K fu).1 (straightedgelaw16_closeTo.H K fu).2.1 (straightedgelaw16_closeTo.H K fu).2.2.1 (straightedgelaw16_closeTo.H K fu).2.2.2.1 (straightedgelaw16_closeTo.H K fu).2.2.2.2, straightedgelaw16_closeTo.b18 K (straightedgelaw16_closeTo.H K fu).1 (straightedgelaw16_closeTo.H K fu).2.1 (straightedgelaw16_closeTo.H K fu).2.2.1 (straightedgelaw16_closeTo.H K fu).2.2.2.1 (straightedgelaw16_closeTo.H K fu).2.2.2.2)
def straightedgelaw16_closeTo.x (fu : Nat) (A0_0 : Int) (A0_1 : Int) (A0_2p : Option Addr) (A0_2n A0_2c : Nat) (A1_0 : Int) (A1_1 : Int) (A1_2p : Option Addr) (A1_2n A1_2c : Nat) (A2p : Option Addr) (A2n A2c : Nat) (w : World) (K : Value → World → Prop) : Prop := newB [(.int .i64 A0_0), (.int .i64 A0_1), (.slice A0_2p A0_2n A0_2c)] 29 w fun q1 w2 => newB [(.int .i64 A1_0), (.int .i64 A1_1), (.slice A1_2p A1_2n A1_2c)] 29 w2 fun q3 w4 => rd_i64_i64_l w4 q3 fun i5 i6 a7 n8 c9 => straightedgeref16_Parts.call [(.agg ⟨[(.int .i64 i5), (.int .i64 i6), (.slice a7 n8 c9)]⟩)] w4 fun v10 w11 => ∃ i12 : Int, ∃ i13 : Int, ∃ (a14 : Option Addr) (n15 c16 : Nat), ∃ i17 : Int, ∃ i18 : Int, ∃ (a19 : Option Addr) (n20 c21 : Nat), v10 = (.tuple ⟨[(.agg ⟨[(.int .i64 i12), (.int .i64 i13), (.slice a14 n15 c16)]⟩), (.agg ⟨[(.int .i64 i17), (.int .i64 i18), (.slice a19 n20 c21)]⟩)]⟩) ∧ newB [(.int .i64 0), (.int .i64 0), (.slice none 0 0)] 29 w11 fun q22 w23 => newB [(.int .i64 0), (.int .i64 0), (.slice none 0 0)] 29 w23 fun q24 w25 => stPT q22 0 [(.int .i64 i12), (.int .i64 i13), (.slice a14 n15 c16)] w25 fun w26 => stPT q24 0 [(.int .i64 i17), (.int .i64 i18), (.slice a19 n20 c21)] w26 fun w27 => straightedgeref16_Order.call [(.slice A2p A2n A2c)] w27 fun v28 w29 => ∃ (a30 : Option Addr) (n31 c32 : Nat), v28 = (.slice a30 n31 c32) ∧ rd_i64_i64_l w29.drew q24 fun i34 i35 a36 n37 c38 => rd_i64 w29.drew q3 fun i39 => (straightedgeref10_Max.call [(.agg ⟨[(.int .i64 i34), (.int .i64 i35), (.slice a36 n37 c38)]⟩)] w29.drew fun v40 w41 => ∃ x42 : Nat, v40 = (.float .f64 x42) ∧ Kept w29.drew w41 ∧ (straightedgeref02_Of.call [(.float .f64 x42)] w41 fun v43 w44 => ∃ b45 : Bool, ∃ (a46 : Option Addr) (n47 c48 : Nat), ∃ i49 : Int, v43 = (.agg ⟨[(.bool b45), (.slice a46 n47 c48), (.int .i64 i49)]⟩) ∧ Kept w41 w44 ∧ (straightedgeref02_Int.call [(.int .i64 1)] w44 fun v50 w51 => ∃ b52 : Bool, ∃ (a53 : Option Addr) (n54 c55 : Nat), ∃ i56 : Int, v50 = (.agg ⟨[(.bool b52), (.slice a53 n54 c55), (.int .i64 i56)]⟩) ∧ Kept w44 w51 ∧ (straightedgeref02_D_Add.call [(.agg ⟨[(.bool b45), (.slice a46 n47 c48), (.int .i64 i49)]⟩), (.agg ⟨[(.bool b52), (.slice a53 n54 c55), (.int .i64 i56)]⟩)] w51 fun v57 w58 => ∃ b59 : Bool, ∃ (a60 : Option Addr) (n61 c62 : Nat), ∃ i63 : Int, v57 = (.agg ⟨[(.bool b59), (.slice a60 n61 c62), (.int .i64 i63)]⟩) ∧ Kept w51 w58 ∧ (straightedgeref02_D_Shift.call [(.agg ⟨[(.bool b59), (.slice a60 n61 c62), (.int .i64 i63)]⟩), (.int .i64 (-1060))] w58 fun v64 w65 => ∃ b66 : Bool, ∃ (a67 : Option Addr) (n68 c69 : Nat), ∃ i70 : Int, v64 = (.agg ⟨[(.bool b66), (.slice a67 n68 c69), (.int .i64 i70)]⟩) ∧ Kept w58 w65 ∧ (straightedgeref02_Int.call [(.int .i64 i39)] w65 fun v71 w72 => ∃ b73 : Bool, ∃ (a74 : Option Addr) (n75 c76 : Nat), ∃ i77 : Int, v71 = (.agg ⟨[(.bool b73), (.slice a74 n75 c76), (.int .i64 i77)]⟩) ∧ (straightedgeref02_D_Mul.call [(.agg ⟨[(.bool b66), (.slice a67 n68 c69), (.int .i64 i70)]⟩), (.agg ⟨[(.bool b73), (.slice a74 n75 c76), (.int .i64 i77)]⟩)] w72 fun v78 w79 => ∃ b80 : Bool, ∃ (a81 : Option Addr) (n82 c83 : Nat), ∃ i84 : Int, v78 = (.agg ⟨[(.bool b80), (.slice a81 n82 c83), (.int .i64 i84)]⟩) ∧ newB [(.bool false), (.slice none 0 0), (.int .i64 0)] 45 w79 fun q85 w86 => Kept w79 w86 ∧ stPT q85 0 [(.bool b80), (.slice a81 n82 c83), (.int .i64 i84)] w86 fun w87 => (straightedgelaw16_closeTo.H K fu).1 (some q1) (some q3) (some q22) (some q24) a30 n31 c32 (some q85) 0 w87) ∧ (newB [(.bool false), (.slice none 0 0), (.int .i64 0)] 45 w72 fun q88 w89 => Kept w72 w89 ∧ straightedgeref02_D_Mul.call [(.agg ⟨[(.bool b66), (.slice a67 n68 c69), (.int .i64 i70)]⟩), (.agg ⟨[(.bool b73), (.slice a74 n75 c76), (.int .i64 i77)]⟩)] w89 fun v90 w91 => ∃ b92 : Bool, ∃ (a93 : Option Addr) (n94 c95 : Nat), ∃ i96 : Int, v90 = (.agg ⟨[(.bool b92), (.slice a93 n94 c95), (.int .i64 i96)]⟩) ∧ stPT q88 0 [(.bool b92), (.slice a93 n94 c95), (.int .i64 i96)] w91 fun w97 => (straightedgelaw16_closeTo.H K fu).1 (some q1) (some q3) (some q22) (some q24) a30 n31 c32 (some q88) 0 w97)) ∧ (newB [(.bool false), (.slice none 0 0), (.int .i64 0)] 45 w65 fun q98 w99 => Kept w65 w99 ∧ straightedgeref02_Int.call [(.int .i64 i39)] w99 fun v100 w101 => ∃ b102 : Bool, ∃ (a103 : Option Addr) (n104 c105 : Nat), ∃ i106 : Int, v100 = (.agg ⟨[(.bool b102), (.slice a103 n104 c105), (.int .i64 i106)]⟩) ∧ straightedgeref02_D_Mul.call [(.agg ⟨[(.bool b66), (.slice a67 n68 c69), (.int .i64 i70)]⟩), (.agg ⟨[(.bool b102), (.slice a103 n104 c105), (.int .i64 i106)]⟩)] w101 fun v107 w108 => ∃ b109 : Bool, ∃ (a110 : Option Addr) (n111 c112 : Nat), ∃ i113 : Int, v107 = (.agg ⟨[(.bool b109), (.slice a110 n111 c112), (.int .i64 i113)]⟩) ∧ stPT q98 0 [(.bool b109), (.slice a110 n111 c112), (.int .i64 i113)] w108 fun w114 => (straightedgelaw16_closeTo.H K fu).1 (some q1) (some q3) (some q22) (some q24) a30 n31 c32 (some q98) 0 w114)) ∧ (newB [(.bool false), (.slice none 0 0), (.int .i64 0)] 45 w58 fun q115 w116 => Kept w58 w116 ∧ straightedgeref02_D_Shift.call [(.agg ⟨[(.bool b59), (.slice a60 n61 c62), (.int .i64 i63)]⟩), (.int .i64 (-1060))] w116 fun v117 w118 => ∃ b119 : Bool, ∃ (a120 : Option Addr) (n121 c122 : Nat), ∃ i123 : Int, v117 = (.agg ⟨[(.bool b119), (.slice a120 n121 c122), (.int .i64 i123)]⟩) ∧ Kept w116 w118 ∧ straightedgeref02_Int.call [(.int .i64 i39)] w118 fun v124 w125 => ∃ b126 : Bool, ∃ (a127 : Option Addr) (n128 c129 : Nat), ∃ i130 : Int, v124 = (.agg ⟨[(.bool b126), (.slice a127 n128 c129), (.int .i64 i130)]⟩) ∧ straightedgeref02_D_Mul.call [(.agg ⟨[(.bool b119), (.slice a120 n121 c122), (.int .i64 i123)]⟩), (.agg ⟨[(.bool b126), (.slice a127 n128 c129), (.int .i64 i130)]⟩)] w125 fun v131 w132 => ∃ b133 : Bool, ∃ (a134 : Option Addr) (n135 c136 : Nat), ∃ i137 : Int, v131 = (.agg ⟨[(.bool b133), (.slice a134 n135 c136), (.int .i64 i137)]⟩) ∧ stPT q115 0 [(.bool b133), (.slice a134 n135 c136), (.int .i64 i137)] w132 fun w138 => (straightedgelaw16_closeTo.H K fu).1 (some q1) (some q3) (some q22) (some q24) a30 n31 c32 (some q115) 0 w138)) ∧ (newB [(.bool false), (.slice none 0 0), (.int .i64 0)] 45 w51 fun q139 w140 => Kept w51 w140 ∧ straightedgeref02_D_Add.call [(.agg ⟨[(.bool b45), (.slice a46 n47 c48), (.int .i64 i49)]⟩), (.agg ⟨[(.bool b52), (.slice a53 n54 c55), (.int .i64 i56)]⟩)] w140 fun v141 w142 => ∃ b143 : Bool, ∃ (a144 : Option Addr) (n145 c146 : Nat), ∃ i147 : Int, v141 = (.agg ⟨[(.bool b143), (.slice a144 n145 c146), (.int .i64 i147)]⟩) ∧ Kept w140 w142 ∧ straightedgeref02_D_Shift.call [(.agg ⟨[(.bool b143), (.slice a144 n145 c146), (.int .i64 i147)]⟩), (.int .i64 (-1060))] w142 fun v148 w149 => ∃ b150 : Bool, ∃ (a151 : Option Addr) (n152 c153 : Nat), ∃ i154 : Int, v148 = (.agg ⟨[(.bool b150), (.slice a151 n152 c153), (.int .i64 i154)]⟩) ∧ Kept w142 w149 ∧ straightedgeref02_Int.call [(.int .i64 i39)] w149 fun v155 w156 => ∃ b157 : Bool, ∃ (a158 : Option Addr) (n159 c160 : Nat), ∃ i161 : Int, v155 = (.agg ⟨[(.bool b157), (.slice a158 n159 c160), (.int .i64 i161)]⟩) ∧ straightedgeref02_D_Mul.call [(.agg ⟨[(.bool b150), (.slice a151 n152 c153), (.int .i64 i154)]⟩), (.agg ⟨[(.bool b157), (.slice a158 n159 c160), (.int .i64 i161)]⟩)] w156 fun v162 w163 => ∃ b164 : Bool, ∃ (a165 : Option Addr) (n166 c167 : Nat), ∃ i168 : Int, v162 = (.agg ⟨[(.bool b164), (.slice a165 n166 c167), (.int .i64 i168)]⟩) ∧ stPT q139 0 [(.bool b164), (.slice a165 n166 c167), (.int .i64 i168)] w163 fun w169 => (straightedgelaw16_closeTo.H K fu).1 (some q1) (some q3) (some q22) (some q24) a30 n31 c32 (some q139) 0 w169)) ∧ (newB [(.bool false), (.slice none 0 0), (.int .i64 0)] 45 w44 fun q170 w171 => Kept w44 w171 ∧ straightedgeref02_Int.call [(.int .i64 1)] w171 fun v172 w173 => ∃ b174 : Bool, ∃ (a175 : Option Addr) (n176 c177 : Nat), ∃ i178 : Int, v172 = (.agg ⟨[(.bool b174), (.slice a175 n176 c177), (.int .i64 i178)]⟩) ∧ Kept w171 w173 ∧ straightedgeref02_D_Add.call [(.agg ⟨[(.bool b45), (.slice a46 n47 c48), (.int .i64 i49)]⟩), (.agg ⟨[(.bool b174), (.slice a175 n176 c177), (.int .i64 i178)]⟩)] w173 fun v179 w180 => ∃ b181 : Bool, ∃ (a182 : Option Addr) (n183 c184 : Nat), ∃ i185 : Int, v179 = (.agg ⟨[(.bool b181), (.slice a182 n183 c184), (.int .i64 i185)]⟩) ∧ Kept w173 w180 ∧ straightedgeref02_D_Shift.call [(.agg ⟨[(.bool b181), (.slice a182 n183 c184), (.int .i64 i185)]⟩), (.int .i64 (-1060))] w180 fun v186 w187 => ∃ b188 : Bool, ∃ (a189 : Option Addr) (n190 c191 : Nat), ∃ i192 : Int, v186 = (.agg ⟨[(.bool b188), (.slice a189 n190 c191), (.int .i64 i192)]⟩) ∧ Kept w180 w187 ∧ straightedgeref02_Int.call [(.int .i64 i39)] w187 fun v193 w194 => ∃ b195 : Bool, ∃ (a196 : Option Addr) (n197 c198 : Nat), ∃ i199 : Int, v193 = (.agg ⟨[(.bool b195), (.slice a196 n197 c198), (.int .i64 i199)]⟩) ∧ straightedgeref02_D_Mul.call [(.agg ⟨[(.bool b188), (.slice a189 n190 c191), (.int .i64 i192)]⟩), (.agg ⟨[(.bool b195), (.slice a196 n197 c198), (.int .i64 i199)]⟩)] w194 fun v200 w201 => ∃ b202 : Bool, ∃ (a203 : Option Addr) (n204 c205 : Nat), ∃ i206 : Int, v200 = (.agg ⟨[(.bool b202), (.slice a203 n204 c205), (.int .i64 i206)]⟩) ∧ stPT q170 0 [(.bool b202), (.slice a203 n204 c205), (.int .i64 i206)] w201 fun w207 => (straightedgelaw16_closeTo.H K fu).1 (some q1) (some q3) (some q22) (some q24) a30 n31 c32 (some q170) 0 w207)) ∧ (newB [(.bool false), (.slice none 0 0), (.int .i64 0)] 45 w41 fun q208 w209 => Kept w41 w209 ∧ straightedgeref02_Of.call [(.float .f64 x42)] w209 fun v210 w211 => ∃ b212 : Bool, ∃ (a213 : Option Addr) (n214 c215 : Nat), ∃ i216 : Int, v210 = (.agg ⟨[(.bool b212), (.slice a213 n214 c215), (.int .i64 i216)]⟩) ∧ Kept w209 w211 ∧ straightedgeref02_Int.call [(.int .i64 1)] w211 fun v217 w218 => ∃ b219 : Bool, ∃ (a220 : Option Addr) (n221 c222 : Nat), ∃ i223 : Int, v217 = (.agg ⟨[(.bool b219), (.slice a220 n221 c222), (.int .i64 i223)]⟩) ∧ Kept w211 w218 ∧ straightedgeref02_D_Add.call [(.agg ⟨[(.bool b212), (.slice a213 n214 c215), (.int .i64 i216)]⟩), (.agg ⟨[(.bool b219), (.slice a220 n221 c222), (.int .i64 i223)]⟩)] w218 fun v224 w225 => ∃ b226 : Bool, ∃ (a227 : Option Addr) (n228 c229 : Nat), ∃ i230 : Int, v224 = (.agg ⟨[(.bool b226), (.slice a227 n228 c229), (.int .i64 i230)]⟩) ∧ Kept w218 w225 ∧ straightedgeref02_D_Shift.call [(.agg ⟨[(.bool b226), (.slice a227 n228 c229), (.int .i64 i230)]⟩), (.int .i64 (-1060))] w225 fun v231 w232 => ∃ b233 : Bool, ∃ (a234 : Option Addr) (n235 c236 : Nat), ∃ i237 : Int, v231 = (.agg ⟨[(.bool b233), (.slice a234 n235 c236), (.int .i64 i237)]⟩) ∧ Kept w225 w232 ∧ straightedgeref02_Int.call [(.int .i64 i39)] w232 fun v238 w239 => ∃ b240 : Bool, ∃ (a241 : Option Addr) (n242 c243 : Nat), ∃ i244 : Int, v238 = (.agg ⟨[(.bool b240), (.slice a241 n242 c243), (.int .i64 i244)]⟩) ∧ straightedgeref02_D_Mul.call [(.agg ⟨[(.bool b233), (.slice a234 n235 c236), (.int .i64 i237)]⟩), (.agg ⟨[(.bool b240), (.slice a241 n242 c243), (.int .i64 i244)]⟩)] w239 fun v245 w246 => ∃ b247 : Bool, ∃ (a248 : Option Addr) (n249 c250 : Nat), ∃ i251 : Int, v245 = (.agg ⟨[(.bool b247), (.slice a248 n249 c250), (.int .i64 i251)]⟩) ∧ stPT q208 0 [(.bool b247), (.slice a248 n249 c250), (.int .i64 i251)] w246 fun w252 => (straightedgelaw16_closeTo.H K fu).1 (some q1) (some q3) (some q22) (some q24) a30 n31 c32 (some q208) 0 w252)) ∧ (newB [(.bool false), (.slice none 0 0), (.int .i64 0)] 45 w29.drew fun q253 w254 => Kept w29.drew w254 ∧ straightedgeref10_Max.call [(.agg ⟨[(.int .i64 i34), (.int .i64 i35), (.slice a36 n37 c38)]⟩)] w254 fun v255 w256 => ∃ x257 : Nat, v255 = (.float .f64 x257) ∧ Kept w254 w256 ∧ straightedgeref02_Of.call [(.float .f64 x257)] w256 fun v258 w259 => ∃ b260 : Bool, ∃ (a261 : Option Addr) (n262 c263 : Nat), ∃ i264 : Int, v258 = (.agg ⟨[(.bool b260), (.slice a261 n262 c263), (.int .i64 i264)]⟩) ∧ Kept w256 w259 ∧ straightedgeref02_Int.call [(.int .i64 1)] w259 fun v265 w266 => ∃ b267 : Bool, ∃ (a268 : Option Addr) (n269 c270 : Nat), ∃ i271 : Int, v265 = (.agg ⟨[(.bool b267), (.slice a268 n269 c270), (.int .i64 i271)]⟩) ∧ Kept w259 w266 ∧ straightedgeref02_D_Add.call [(.agg ⟨[(.bool b260), (.slice a261 n262 c263), (.int .i64 i264)]⟩), (.agg ⟨[(.bool b267), (.slice a268 n269 c270), (.int .i64 i271)]⟩)] w266 fun v272 w273 => ∃ b274 : Bool, ∃ (a275 : Option Addr) (n276 c277 : Nat), ∃ i278 : Int, v272 = (.agg ⟨[(.bool b274), (.slice a275 n276 c277), (.int .i64 i278)]⟩) ∧ Kept w266 w273 ∧ straightedgeref02_D_Shift.call [(.agg ⟨[(.bool b274), (.slice a275 n276 c277), (.int .i64 i278)]⟩), (.int .i64 (-1060))] w273 fun v279 w280 => ∃ b281 : Bool, ∃ (a282 : Option Addr) (n283 c284 : Nat), ∃ i285 : Int, v279 = (.agg ⟨[(.bool b281), (.slice a282 n283 c284), (.int .i64 i285)]⟩) ∧ Kept w273 w280 ∧ straightedgeref02_Int.call [(.int .i64 i39)] w280 fun v286 w287 => ∃ b288 : Bool, ∃ (a289 : Option Addr) (n290 c291 : Nat), ∃ i292 : Int, v286 = (.agg ⟨[(.bool b288), (.slice a289 n290 c291), (.int .i64 i292)]⟩) ∧ straightedgeref02_D_Mul.call [(.agg ⟨[(.bool b281), (.slice a282 n283 c284), (.int .i64 i285)]⟩), (.agg ⟨[(.bool b288), (.slice a289 n290 c291), (.int .i64 i292)]⟩)] w287 fun v293 w294 => ∃ b295 : Bool, ∃ (a296 : Option Addr) (n297 c298 : Nat), ∃ i299 : Int, v293 = (.agg ⟨[(.bool b295), (.slice a296 n297 c298), (.int .i64 i299)]⟩) ∧ stPT q253 0 [(.bool b295), (.slice a296 n297 c298), (.int .i64 i299)] w294 fun w300 => (straightedgelaw16_closeTo.H K fu).1 (some q1) (some q3) (some q22) (some q24) a30 n31 c32 (some q253) 0 w300)
def straightedgelaw16_closeTo.hd (K : Value → World → Prop) (n id : Nat) (t : List Value) (w : World) : Prop :=
  match id with
  | 5 => asP (t.getD 3 undef) fun z3 => asP (t.getD 4 undef) fun z4 => asP (t.getD 7 undef) fun z7 => asP (t.getD 8 undef) fun z8 => asL (t.getD 9 undef) fun z9p z9n z9c => asP (t.getD 10 undef) fun z10 => asI .i64 (t.getD 11 undef) fun z11 => (straightedgelaw16_closeTo.H K n).1 z3 z4 z7 z8 z9p z9n z9c z10 z11 w
  | 8 => asP (t.getD 3 undef) fun z3 => asP (t.getD 4 undef) fun z4 => asP (t.getD 7 undef) fun z7 => asP (t.getD 8 undef) fun z8 => asL (t.getD 9 undef) fun z9p z9n z9c => asP (t.getD 10 undef) fun z10 => asI .i64 (t.getD 11 undef) fun z11 => asI .i64 (t.getD 12 undef) fun z12 => (straightedgelaw16_closeTo.H K n).2.1 z3 z4 z7 z8 z9p z9n z9c z10 z11 z12 w
  | 12 => asP (t.getD 3 undef) fun z3 => asP (t.getD 4 undef) fun z4 => asP (t.getD 7 undef) fun z7 => asP (t.getD 8 undef) fun z8 => asL (t.getD 9 undef) fun z9p z9n z9c => asP (t.getD 10 undef) fun z10 => asI .i64 (t.getD 11 undef) fun z11 => asI .i64 (t.getD 12 undef) fun z12 => asP (t.getD 13 undef) fun z13 => asP (t.getD 14 undef) fun z14 => asI .i64 (t.getD 15 undef) fun z15 => (straightedgelaw16_closeTo.H K n).2.2.1 z3 z4 z7 z8 z9p z9n z9c z10 z11 z12 z13 z14 z15 w
  | 15 => asP (t.getD 3 undef) fun z3 => asP (t.getD 4 undef) fun z4 => asP (t.getD 7 undef) fun z7 => asP (t.getD 8 undef) fun z8 => asL (t.getD 9 undef) fun z9p z9n z9c => asP (t.getD 10 undef) fun z10 => asI .i64 (t.getD 11 undef) fun z11 => asI .i64 (t.getD 12 undef) fun z12 => asP (t.getD 13 undef) fun z13 => asP (t.getD 14 undef) fun z14 => asI .i64 (t.getD 15 undef) fun z15 => asP (t.getD 16 undef) fun z16 => (straightedgelaw16_closeTo.H K n).2.2.2.1 z3 z4 z7 z8 z9p z9n z9c z10 z11 z12 z13 z14 z15 z16 w
  | 18 => asP (t.getD 3 undef) fun z3 => asP (t.getD 4 undef) fun z4 => asP (t.getD 7 undef) fun z7 => asP (t.getD 8 undef) fun z8 => asL (t.getD 9 undef) fun z9p z9n z9c => asP (t.getD 10 undef) fun z10 => asI .i64 (t.getD 11 undef) fun z11 => asI .i64 (t.getD 12 undef) fun z12 => asP (t.getD 13 undef) fun z13 => asP (t.getD 17 undef) fun z17 => (straightedgelaw16_closeTo.H K n).2.2.2.2 z3 z4 z7 z8 z9p z9n z9c z10 z11 z12 z13 z17 w
  | _ => False
theorem straightedgelaw16_closeTo.t5 (K : Value → World → Prop) (n : Nat) (z3 : Option Addr) (z4 : Option Addr) (z7 : Option Addr) (z8 : Option Addr) (z9p : Option Addr) (z9n z9c : Nat) (z10 : Option Addr) (z11 : Int) (u : Nat → Value) (w : World) (h : (straightedgelaw16_closeTo.H K (n + 1)).1 z3 z4 z7 z8 z9p z9n z9c z10 z11 w) :
    exT prog [5, 8, 12, 15, 18] (straightedgelaw16_closeTo.hd K n) Try.f14 5 96 [(3, (.pointer z3)), (4, (.pointer z4)), (7, (.pointer z7)), (8, (.pointer z8)), (9, (.slice z9p z9n z9c)), (10, (.pointer z10)), (11, (.int .i64 z11))] u w K := Eq.mp (by kernel_rfl) h
theorem straightedgelaw16_closeTo.t8 (K : Value → World → Prop) (n : Nat) (z3 : Option Addr) (z4 : Option Addr) (z7 : Option Addr) (z8 : Option Addr) (z9p : Option Addr) (z9n z9c : Nat) (z10 : Option Addr) (z11 : Int) (z12 : Int) (u : Nat → Value) (w : World) (h : (straightedgelaw16_closeTo.H K (n + 1)).2.1 z3 z4 z7 z8 z9p z9n z9c z10 z11 z12 w) :
    exT prog [5, 8, 12, 15, 18] (straightedgelaw16_closeTo.hd K n) Try.f14 8 96 [(3, (.pointer z3)), (4, (.pointer z4)), (7, (.pointer z7)), (8, (.pointer z8)), (9, (.slice z9p z9n z9c)), (10, (.pointer z10)), (11, (.int .i64 z11)), (12, (.int .i64 z12))] u w K := Eq.mp (by kernel_rfl) h
theorem straightedgelaw16_closeTo.t12 (K : Value → World → Prop) (n : Nat) (z3 : Option Addr) (z4 : Option Addr) (z7 : Option Addr) (z8 : Option Addr) (z9p : Option Addr) (z9n z9c : Nat) (z10 : Option Addr) (z11 : Int) (z12 : Int) (z13 : Option Addr) (z14 : Option Addr) (z15 : Int) (u : Nat → Value) (w : World) (h : (straightedgelaw16_closeTo.H K (n + 1)).2.2.1 z3 z4 z7 z8 z9p z9n z9c z10 z11 z12 z13 z14 z15 w) :
    exT prog [5, 8, 12, 15, 18] (straightedgelaw16_closeTo.hd K n) Try.f14 12 96 [(3, (.pointer z3)), (4, (.pointer z4)), (7, (.pointer z7)), (8, (.pointer z8)), (9, (.slice z9p z9n z9c)), (10, (.pointer z10)), (11, (.int .i64 z11)), (12, (.int .i64 z12)), (13, (.pointer z13)), (14, (.pointer z14)), (15, (.int .i64 z15))] u w K := Eq.mp (by kernel_rfl) h
theorem straightedgelaw16_closeTo.t15 (K : Value → World → Prop) (n : Nat) (z3 : Option Addr) (z4 : Option Addr) (z7 : Option Addr) (z8 : Option Addr) (z9p : Option Addr) (z9n z9c : Nat) (z10 : Option Addr) (z11 : Int) (z12 : Int) (z13 : Option Addr) (z14 : Option Addr) (z15 : Int) (z16 : Option Addr) (u : Nat → Value) (w : World) (h : (straightedgelaw16_closeTo.H K (n + 1)).2.2.2.1 z3 z4 z7 z8 z9p z9n z9c z10 z11 z12 z13 z14 z15 z16 w) :
    exT prog [5, 8, 12, 15, 18] (straightedgelaw16_closeTo.hd K n) Try.f14 15 96 [(3, (.pointer z3)), (4, (.pointer z4)), (7, (.pointer z7)), (8, (.pointer z8)), (9, (.slice z9p z9n z9c)), (10, (.pointer z10)), (11, (.int .i64 z11)), (12, (.int .i64 z12)), (13, (.pointer z13)), (14, (.pointer z14)), (15, (.int .i64 z15)), (16, (.pointer z16))] u w K := Eq.mp (by kernel_rfl) h
theorem straightedgelaw16_closeTo.t18 (K : Value → World → Prop) (n : Nat) (z3 : Option Addr) (z4 : Option Addr) (z7 : Option Addr) (z8 : Option Addr) (z9p : Option Addr) (z9n z9c : Nat) (z10 : Option Addr) (z11 : Int) (z12 : Int) (z13 : Option Addr) (z17 : Option Addr) (u : Nat → Value) (w : World) (h : (straightedgelaw16_closeTo.H K (n + 1)).2.2.2.2 z3 z4 z7 z8 z9p z9n z9c z10 z11 z12 z13 z17 w) :
    exT prog [5, 8, 12, 15, 18] (straightedgelaw16_closeTo.hd K n) Try.f14 18 96 [(3, (.pointer z3)), (4, (.pointer z4)), (7, (.pointer z7)), (8, (.pointer z8)), (9, (.slice z9p z9n z9c)), (10, (.pointer z10)), (11, (.int .i64 z11)), (12, (.int .i64 z12)), (13, (.pointer z13)), (17, (.pointer z17))] u w K := Eq.mp (by kernel_rfl) h
theorem straightedgelaw16_closeTo.ok (fu : Nat) {A0_0 : Int} {A0_1 : Int} {A0_2p : Option Addr} {A0_2n A0_2c : Nat} {A1_0 : Int} {A1_1 : Int} {A1_2p : Option Addr} {A1_2n A1_2c : Nat} {A2p : Option Addr} {A2n A2c : Nat} {w : World} {K : Value → World → Prop} (h : straightedgelaw16_closeTo.x fu A0_0 A0_1 A0_2p A0_2n A0_2c A1_0 A1_1 A1_2p A1_2n A1_2c A2p A2n A2c w K) : straightedgelaw16_closeTo.call [(.agg ⟨[(.int .i64 A0_0), (.int .i64 A0_1), (.slice A0_2p A0_2n A0_2c)]⟩), (.agg ⟨[(.int .i64 A1_0), (.int .i64 A1_1), (.slice A1_2p A1_2n A1_2c)]⟩), (.slice A2p A2n A2c)] w K := by
  refine callF_of_ex (cuts := [5, 8, 12, 15, 18]) (H := straightedgelaw16_closeTo.hd K) (N := 96) Try.func14 rfl mixed (by kernel_rfl) ?_ ?_ ?_ rfl (n := fu) (Eq.mp (by kernel_rfl) h)
  · intro id hid; simp only [List.mem_cons, List.not_mem_nil, or_false] at hid; rcases hid with rfl | rfl | rfl | rfl | rfl
    · exact (by kernel_rfl : (stacks (bodyOf Try.f14) []).filter (headIs 5) = [at_ (bodyOf Try.f14) 5])
    · exact (by kernel_rfl : (stacks (bodyOf Try.f14) []).filter (headIs 8) = [at_ (bodyOf Try.f14) 8])
    · exact (by kernel_rfl : (stacks (bodyOf Try.f14) []).filter (headIs 12) = [at_ (bodyOf Try.f14) 12])
    · exact (by kernel_rfl : (stacks (bodyOf Try.f14) []).filter (headIs 15) = [at_ (bodyOf Try.f14) 15])
    · exact (by kernel_rfl : (stacks (bodyOf Try.f14) []).filter (headIs 18) = [at_ (bodyOf Try.f14) 18])
  · intro id t w h
    unfold straightedgelaw16_closeTo.hd at h
    split at h
    · obtain ⟨z3, _, h⟩ := asP_elim h
      obtain ⟨z4, _, h⟩ := asP_elim h
      obtain ⟨z7, _, h⟩ := asP_elim h
      obtain ⟨z8, _, h⟩ := asP_elim h
      obtain ⟨z9p, z9n, z9c, _, h⟩ := asL_elim h
      obtain ⟨z10, _, h⟩ := asP_elim h
      obtain ⟨z11, _, h⟩ := asI_elim h
      exact h
    · obtain ⟨z3, _, h⟩ := asP_elim h
      obtain ⟨z4, _, h⟩ := asP_elim h
      obtain ⟨z7, _, h⟩ := asP_elim h
      obtain ⟨z8, _, h⟩ := asP_elim h
      obtain ⟨z9p, z9n, z9c, _, h⟩ := asL_elim h
      obtain ⟨z10, _, h⟩ := asP_elim h
      obtain ⟨z11, _, h⟩ := asI_elim h
      obtain ⟨z12, _, h⟩ := asI_elim h
      exact h
    · obtain ⟨z3, _, h⟩ := asP_elim h
      obtain ⟨z4, _, h⟩ := asP_elim h
      obtain ⟨z7, _, h⟩ := asP_elim h
      obtain ⟨z8, _, h⟩ := asP_elim h
      obtain ⟨z9p, z9n, z9c, _, h⟩ := asL_elim h
      obtain ⟨z10, _, h⟩ := asP_elim h
      obtain ⟨z11, _, h⟩ := asI_elim h
      obtain ⟨z12, _, h⟩ := asI_elim h
      obtain ⟨z13, _, h⟩ := asP_elim h
      obtain ⟨z14, _, h⟩ := asP_elim h
      obtain ⟨z15, _, h⟩ := asI_elim h
      exact h
    · obtain ⟨z3, _, h⟩ := asP_elim h
      obtain ⟨z4, _, h⟩ := asP_elim h
      obtain ⟨z7, _, h⟩ := asP_elim h
      obtain ⟨z8, _, h⟩ := asP_elim h
      obtain ⟨z9p, z9n, z9c, _, h⟩ := asL_elim h
      obtain ⟨z10, _, h⟩ := asP_elim h
      obtain ⟨z11, _, h⟩ := asI_elim h
      obtain ⟨z12, _, h⟩ := asI_elim h
      obtain ⟨z13, _, h⟩ := asP_elim h
      obtain ⟨z14, _, h⟩ := asP_elim h
      obtain ⟨z15, _, h⟩ := asI_elim h
      obtain ⟨z16, _, h⟩ := asP_elim h
      exact h
    · obtain ⟨z3, _, h⟩ := asP_elim h
      obtain ⟨z4, _, h⟩ := asP_elim h
      obtain ⟨z7, _, h⟩ := asP_elim h
      obtain ⟨z8, _, h⟩ := asP_elim h
      obtain ⟨z9p, z9n, z9c, _, h⟩ := asL_elim h
      obtain ⟨z10, _, h⟩ := asP_elim h
      obtain ⟨z11, _, h⟩ := asI_elim h
      obtain ⟨z12, _, h⟩ := asI_elim h
      obtain ⟨z13, _, h⟩ := asP_elim h
      obtain ⟨z17, _, h⟩ := asP_elim h
      exact h
    · exact h
  · intro n id hid t w hl h; simp only [List.mem_cons, List.not_mem_nil, or_false] at hid; rcases hid with rfl | rfl | rfl | rfl | rfl
    · replace h : asP (t.getD 3 undef) fun z3 => asP (t.getD 4 undef) fun z4 => asP (t.getD 7 undef) fun z7 => asP (t.getD 8 undef) fun z8 => asL (t.getD 9 undef) fun z9p z9n z9c => asP (t.getD 10 undef) fun z10 => asI .i64 (t.getD 11 undef) fun z11 => (straightedgelaw16_closeTo.H K (n + 1)).1 z3 z4 z7 z8 z9p z9n z9c z10 z11 w := h
      obtain ⟨z3, e3, h⟩ := asP_elim h
      obtain ⟨z4, e4, h⟩ := asP_elim h
      obtain ⟨z7, e7, h⟩ := asP_elim h
      obtain ⟨z8, e8, h⟩ := asP_elim h
      obtain ⟨z9p, z9n, z9c, e9, h⟩ := asL_elim h
      obtain ⟨z10, e10, h⟩ := asP_elim h
      obtain ⟨z11, e11, h⟩ := asI_elim h
      rw [mk_of hl [(3, (.pointer z3)), (4, (.pointer z4)), (7, (.pointer z7)), (8, (.pointer z8)), (9, (.slice z9p z9n z9c)), (10, (.pointer z10)), (11, (.int .i64 z11))] (by simp only [List.forall_mem_cons, List.not_mem_nil, false_implies, implies_true, and_true]; exact ⟨e3, e4, e7, e8, e9, e10, e11⟩)]
      exact straightedgelaw16_closeTo.t5 K n z3 z4 z7 z8 z9p z9n z9c z10 z11 _ w h
    · replace h : asP (t.getD 3 undef) fun z3 => asP (t.getD 4 undef) fun z4 => asP (t.getD 7 undef) fun z7 => asP (t.getD 8 undef) fun z8 => asL (t.getD 9 undef) fun z9p z9n z9c => asP (t.getD 10 undef) fun z10 => asI .i64 (t.getD 11 undef) fun z11 => asI .i64 (t.getD 12 undef) fun z12 => (straightedgelaw16_closeTo.H K (n + 1)).2.1 z3 z4 z7 z8 z9p z9n z9c z10 z11 z12 w := h
      obtain ⟨z3, e3, h⟩ := asP_elim h
      obtain ⟨z4, e4, h⟩ := asP_elim h
      obtain ⟨z7, e7, h⟩ := asP_elim h
      obtain ⟨z8, e8, h⟩ := asP_elim h
      obtain ⟨z9p, z9n, z9c, e9, h⟩ := asL_elim h
      obtain ⟨z10, e10, h⟩ := asP_elim h
      obtain ⟨z11, e11, h⟩ := asI_elim h
      obtain ⟨z12, e12, h⟩ := asI_elim h
      rw [mk_of hl [(3, (.pointer z3)), (4, (.pointer z4)), (7, (.pointer z7)), (8, (.pointer z8)), (9, (.slice z9p z9n z9c)), (10, (.pointer z10)), (11, (.int .i64 z11)), (12, (.int .i64 z12))] (by simp only [List.forall_mem_cons, List.not_mem_nil, false_implies, implies_true, and_true]; exact ⟨e3, e4, e7, e8, e9, e10, e11, e12⟩)]
      exact straightedgelaw16_closeTo.t8 K n z3 z4 z7 z8 z9p z9n z9c z10 z11 z12 _ w h
    · replace h : asP (t.getD 3 undef) fun z3 => asP (t.getD 4 undef) fun z4 => asP (t.getD 7 undef) fun z7 => asP (t.getD 8 undef) fun z8 => asL (t.getD 9 undef) fun z9p z9n z9c => asP (t.getD 10 undef) fun z10 => asI .i64 (t.getD 11 undef) fun z11 => asI .i64 (t.getD 12 undef) fun z12 => asP (t.getD 13 undef) fun z13 => asP (t.getD 14 undef) fun z14 => asI .i64 (t.getD 15 undef) fun z15 => (straightedgelaw16_closeTo.H K (n + 1)).2.2.1 z3 z4 z7 z8 z9p z9n z9c z10 z11 z12 z13 z14 z15 w := h
      obtain ⟨z3, e3, h⟩ := asP_elim h
      obtain ⟨z4, e4, h⟩ := asP_elim h
      obtain ⟨z7, e7, h⟩ := asP_elim h
      obtain ⟨z8, e8, h⟩ := asP_elim h
      obtain ⟨z9p, z9n, z9c, e9, h⟩ := asL_elim h
      obtain ⟨z10, e10, h⟩ := asP_elim h
      obtain ⟨z11, e11, h⟩ := asI_elim h
      obtain ⟨z12, e12, h⟩ := asI_elim h
      obtain ⟨z13, e13, h⟩ := asP_elim h
      obtain ⟨z14, e14, h⟩ := asP_elim h
      obtain ⟨z15, e15, h⟩ := asI_elim h
      rw [mk_of hl [(3, (.pointer z3)), (4, (.pointer z4)), (7, (.pointer z7)), (8, (.pointer z8)), (9, (.slice z9p z9n z9c)), (10, (.pointer z10)), (11, (.int .i64 z11)), (12, (.int .i64 z12)), (13, (.pointer z13)), (14, (.pointer z14)), (15, (.int .i64 z15))] (by simp only [List.forall_mem_cons, List.not_mem_nil, false_implies, implies_true, and_true]; exact ⟨e3, e4, e7, e8, e9, e10, e11, e12, e13, e14, e15⟩)]
      exact straightedgelaw16_closeTo.t12 K n z3 z4 z7 z8 z9p z9n z9c z10 z11 z12 z13 z14 z15 _ w h
    · replace h : asP (t.getD 3 undef) fun z3 => asP (t.getD 4 undef) fun z4 => asP (t.getD 7 undef) fun z7 => asP (t.getD 8 undef) fun z8 => asL (t.getD 9 undef) fun z9p z9n z9c => asP (t.getD 10 undef) fun z10 => asI .i64 (t.getD 11 undef) fun z11 => asI .i64 (t.getD 12 undef) fun z12 => asP (t.getD 13 undef) fun z13 => asP (t.getD 14 undef) fun z14 => asI .i64 (t.getD 15 undef) fun z15 => asP (t.getD 16 undef) fun z16 => (straightedgelaw16_closeTo.H K (n + 1)).2.2.2.1 z3 z4 z7 z8 z9p z9n z9c z10 z11 z12 z13 z14 z15 z16 w := h
      obtain ⟨z3, e3, h⟩ := asP_elim h
      obtain ⟨z4, e4, h⟩ := asP_elim h
      obtain ⟨z7, e7, h⟩ := asP_elim h
      obtain ⟨z8, e8, h⟩ := asP_elim h
      obtain ⟨z9p, z9n, z9c, e9, h⟩ := asL_elim h
      obtain ⟨z10, e10, h⟩ := asP_elim h
      obtain ⟨z11, e11, h⟩ := asI_elim h
      obtain ⟨z12, e12, h⟩ := asI_elim h
      obtain ⟨z13, e13, h⟩ := asP_elim h
      obtain ⟨z14, e14, h⟩ := asP_elim h
      obtain ⟨z15, e15, h⟩ := asI_elim h
      obtain ⟨z16, e16, h⟩ := asP_elim h
      rw [mk_of hl [(3, (.pointer z3)), (4, (.pointer z4)), (7, (.pointer z7)), (8, (.pointer z8)), (9, (.slice z9p z9n z9c)), (10, (.pointer z10)), (11, (.int .i64 z11)), (12, (.int .i64 z12)), (13, (.pointer z13)), (14, (.pointer z14)), (15, (.int .i64 z15)), (16, (.pointer z16))] (by simp only [List.forall_mem_cons, List.not_mem_nil, false_implies, implies_true, and_true]; exact ⟨e3, e4, e7, e8, e9, e10, e11, e12, e13, e14, e15, e16⟩)]
      exact straightedgelaw16_closeTo.t15 K n z3 z4 z7 z8 z9p z9n z9c z10 z11 z12 z13 z14 z15 z16 _ w h
    · replace h : asP (t.getD 3 undef) fun z3 => asP (t.getD 4 undef) fun z4 => asP (t.getD 7 undef) fun z7 => asP (t.getD 8 undef) fun z8 => asL (t.getD 9 undef) fun z9p z9n z9c => asP (t.getD 10 undef) fun z10 => asI .i64 (t.getD 11 undef) fun z11 => asI .i64 (t.getD 12 undef) fun z12 => asP (t.getD 13 undef) fun z13 => asP (t.getD 17 undef) fun z17 => (straightedgelaw16_closeTo.H K (n + 1)).2.2.2.2 z3 z4 z7 z8 z9p z9n z9c z10 z11 z12 z13 z17 w := h
      obtain ⟨z3, e3, h⟩ := asP_elim h
      obtain ⟨z4, e4, h⟩ := asP_elim h
      obtain ⟨z7, e7, h⟩ := asP_elim h
      obtain ⟨z8, e8, h⟩ := asP_elim h
      obtain ⟨z9p, z9n, z9c, e9, h⟩ := asL_elim h
      obtain ⟨z10, e10, h⟩ := asP_elim h
      obtain ⟨z11, e11, h⟩ := asI_elim h
      obtain ⟨z12, e12, h⟩ := asI_elim h
      obtain ⟨z13, e13, h⟩ := asP_elim h
      obtain ⟨z17, e17, h⟩ := asP_elim h
      rw [mk_of hl [(3, (.pointer z3)), (4, (.pointer z4)), (7, (.pointer z7)), (8, (.pointer z8)), (9, (.slice z9p z9n z9c)), (10, (.pointer z10)), (11, (.int .i64 z11)), (12, (.int .i64 z12)), (13, (.pointer z13)), (17, (.pointer z17))] (by simp only [List.forall_mem_cons, List.not_mem_nil, false_implies, implies_true, and_true]; exact ⟨e3, e4, e7, e8, e9, e10, e11, e12, e13, e17⟩)]
      exact straightedgelaw16_closeTo.t18 K n z3 z4 z7 z8 z9p z9n z9c z10 z11 z12 z13 z17 _ w h
/-! the same, the local variables taken out -/
def straightedgelaw16_closeTo.e5 (K : Value → World → Prop) (h5 : Nat → Int → Int → Option Addr → Nat → Nat → Nat → Int → Int → Option Addr → Nat → Nat → Nat → Int → Int → Option Addr → Nat → Nat → Nat → Int → Int → Option Addr → Nat → Nat → Option Addr → Nat → Nat → Nat → Bool → Option Addr → Nat → Nat → Int → Int → World → Prop) (h8 : Nat → Int → Int → Option Addr → Nat → Nat → Nat → Int → Int → Option Addr → Nat → Nat → Nat → Int → Int → Option Addr → Nat → Nat → Nat → Int → Int → Option Addr → Nat → Nat → Option Addr → Nat → Nat → Nat → Bool → Option Addr → Nat → Nat → Int → Int → Int → World → Prop) (h12 : Nat → Int → Int → Option Addr → Nat → Nat → Nat → Int → Int → Option Addr → Nat → Nat → Nat → Int → Int → Option Addr → Nat → Nat → Nat → Int → Int → Option Addr → Nat → Nat → Option Addr → Nat → Nat → Nat → Bool → Option Addr → Nat → Nat → Int → Int → Int → Nat → Bool → Option Addr → Nat → Nat → Int → Nat → Bool → Option Addr → Nat → Nat → Int → Int → World → Prop) (h15 : Nat → Int → Int → Option Addr → Nat → Nat → Nat → Int → Int → Option Addr → Nat → Nat → Nat → Int → Int → Option Addr → Nat → Nat → Nat → Int → Int → Option Addr → Nat → Nat → Option Addr → Nat → Nat → Nat → Bool → Option Addr → Nat → Nat → Int → Int → Int → Nat → Bool → Option Addr → Nat → Nat → Int → Nat → Bool → Option Addr → Nat → Nat → Int → Int → Nat → Bool → Option Addr → Nat → Nat → Int → World → Prop) (h18 : Nat → Int → Int → Option Addr → Nat → Nat → Nat → Int → Int → Option Addr → Nat → Nat → Nat → Int → Int → Option Addr → Nat → Nat → Nat → Int → Int → Option Addr → Nat → Nat → Option Addr → Nat → Nat → Nat → Bool → Option Addr → Nat → Nat → Int → Int → Int → Nat → Bool → Option Addr → Nat → Nat → Int → Nat → Bool → Option Addr → Nat → Nat → Int → World → Prop) (k3 : Nat) (y3_0 : Int) (y3_1 : Int) (y3_2p : Option Addr) (y3_2n y3_2c : Nat) (k4 : Nat) (y4_0 : Int) (y4_1 : Int) (y4_2p : Option Addr) (y4_2n y4_2c : Nat) (k7 : Nat) (y7_0 : Int) (y7_1 : Int) (y7_2p : Option Addr) (y7_2n y7_2c : Nat) (k8 : Nat) (y8_0 : Int) (y8_1 : Int) (y8_2p : Option Addr) (y8_2n y8_2c : Nat) (z9p : Option Addr) (z9n z9c : Nat) (k10 : Nat) (y10_0 : Bool) (y10_1p : Option Addr) (y10_1n y10_1c : Nat) (y10_2 : Int) (z11 : Int) (w : World) : Prop := br (decide (z11 < y4_0)) (h8 k3 y3_0 y3_1 y3_2p y3_2n y3_2c k4 y4_0 y4_1 y4_2p y4_2n y4_2c k7 y7_0 y7_1 y7_2p y7_2n y7_2c k8 y8_0 y8_1 y8_2p y8_2n y8_2c z9p z9n z9c k10 y10_0 y10_1p y10_1n y10_1c y10_2 z11 0 w) (K (.bool true) w)
def straightedgelaw16_closeTo.e8 (K : Value → World → Prop) (h5 : Nat → Int → Int → Option Addr → Nat → Nat → Nat → Int → Int → Option Addr → Nat → Nat → Nat → Int → Int → Option Addr → Nat → Nat → Nat → Int → Int → Option Addr → Nat → Nat → Option Addr → Nat → Nat → Nat → Bool → Option Addr → Nat → Nat → Int → Int → World → Prop) (h8 : Nat → Int → Int → Option Addr → Nat → Nat → Nat → Int → Int → Option Addr → Nat → Nat → Nat → Int → Int → Option Addr → Nat → Nat → Nat → Int → Int → Option Addr → Nat → Nat → Option Addr → Nat → Nat → Nat → Bool → Option Addr → Nat → Nat → Int → Int → Int → World → Prop) (h12 : Nat → Int → Int → Option Addr → Nat → Nat → Nat → Int → Int → Option Addr → Nat → Nat → Nat → Int → Int → Option Addr → Nat → Nat → Nat → Int → Int → Option Addr → Nat → Nat → Option Addr → Nat → Nat → Nat → Bool → Option Addr → Nat → Nat → Int → Int → Int → Nat → Bool → Option Addr → Nat → Nat → Int → Nat → Bool → Option Addr → Nat → Nat → Int → Int → World → Prop) (h15 : Nat → Int → Int → Option Addr → Nat → Nat → Nat → Int → Int → Option Addr → Nat → Nat → Nat → Int → Int → Option Addr → Nat → Nat → Nat → Int → Int → Option Addr → Nat → Nat → Option Addr → Nat → Nat → Nat → Bool → Option Addr → Nat → Nat → Int → Int → Int → Nat → Bool → Option Addr → Nat → Nat → Int → Nat → Bool → Option Addr → Nat → Nat → Int → Int → Nat → Bool → Option Addr → Nat → Nat → Int → World → Prop) (h18 : Nat → Int → Int → Option Addr → Nat → Nat → Nat → Int → Int → Option Addr → Nat → Nat → Nat → Int → Int → Option Addr → Nat → Nat → Nat → Int → Int → Option Addr → Nat → Nat → Option Addr → Nat → Nat → Nat → Bool → Option Addr → Nat → Nat → Int → Int → Int → Nat → Bool → Option Addr → Nat → Nat → Int → Nat → Bool → Option Addr → Nat → Nat → Int → World → Prop) (k3 : Nat) (y3_0 : Int) (y3_1 : Int) (y3_2p : Option Addr) (y3_2n y3_2c : Nat) (k4 : Nat) (y4_0 : Int) (y4_1 : Int) (y4_2p : Option Addr) (y4_2n y4_2c : Nat) (k7 : Nat) (y7_0 : Int) (y7_1 : Int) (y7_2p : Option Addr) (y7_2n y7_2c : Nat) (k8 : Nat) (y8_0 : Int) (y8_1 : Int) (y8_2p : Option Addr) (y8_2n y8_2c : Nat) (z9p : Option Addr) (z9n z9c : Nat) (k10 : Nat) (y10_0 : Bool) (y10_1p : Option Addr) (y10_1n y10_1c : Nat) (y10_2 : Int) (z11 : Int) (z12 : Int) (w : World) : Prop := br (decide (z12 < y4_0)) (∀ (k5 : Nat) (w4 : World), k5 = w.heap.size → k5 < w4.heap.size → Ext w w4 → ∀ (k9 : Nat) (w8 : World), k9 = w4.heap.size → k9 < w8.heap.size → Ext w4 w8 → ∀ w11 : World, Exc k5 w8 w11 → ∀ w12 : World, Exc k9 w11 w12 → h12 k3 y3_0 y3_1 y3_2p y3_2n y3_2c k4 y4_0 y4_1 y4_2p y4_2n y4_2c k7 y7_0 y7_1 y7_2p y7_2n y7_2c k8 y8_0 y8_1 y8_2p y8_2n y8_2c z9p z9n z9c k10 y10_0 y10_1p y10_1n y10_1c y10_2 z11 z12 k5 false none 0 0 0 k9 false none 0 0 0 0 w12) (h5 k3 y3_0 y3_1 y3_2p y3_2n y3_2c k4 y4_0 y4_1 y4_2p y4_2n y4_2c k7 y7_0 y7_1 y7_2p y7_2n y7_2c k8 y8_0 y8_1 y8_2p y8_2n y8_2c z9p z9n z9c k10 y10_0 y10_1p y10_1n y10_1c y10_2 (IntKind.i64.wrap (z11 + 1)) w)
def straightedgelaw16_closeTo.e12 (K : Value → World → Prop) (h5 : Nat → Int → Int → Option Addr → Nat → Nat → Nat → Int → Int → Option Addr → Nat → Nat → Nat → Int → Int → Option Addr → Nat → Nat → Nat → Int → Int → Option Addr → Nat → Nat → Option Addr → Nat → Nat → Nat → Bool → Option Addr → Nat → Nat → Int → Int → World → Prop) (h8 : Nat → Int → Int → Option Addr → Nat → Nat → Nat → Int → Int → Option Addr → Nat → Nat → Nat → Int → Int → Option Addr → Nat → Nat → Nat → Int → Int → Option Addr → Nat → Nat → Option Addr → Nat → Nat → Nat → Bool → Option Addr → Nat → Nat → Int → Int → Int → World → Prop) (h12 : Nat → Int → Int → Option Addr → Nat → Nat → Nat → Int → Int → Option Addr → Nat → Nat → Nat → Int → Int → Option Addr → Nat → Nat → Nat → Int → Int → Option Addr → Nat → Nat → Option Addr → Nat → Nat → Nat → Bool → Option Addr → Nat → Nat → Int → Int → Int → Nat → Bool → Option Addr → Nat → Nat → Int → Nat → Bool → Option Addr → Nat → Nat → Int → Int → World → Prop) (h15 : Nat → Int → Int → Option Addr → Nat → Nat → Nat → Int → Int → Option Addr → Nat → Nat → Nat → Int → Int → Option Addr → Nat → Nat → Nat → Int → Int → Option Addr → Nat → Nat → Option Addr → Nat → Nat → Nat → Bool → Option Addr → Nat → Nat → Int → Int → Int → Nat → Bool → Option Addr → Nat → Nat → Int → Nat → Bool → Option Addr → Nat → Nat → Int → Int → Nat → Bool → Option Addr → Nat → Nat → Int → World → Prop) (h18 : Nat → Int → Int → Option Addr → Nat → Nat → Nat → Int → Int → Option Addr → Nat → Nat → Nat → Int → Int → Option Addr → Nat → Nat → Nat → Int → Int → Option Addr → Nat → Nat → Option Addr → Nat → Nat → Nat → Bool → Option Addr → Nat → Nat → Int → Int → Int → Nat → Bool → Option Addr → Nat → Nat → Int → Nat → Bool → Option Addr → Nat → Nat → Int → World → Prop) (k3 : Nat) (y3_0 : Int) (y3_1 : Int) (y3_2p : Option Addr) (y3_2n y3_2c : Nat) (k4 : Nat) (y4_0 : Int) (y4_1 : Int) (y4_2p : Option Addr) (y4_2n y4_2c : Nat) (k7 : Nat) (y7_0 : Int) (y7_1 : Int) (y7_2p : Option Addr) (y7_2n y7_2c : Nat) (k8 : Nat) (y8_0 : Int) (y8_1 : Int) (y8_2p : Option Addr) (y8_2n y8_2c : Nat) (z9p : Option Addr) (z9n z9c : Nat) (k10 : Nat) (y10_0 : Bool) (y10_1p : Option Addr) (y10_1n y10_1c : Nat) (y10_2 : Int) (z11 : Int) (z12 : Int) (k13 : Nat) (y13_0 : Bool) (y13_1p : Option Addr) (y13_1n y13_1c : Nat) (y13_2 : Int) (k14 : Nat) (y14_0 : Bool) (y14_1p : Option Addr) (y14_1n y14_1c : Nat) (y14_2 : Int) (z15 : Int) (w : World) : Prop := br (decide (z15 ≤ (if z12 < z11 then z12 else z11))) (∀ w14 : World, Ext w.drew w14 → straightedgeref03_M_At.call [(.agg ⟨[(.int .i64 y7_0), (.int .i64 y7_1), (.slice y7_2p y7_2n y7_2c)]⟩), (.int .i64 z11), (.int .i64 z15)] w14 fun v15 w16 => Ext w14 w16 ∧ ∃ x17 : Nat, v15 = (.float .f64 x17) ∧ ∀ w18 : World, Ext w16 w18 → straightedgeref02_Of.call [(.float .f64 x17)] w18 fun v19 w20 => Ext w18 w20 ∧ ∃ b21 : Bool, ∃ (a22 : Option Addr) (n23 c24 : Nat), ∃ i25 : Int, v19 = (.agg ⟨[(.bool b21), (.slice a22 n23 c24), (.int .i64 i25)]⟩) ∧ ∀ w26 : World, Ext w20 w26 → straightedgeref03_M_At.call [(.agg ⟨[(.int .i64 y8_0), (.int .i64 y8_1), (.slice y8_2p y8_2n y8_2c)]⟩), (.int .i64 z15), (.int .i64 z12)] w26 fun v27 w28 => Ext w26 w28 ∧ ∃ x29 : Nat, v27 = (.float .f64 x29) ∧ ∀ w30 : World, Ext w28 w30 → straightedgeref02_Of.call [(.float .f64 x29)] w30 fun v31 w32 => Ext w30 w32 ∧ ∃ b33 : Bool, ∃ (a34 : Option Addr) (n35 c36 : Nat), ∃ i37 : Int, v31 = (.agg ⟨[(.bool b33), (.slice a34 n35 c36), (.int .i64 i37)]⟩) ∧ ∀ w38 : World, Ext w32 w38 → straightedgeref02_D_Mul.call [(.agg ⟨[(.bool b21), (.slice a22 n23 c24), (.int .i64 i25)]⟩), (.agg ⟨[(.bool b33), (.slice a34 n35 c36), (.int .i64 i37)]⟩)] w38 fun v39 w40 => Ext w38 w40 ∧ ∃ b41 : Bool, ∃ (a42 : Option Addr) (n43 c44 : Nat), ∃ i45 : Int, v39 = (.agg ⟨[(.bool b41), (.slice a42 n43 c44), (.int .i64 i45)]⟩) ∧ ∀ w46 : World, Ext w40 w46 → ∀ k48 : Nat, w.drew.heap.size ≤ k48 → k48 < w46.heap.size → (k48 < w14.heap.size ∨ w16.heap.size ≤ k48) → (k48 < w18.heap.size ∨ w20.heap.size ≤ k48) → (k48 < w26.heap.size ∨ w28.heap.size ≤ k48) → (k48 < w30.heap.size ∨ w32.heap.size ≤ k48) → (k48 < w38.heap.size ∨ w40.heap.size ≤ k48) → ∀ w50 : World, Exc k48 w46 w50 → h15 k3 y3_0 y3_1 y3_2p y3_2n y3_2c k4 y4_0 y4_1 y4_2p y4_2n y4_2c k7 y7_0 y7_1 y7_2p y7_2n y7_2c k8 y8_0 y8_1 y8_2p y8_2n y8_2c z9p z9n z9c k10 y10_0 y10_1p y10_1n y10_1c y10_2 z11 z12 k13 y13_0 y13_1p y13_1n y13_1c y13_2 k14 y14_0 y14_1p y14_1n y14_1c y14_2 z15 k48 b41 a42 n43 c44 i45 w50) (∀ w72 : World, Ext w.drew w72 → straightedgeref02_D_Shift.call [(.agg ⟨[(.bool y14_0), (.slice y14_1p y14_1n y14_1c), (.int .i64 y14_2)]⟩), (.int .i64 (-51))] w72 fun v73 w74 => Ext w72 w74 ∧ ∃ b75 : Bool, ∃ (a76 : Option Addr) (n77 c78 : Nat), ∃ i79 : Int, v73 = (.agg ⟨[(.bool b75), (.slice a76 n77 c78), (.int .i64 i79)]⟩) ∧ ∀ w80 : World, Ext w74 w80 → straightedgeref02_Int.call [(.int .i64 y4_0)] w80 fun v81 w82 => Ext w80 w82 ∧ ∃ b83 : Bool, ∃ (a84 : Option Addr) (n85 c86 : Nat), ∃ i87 : Int, v81 = (.agg ⟨[(.bool b83), (.slice a84 n85 c86), (.int .i64 i87)]⟩) ∧ ∀ w88 : World, Ext w82 w88 → straightedgeref02_D_Mul.call [(.agg ⟨[(.bool b75), (.slice a76 n77 c78), (.int .i64 i79)]⟩), (.agg ⟨[(.bool b83), (.slice a84 n85 c86), (.int .i64 i87)]⟩)] w88 fun v89 w90 => Ext w88 w90 ∧ ∃ b91 : Bool, ∃ (a92 : Option Addr) (n93 c94 : Nat), ∃ i95 : Int, v89 = (.agg ⟨[(.bool b91), (.slice a92 n93 c94), (.int .i64 i95)]⟩) ∧ ∀ w96 : World, Ext w90 w96 → straightedgeref02_D_Add.call [(.agg ⟨[(.bool b91), (.slice a92 n93 c94), (.int .i64 i95)]⟩), (.agg ⟨[(.bool y10_0), (.slice y10_1p y10_1n y10_1c), (.int .i64 y10_2)]⟩)] w96 fun v97 w98 => Ext w96 w98 ∧ ∃ b99 : Bool, ∃ (a100 : Option Addr) (n101 c102 : Nat), ∃ i103 : Int, v97 = (.agg ⟨[(.bool b99), (.slice a100 n101 c102), (.int .i64 i103)]⟩) ∧ ∀ w104 : World, Ext w98 w104 → ∀ k106 : Nat, w.drew.heap.size ≤ k106 → k106 < w104.heap.size → (k106 < w72.heap.size ∨ w74.heap.size ≤ k106) → (k106 < w80.heap.size ∨ w82.heap.size ≤ k106) → (k106 < w88.heap.size ∨ w90.heap.size ≤ k106) → (k106 < w96.heap.size ∨ w98.heap.size ≤ k106) → ∀ w108 : World, Exc k106 w104 w108 → h18 k3 y3_0 y3_1 y3_2p y3_2n y3_2c k4 y4_0 y4_1 y4_2p y4_2n y4_2c k7 y7_0 y7_1 y7_2p y7_2n y7_2c k8 y8_0 y8_1 y8_2p y8_2n y8_2c z9p z9n z9c k10 y10_0 y10_1p y10_1n y10_1c y10_2 z11 z12 k13 y13_0 y13_1p y13_1n y13_1c y13_2 k106 b99 a100 n101 c102 i103 w108)
def straightedgelaw16_closeTo.e15 (K : Value → World → Prop) (h5 : Nat → Int → Int → Option Addr → Nat → Nat → Nat → Int → Int → Option Addr → Nat → Nat → Nat → Int → Int → Option Addr → Nat → Nat → Nat → Int → Int → Option Addr → Nat → Nat → Option Addr → Nat → Nat → Nat → Bool → Option Addr → Nat → Nat → Int → Int → World → Prop) (h8 : Nat → Int → Int → Option Addr → Nat → Nat → Nat → Int → Int → Option Addr → Nat → Nat → Nat → Int → Int → Option Addr → Nat → Nat → Nat → Int → Int → Option Addr → Nat → Nat → Option Addr → Nat → Nat → Nat → Bool → Option Addr → Nat → Nat → Int → Int → Int → World → Prop) (h12 : Nat → Int → Int → Option Addr → Nat → Nat → Nat → Int → Int → Option Addr → Nat → Nat → Nat → Int → Int → Option Addr → Nat → Nat → Nat → Int → Int → Option Addr → Nat → Nat → Option Addr → Nat → Nat → Nat → Bool → Option Addr → Nat → Nat → Int → Int → Int → Nat → Bool → Option Addr → Nat → Nat → Int → Nat → Bool → Option Addr → Nat → Nat → Int → Int → World → Prop) (h15 : Nat → Int → Int → Option Addr → Nat → Nat → Nat → Int → Int → Option Addr → Nat → Nat → Nat → Int → Int → Option Addr → Nat → Nat → Nat → Int → Int → Option Addr → Nat → Nat → Option Addr → Nat → Nat → Nat → Bool → Option Addr → Nat → Nat → Int → Int → Int → Nat → Bool → Option Addr → Nat → Nat → Int → Nat → Bool → Option Addr → Nat → Nat → Int → Int → Nat → Bool → Option Addr → Nat → Nat → Int → World → Prop) (h18 : Nat → Int → Int → Option Addr → Nat → Nat → Nat → Int → Int → Option Addr → Nat → Nat → Nat → Int → Int → Option Addr → Nat → Nat → Nat → Int → Int → Option Addr → Nat → Nat → Option Addr → Nat → Nat → Nat → Bool → Option Addr → Nat → Nat → Int → Int → Int → Nat → Bool → Option Addr → Nat → Nat → Int → Nat → Bool → Option Addr → Nat → Nat → Int → World → Prop) (k3 : Nat) (y3_0 : Int) (y3_1 : Int) (y3_2p : Option Addr) (y3_2n y3_2c : Nat) (k4 : Nat) (y4_0 : Int) (y4_1 : Int) (y4_2p : Option Addr) (y4_2n y4_2c : Nat) (k7 : Nat) (y7_0 : Int) (y7_1 : Int) (y7_2p : Option Addr) (y7_2n y7_2c : Nat) (k8 : Nat) (y8_0 : Int) (y8_1 : Int) (y8_2p : Option Addr) (y8_2n y8_2c : Nat) (z9p : Option Addr) (z9n z9c : Nat) (k10 : Nat) (y10_0 : Bool) (y10_1p : Option Addr) (y10_1n y10_1c : Nat) (y10_2 : Int) (z11 : Int) (z12 : Int) (k13 : Nat) (y13_0 : Bool) (y13_1p : Option Addr) (y13_1n y13_1c : Nat) (y13_2 : Int) (k14 : Nat) (y14_0 : Bool) (y14_1p : Option Addr) (y14_1n y14_1c : Nat) (y14_2 : Int) (z15 : Int) (k16 : Nat) (y16_0 : Bool) (y16_1p : Option Addr) (y16_1n y16_1c : Nat) (y16_2 : Int) (w : World) : Prop := straightedgeref02_D_Add.call [(.agg ⟨[(.bool y13_0), (.slice y13_1p y13_1n y13_1c), (.int .i64 y13_2)]⟩), (.agg ⟨[(.bool y16_0), (.slice y16_1p y16_1n y16_1c), (.int .i64 y16_2)]⟩)] w fun v13 w14 => Stay [k3, k4, k7, k8, k10, k13, k14, k16] w w14 ∧ ∃ b15 : Bool, ∃ (a16 : Option Addr) (n17 c18 : Nat), ∃ i19 : Int, v13 = (.agg ⟨[(.bool b15), (.slice a16 n17 c18), (.int .i64 i19)]⟩) ∧ ∀ w21 : World, Exc k13 w14 w21 → straightedgeref02_D_Abs.call [(.agg ⟨[(.bool y16_0), (.slice y16_1p y16_1n y16_1c), (.int .i64 y16_2)]⟩)] w21.drew fun v35 w36 => Stay [k3, k4, k7, k8, k10, k13, k14, k16] w21.drew w36 ∧ ∃ b37 : Bool, ∃ (a38 : Option Addr) (n39 c40 : Nat), ∃ i41 : Int, v35 = (.agg ⟨[(.bool b37), (.slice a38 n39 c40), (.int .i64 i41)]⟩) ∧ Kept w21.drew w36 ∧ straightedgeref02_D_Add.call [(.agg ⟨[(.bool y14_0), (.slice y14_1p y14_1n y14_1c), (.int .i64 y14_2)]⟩), (.agg ⟨[(.bool b37), (.slice a38 n39 c40), (.int .i64 i41)]⟩)] w36 fun v42 w43 => Stay [k3, k4, k7, k8, k10, k13, k14, k16] w36 w43 ∧ ∃ b44 : Bool, ∃ (a45 : Option Addr) (n46 c47 : Nat), ∃ i48 : Int, v42 = (.agg ⟨[(.bool b44), (.slice a45 n46 c47), (.int .i64 i48)]⟩) ∧ ∀ w50 : World, Exc k14 w43 w50 → h12 k3 y3_0 y3_1 y3_2p y3_2n y3_2c k4 y4_0 y4_1 y4_2p y4_2n y4_2c k7 y7_0 y7_1 y7_2p y7_2n y7_2c k8 y8_0 y8_1 y8_2p y8_2n y8_2c z9p z9n z9c k10 y10_0 y10_1p y10_1n y10_1c y10_2 z11 z12 k13 b15 a16 n17 c18 i19 k14 b44 a45 n46 c47 i48 (IntKind.i64.wrap (z15 + 1)) w50
def straightedgelaw16_closeTo.e18 (K : Value → World → Prop) (h5 : Nat → Int → Int → Option Addr → Nat → Nat → Nat → Int → Int → Option Addr → Nat → Nat → Nat → Int → Int → Option Addr → Nat → Nat → Nat → Int → Int → Option Addr → Nat → Nat → Option Addr → Nat → Nat → Nat → Bool → Option Addr → Nat → Nat → Int → Int → World → Prop) (h8 : Nat → Int → Int → Option Addr → Nat → Nat → Nat → Int → Int → Option Addr → Nat → Nat → Nat → Int → Int → Option Addr → Nat → Nat → Nat → Int → Int → Option Addr → Nat → Nat → Option Addr → Nat → Nat → Nat → Bool → Option Addr → Nat → Nat → Int → Int → Int → World → Prop) (h12 : Nat → Int → Int → Option Addr → Nat → Nat → Nat → Int → Int → Option Addr → Nat → Nat → Nat → Int → Int → Option Addr → Nat → Nat → Nat → Int → Int → Option Addr → Nat → Nat → Option Addr → Nat → Nat → Nat → Bool → Option Addr → Nat → Nat → Int → Int → Int → Nat → Bool → Option Addr → Nat → Nat → Int → Nat → Bool → Option Addr → Nat → Nat → Int → Int → World → Prop) (h15 : Nat → Int → Int → Option Addr → Nat → Nat → Nat → Int → Int → Option Addr → Nat → Nat → Nat → Int → Int → Option Addr → Nat → Nat → Nat → Int → Int → Option Addr → Nat → Nat → Option Addr → Nat → Nat → Nat → Bool → Option Addr → Nat → Nat → Int → Int → Int → Nat → Bool → Option Addr → Nat → Nat → Int → Nat → Bool → Option Addr → Nat → Nat → Int → Int → Nat → Bool → Option Addr → Nat → Nat → Int → World → Prop) (h18 : Nat → Int → Int → Option Addr → Nat → Nat → Nat → Int → Int → Option Addr → Nat → Nat → Nat → Int → Int → Option Addr → Nat → Nat → Nat → Int → Int → Option Addr → Nat → Nat → Option Addr → Nat → Nat → Nat → Bool → Option Addr → Nat → Nat → Int → Int → Int → Nat → Bool → Option Addr → Nat → Nat → Int → Nat → Bool → Option Addr → Nat → Nat → Int → World → Prop) (k3 : Nat) (y3_0 : Int) (y3_1 : Int) (y3_2p : Option Addr) (y3_2n y3_2c : Nat) (k4 : Nat) (y4_0 : Int) (y4_1 : Int) (y4_2p : Option Addr) (y4_2n y4_2c : Nat) (k7 : Nat) (y7_0 : Int) (y7_1 : Int) (y7_2p : Option Addr) (y7_2n y7_2c : Nat) (k8 : Nat) (y8_0 : Int) (y8_1 : Int) (y8_2p : Option Addr) (y8_2n y8_2c : Nat) (z9p : Option Addr) (z9n z9c : Nat) (k10 : Nat) (y10_0 : Bool) (y10_1p : Option Addr) (y10_1n y10_1c : Nat) (y10_2 : Int) (z11 : Int) (z12 : Int) (k13 : Nat) (y13_0 : Bool) (y13_1p : Option Addr) (y13_1n y13_1c : Nat) (y13_2 : Int) (k17 : Nat) (y17_0 : Bool) (y17_1p : Option Addr) (y17_1n y17_1c : Nat) (y17_2 : Int) (w : World) : Prop := ptrSome z9p fun q14 => (0 : Int) ≤ z11 ∧ z11 < ((z9n : Nat) : Int) ∧ rd_i64 w.drew (q14.add (Int.toNat z11)) fun i15 => straightedgeref03_M_At.call [(.agg ⟨[(.int .i64 y3_0), (.int .i64 y3_1), (.slice y3_2p y3_2n y3_2c)]⟩), (.int .i64 i15), (.int .i64 z12)] w.drew fun v22 w23 => Stay [k3, k4, k7, k8, k10, k13, k17] w.drew w23 ∧ ∃ x24 : Nat, v22 = (.float .f64 x24) ∧ Kept w.drew w23 ∧ straightedgeref02_Of.call [(.float .f64 x24)] w23 fun v25 w26 => Stay [k3, k4, k7, k8, k10, k13, k17] w23 w26 ∧ ∃ b27 : Bool, ∃ (a28 : Option Addr) (n29 c30 : Nat), ∃ i31 : Int, v25 = (.agg ⟨[(.bool b27), (.slice a28 n29 c30), (.int .i64 i31)]⟩) ∧ Kept w23 w26 ∧ straightedgeref02_D_Sub.call [(.agg ⟨[(.bool y13_0), (.slice y13_1p y13_1n y13_1c), (.int .i64 y13_2)]⟩), (.agg ⟨[(.bool b27), (.slice a28 n29 c30), (.int .i64 i31)]⟩)] w26 fun v32 w33 => Stay [k3, k4, k7, k8, k10, k13, k17] w26 w33 ∧ ∃ b34 : Bool, ∃ (a35 : Option Addr) (n36 c37 : Nat), ∃ i38 : Int, v32 = (.agg ⟨[(.bool b34), (.slice a35 n36 c37), (.int .i64 i38)]⟩) ∧ Kept w26 w33 ∧ straightedgeref02_D_Abs.call [(.agg ⟨[(.bool b34), (.slice a35 n36 c37), (.int .i64 i38)]⟩)] w33 fun v39 w40 => Stay [k3, k4, k7, k8, k10, k13, k17] w33 w40 ∧ ∃ b41 : Bool, ∃ (a42 : Option Addr) (n43 c44 : Nat), ∃ i45 : Int, v39 = (.agg ⟨[(.bool b41), (.slice a42 n43 c44), (.int .i64 i45)]⟩) ∧ Kept w33 w40 ∧ straightedgeref02_D_Cmp.call [(.agg ⟨[(.bool b41), (.slice a42 n43 c44), (.int .i64 i45)]⟩), (.agg ⟨[(.bool y17_0), (.slice y17_1p y17_1n y17_1c), (.int .i64 y17_2)]⟩)] w40 fun v46 w47 => Stay [k3, k4, k7, k8, k10, k13, k17] w40 w47 ∧ ∃ i48 : Int, v46 = (.int .i64 i48) ∧ br (decide (i48 > 0)) (K (.bool false) w47) (h8 k3 y3_0 y3_1 y3_2p y3_2n y3_2c k4 y4_0 y4_1 y4_2p y4_2n y4_2c k7 y7_0 y7_1 y7_2p y7_2n y7_2c k8 y8_0 y8_1 y8_2p y8_2n y8_2c z9p z9n z9c k10 y10_0 y10_1p y10_1n y10_1c y10_2 z11 (IntKind.i64.wrap (z12 + 1)) w47)
def straightedgelaw16_closeTo.I (K : Value → World → Prop) : Nat → (Nat → Int → Int → Option Addr → Nat → Nat → Nat → Int → Int → Option Addr → Nat → Nat → Nat → Int → Int → Option Addr → Nat → Nat → Nat → Int → Int → Option Addr → Nat → Nat → Option Addr → Nat → Nat → Nat → Bool → Option Addr → Nat → Nat → Int → Int → World → Prop) × (Nat → Int → Int → Option Addr → Nat → Nat → Nat → Int → Int → Option Addr → Nat → Nat → Nat → Int → Int → Option Addr → Nat → Nat → Nat → Int → Int → Option Addr → Nat → Nat → Option Addr → Nat → Nat → Nat → Bool → Option Addr → Nat → Nat → Int → Int → Int → World → Prop) × (Nat → Int → Int → Option Addr → Nat → Nat → Nat → Int → Int → Option Addr → Nat → Nat → Nat → Int → Int → Option Addr → Nat → Nat → Nat → Int → Int → Option Addr → Nat → Nat → Option Addr → Nat → Nat → Nat → Bool → Option Addr → Nat → Nat → Int → Int → Int → Nat → Bool → Option Addr → Nat → Nat → Int → Nat → Bool → Option Addr → Nat → Nat → Int → Int → World → Prop) × (Nat → Int → Int → Option Addr → Nat → Nat → Nat → Int → Int → Option Addr → Nat → Nat → Nat → Int → Int → Option Addr → Nat → Nat → Nat → Int → Int → Option Addr → Nat → Nat → Option Addr → Nat → Nat → Nat → Bool → Option Addr → Nat → Nat → Int → Int → Int → Nat → Bool → Option Addr → Nat → Nat → Int → Nat → Bool → Option Addr → Nat → Nat → Int → Int → Nat → Bool → Option Addr → Nat → Nat → Int → World → Prop) × (Nat → Int → Int → Option Addr → Nat → Nat → Nat → Int → Int → Option Addr → Nat → Nat → Nat → Int → Int → Option Addr → Nat → Nat → Nat → Int → Int → Option Addr → Nat → Nat → Option Addr → Nat → Nat → Nat → Bool → Option Addr → Nat → Nat → Int → Int → Int → Nat → Bool → Option Addr → Nat → Nat → Int → Nat → Bool → Option Addr → Nat → Nat → Int → World → Prop)
  | 0 => (fun _ _ _ _ _ _ _ _ _ _ _ _ _ _ _ _ _ _ _ _ _ _ _ _ _ _ _ _ _ _ _ _ _ _ _ => False, fun _ _ _ _ _ _ _ _ _ _ _ _ _ _ _ _ _ _ _ _ _ _ _ _ _ _ _ _ _ _ _ _ _ _ _ _ => False, fun _ _ _ _ _ _ _ _ _ _ _ _ _ _ _ _ _ _ _ _ _ _ _ _ _ _ _ _ _ _ _ _ _ _ _ _ _ _ _ _ _ _ _ _ _ _ _ _ _ => False, fun _ _ _ _ _ _ _ _ _ _ _ _ _ _ _ _ _ _ _ _ _ _ _ _ _ _ _ _ _ _ _ _ _ _ _ _ _ _ _ _ _ _ _ _ _ _ _ _ _ _ _ _ _ _ _ => False, fun _ _ _ _ _ _ _ _ _ _ _ _ _ _ _ _ _ _ _ _ _ _ _ _ _ _ _ _ _ _ _ _ _ _ _ _ _ _ _ _ _ _ _ _ _ _ _ _ => False)
  | fu + 1 => (straightedgelaw16_closeTo.e5 K (straightedgelaw16_closeTo.I K fu).1 (straightedgelaw16_closeTo.I K fu).2.1 (straightedgelaw16_closeTo.I K fu).2.2.1 (straightedgelaw16_closeTo.I K fu).2.2.2.1 (straightedgelaw16_closeTo.I K fu).2.2.2.2, straightedgelaw16_closeTo.e8 K (straightedgelaw16_closeTo.I K fu).1 (straightedgelaw16_closeTo.I K fu).2.1 (straightedgelaw16_closeTo.I K fu).2.2.1 (straightedgelaw16_closeTo.I K fu).2.2.2.1 (straightedgelaw16_closeTo.I K fu).2.2.2.2, straightedgelaw16_closeTo.e12 K (straightedgelaw16_closeTo.I K fu).1 (straightedgelaw16_closeTo.I K fu).2.1 (straightedgelaw16_closeTo.I K fu).2.2.1 (straightedgelaw16_closeTo.I K fu).2.2.2.1 (straightedgelaw16_closeTo.I K fu).2.2.2.2, straightedgelaw16_closeTo.e15 K (straightedgelaw16_closeTo.I K fu).1 (straightedgelaw16_closeTo.I K fu).2.1 (straightedgelaw16_closeTo.I K fu).2.2.1 (straightedgelaw16_closeTo.I K fu).2.2.2.1 (straightedgelaw16_closeTo.I K fu).2.2.2.2, straightedgelaw16_closeTo.e18 K (straightedgelaw16_closeTo.I K fu).1 (straightedgelaw16_closeTo.I K fu).2.1 (straightedgelaw16_closeTo.I K fu).2.2.1 (straightedgelaw16_closeTo.I K fu).2.2.2.1 (straightedgelaw16_closeTo.I K fu).2.2.2.2)
def straightedgelaw16_closeTo.s (fu : Nat) (A0_0 : Int) (A0_1 : Int) (A0_2p : Option Addr) (A0_2n A0_2c : Nat) (A1_0 : Int) (A1_1 : Int) (A1_2p : Option Addr) (A1_2n A1_2c : Nat) (A2p : Option Addr) (A2n A2c : Nat) (w : World) (K : Value → World → Prop) : Prop := ∀ (k3 : Nat) (w2 : World), k3 = w.heap.size → k3 < w2.heap.size → Ext w w2 → ∀ (k7 : Nat) (w6 : World), k7 = w2.heap.size → k7 < w6.heap.size → Ext w2 w6 → straightedgeref16_Parts.call [(.agg ⟨[(.int .i64 A1_0), (.int .i64 A1_1), (.slice A1_2p A1_2n A1_2c)]⟩)] w6 fun v14 w15 => Stay [k7, k3] w6 w15 ∧ ∃ i16 : Int, ∃ i17 : Int, ∃ (a18 : Option Addr) (n19 c20 : Nat), ∃ i21 : Int, ∃ i22 : Int, ∃ (a23 : Option Addr) (n24 c25 : Nat), v14 = (.tuple ⟨[(.agg ⟨[(.int .i64 i16), (.int .i64 i17), (.slice a18 n19 c20)]⟩), (.agg ⟨[(.int .i64 i21), (.int .i64 i22), (.slice a23 n24 c25)]⟩)]⟩) ∧ ∀ (k28 : Nat) (w27 : World), k28 = w15.heap.size → k28 < w27.heap.size → Ext w15 w27 → ∀ (k32 : Nat) (w31 : World), k32 = w27.heap.size → k32 < w31.heap.size → Ext w27 w31 → ∀ w34 : World, Exc k28 w31 w34 → ∀ w35 : World, Exc k32 w34 w35 → straightedgeref16_Order.call [(.slice A2p A2n A2c)] w35 fun v36 w37 => Stay [k32, k28, k7, k3] w35 w37 ∧ ∃ (a38 : Option Addr) (n39 c40 : Nat), v36 = (.slice a38 n39 c40) ∧ ∀ w48 : World, Ext w37.drew w48 → straightedgeref10_Max.call [(.agg ⟨[(.int .i64 i21), (.int .i64 i22), (.slice a23 n24 c25)]⟩)] w48 fun v49 w50 => Ext w48 w50 ∧ ∃ x51 : Nat, v49 = (.float .f64 x51) ∧ ∀ w52 : World, Ext w50 w52 → straightedgeref02_Of.call [(.float .f64 x51)] w52 fun v53 w54 => Ext w52 w54 ∧ ∃ b55 : Bool, ∃ (a56 : Option Addr) (n57 c58 : Nat), ∃ i59 : Int, v53 = (.agg ⟨[(.bool b55), (.slice a56 n57 c58), (.int .i64 i59)]⟩) ∧ ∀ w60 : World, Ext w54 w60 → straightedgeref02_Int.call [(.int .i64 1)] w60 fun v61 w62 => Ext w60 w62 ∧ ∃ b63 : Bool, ∃ (a64 : Option Addr) (n65 c66 : Nat), ∃ i67 : Int, v61 = (.agg ⟨[(.bool b63), (.slice a64 n65 c66), (.int .i64 i67)]⟩) ∧ ∀ w68 : World, Ext w62 w68 → straightedgeref02_D_Add.call [(.agg ⟨[(.bool b55), (.slice a56 n57 c58), (.int .i64 i59)]⟩), (.agg ⟨[(.bool b63), (.slice a64 n65 c66), (.int .i64 i67)]⟩)] w68 fun v69 w70 => Ext w68 w70 ∧ ∃ b71 : Bool, ∃ (a72 : Option Addr) (n73 c74 : Nat), ∃ i75 : Int, v69 = (.agg ⟨[(.bool b71), (.slice a72 n73 c74), (.int .i64 i75)]⟩) ∧ ∀ w76 : World, Ext w70 w76 → straightedgeref02_D_Shift.call [(.agg ⟨[(.bool b71), (.slice a72 n73 c74), (.int .i64 i75)]⟩), (.int .i64 (-1060))] w76 fun v77 w78 => Ext w76 w78 ∧ ∃ b79 : Bool, ∃ (a80 : Option Addr) (n81 c82 : Nat), ∃ i83 : Int, v77 = (.agg ⟨[(.bool b79), (.slice a80 n81 c82), (.int .i64 i83)]⟩) ∧ ∀ w84 : World, Ext w78 w84 → straightedgeref02_Int.call [(.int .i64 A1_0)] w84 fun v85 w86 => Ext w84 w86 ∧ ∃ b87 : Bool, ∃ (a88 : Option Addr) (n89 c90 : Nat), ∃ i91 : Int, v85 = (.agg ⟨[(.bool b87), (.slice a88 n89 c90), (.int .i64 i91)]⟩) ∧ ∀ w92 : World, Ext w86 w92 → straightedgeref02_D_Mul.call [(.agg ⟨[(.bool b79), (.slice a80 n81 c82), (.int .i64 i83)]⟩), (.agg ⟨[(.bool b87), (.slice a88 n89 c90), (.int .i64 i91)]⟩)] w92 fun v93 w94 => Ext w92 w94 ∧ ∃ b95 : Bool, ∃ (a96 : Option Addr) (n97 c98 : Nat), ∃ i99 : Int, v93 = (.agg ⟨[(.bool b95), (.slice a96 n97 c98), (.int .i64 i99)]⟩) ∧ ∀ w100 : World, Ext w94 w100 → ∀ k102 : Nat, w37.drew.heap.size ≤ k102 → k102 < w100.heap.size → (k102 < w48.heap.size ∨ w50.heap.size ≤ k102) → (k102 < w52.heap.size ∨ w54.heap.size ≤ k102) → (k102 < w60.heap.size ∨ w62.heap.size ≤ k102) → (k102 < w68.heap.size ∨ w70.heap.size ≤ k102) → (k102 < w76.heap.size ∨ w78.heap.size ≤ k102) → (k102 < w84.heap.size ∨ w86.heap.size ≤ k102) → (k102 < w92.heap.size ∨ w94.heap.size ≤ k102) → ∀ w104 : World, Exc k102 w100 w104 → (straightedgelaw16_closeTo.I K fu).1 k3 A0_0 A0_1 A0_2p A0_2n A0_2c k7 A1_0 A1_1 A1_2p A1_2n A1_2c k28 i16 i17 a18 n19 c20 k32 i21 i22 a23 n24 c25 a38 n39 c40 k102 b95 a96 n97 c98 i99 0 w104
theorem straightedgelaw16_closeTo.b5_s {K : Value → World → Prop} {x5 : Option Addr → Option Addr → Option Addr → Option Addr → Option Addr → Nat → Nat → Option Addr → Int → World → Prop} {x8 : Option Addr → Option Addr → Option Addr → Option Addr → Option Addr → Nat → Nat → Option Addr → Int → Int → World → Prop} {x12 : Option Addr → Option Addr → Option Addr → Option Addr → Option Addr → Nat → Nat → Option Addr → Int → Int → Option Addr → Option Addr → Int → World → Prop} {x15 : Option Addr → Option Addr → Option Addr → Option Addr → Option Addr → Nat → Nat → Option Addr → Int → Int → Option Addr → Option Addr → Int → Option Addr → World → Prop} {x18 : Option Addr → Option Addr → Option Addr → Option Addr → Option Addr → Nat → Nat → Option Addr → Int → Int → Option Addr → Option Addr → World → Prop} {s5 : Nat → Int → Int → Option Addr → Nat → Nat → Nat → Int → Int → Option Addr → Nat → Nat → Nat → Int → Int → Option Addr → Nat → Nat → Nat → Int → Int → Option Addr → Nat → Nat → Option Addr → Nat → Nat → Nat → Bool → Option Addr → Nat → Nat → Int → Int → World → Prop} {s8 : Nat → Int → Int → Option Addr → Nat → Nat → Nat → Int → Int → Option Addr → Nat → Nat → Nat → Int → Int → Option Addr → Nat → Nat → Nat → Int → Int → Option Addr → Nat → Nat → Option Addr → Nat → Nat → Nat → Bool → Option Addr → Nat → Nat → Int → Int → Int → World → Prop} {s12 : Nat → Int → Int → Option Addr → Nat → Nat → Nat → Int → Int → Option Addr → Nat → Nat → Nat → Int → Int → Option Addr → Nat → Nat → Nat → Int → Int → Option Addr → Nat → Nat → Option Addr → Nat → Nat → Nat → Bool → Option Addr → Nat → Nat → Int → Int → Int → Nat → Bool → Option Addr → Nat → Nat → Int → Nat → Bool → Option Addr → Nat → Nat → Int → Int → World → Prop} {s15 : Nat → Int → Int → Option Addr → Nat → Nat → Nat → Int → Int → Option Addr → Nat → Nat → Nat → Int → Int → Option Addr → Nat → Nat → Nat → Int → Int → Option Addr → Nat → Nat → Option Addr → Nat → Nat → Nat → Bool → Option Addr → Nat → Nat → Int → Int → Int → Nat → Bool → Option Addr → Nat → Nat → Int → Nat → Bool → Option Addr → Nat → Nat → Int → Int → Nat → Bool → Option Addr → Nat → Nat → Int → World → Prop} {s18 : Nat → Int → Int → Option Addr → Nat → Nat → Nat → Int → Int → Option Addr → Nat → Nat → Nat → Int → Int → Option Addr → Nat → Nat → Nat → Int → Int → Option Addr → Nat → Nat → Option Addr → Nat → Nat → Nat → Bool → Option Addr → Nat → Nat → Int → Int → Int → Nat → Bool → Option Addr → Nat → Nat → Int → Nat → Bool → Option Addr → Nat → Nat → Int → World → Prop} (i5 : ∀ {q3 : Addr} {y3_0 : Int} {y3_1 : Int} {y3_2p : Option Addr} {y3_2n y3_2c : Nat} {q4 : Addr} {y4_0 : Int} {y4_1 : Int} {y4_2p : Option Addr} {y4_2n y4_2c : Nat} {q7 : Addr} {y7_0 : Int} {y7_1 : Int} {y7_2p : Option Addr} {y7_2n y7_2c : Nat} {q8 : Addr} {y8_0 : Int} {y8_1 : Int} {y8_2p : Option Addr} {y8_2n y8_2c : Nat} {z9p : Option Addr} {z9n z9c : Nat} {q10 : Addr} {y10_0 : Bool} {y10_1p : Option Addr} {y10_1n y10_1c : Nat} {y10_2 : Int} {z11 : Int} {w : World}, s5 q3.block y3_0 y3_1 y3_2p y3_2n y3_2c q4.block y4_0 y4_1 y4_2p y4_2n y4_2c q7.block y7_0 y7_1 y7_2p y7_2n y7_2c q8.block y8_0 y8_1 y8_2p y8_2n y8_2c z9p z9n z9c q10.block y10_0 y10_1p y10_1n y10_1c y10_2 z11 w → St w [(q3, [(.int .i64 y3_0), (.int .i64 y3_1), (.slice y3_2p y3_2n y3_2c)]), (q4, [(.int .i64 y4_0), (.int .i64 y4_1), (.slice y4_2p y4_2n y4_2c)]), (q7, [(.int .i64 y7_0), (.int .i64 y7_1), (.slice y7_2p y7_2n y7_2c)]), (q8, [(.int .i64 y8_0), (.int .i64 y8_1), (.slice y8_2p y8_2n y8_2c)]), (q10, [(.bool y10_0), (.slice y10_1p y10_1n y10_1c), (.int .i64 y10_2)])] → x5 (some q3) (some q4) (some q7) (some q8) z9p z9n z9c (some q10) z11 w) (i8 : ∀ {q3 : Addr} {y3_0 : Int} {y3_1 : Int} {y3_2p : Option Addr} {y3_2n y3_2c : Nat} {q4 : Addr} {y4_0 : Int} {y4_1 : Int} {y4_2p : Option Addr} {y4_2n y4_2c : Nat} {q7 : Addr} {y7_0 : Int} {y7_1 : Int} {y7_2p : Option Addr} {y7_2n y7_2c : Nat} {q8 : Addr} {y8_0 : Int} {y8_1 : Int} {y8_2p : Option Addr} {y8_2n y8_2c : Nat} {z9p : Option Addr} {z9n z9c : Nat} {q10 : Addr} {y10_0 : Bool} {y10_1p : Option Addr} {y10_1n y10_1c : Nat} {y10_2 : Int} {z11 : Int} {z12 : Int} {w : World}, s8 q3.block y3_0 y3_1 y3_2p y3_2n y3_2c q4.block y4_0 y4_1 y4_2p y4_2n y4_2c q7.block y7_0 y7_1 y7_2p y7_2n y7_2c q8.block y8_0 y8_1 y8_2p y8_2n y8_2c z9p z9n z9c q10.block y10_0 y10_1p y10_1n y10_1c y10_2 z11 z12 w → St w [(q3, [(.int .i64 y3_0), (.int .i64 y3_1), (.slice y3_2p y3_2n y3_2c)]), (q4, [(.int .i64 y4_0), (.int .i64 y4_1), (.slice y4_2p y4_2n y4_2c)]), (q7, [(.int .i64 y7_0), (.int .i64 y7_1), (.slice y7_2p y7_2n y7_2c)]), (q8, [(.int .i64 y8_0), (.int .i64 y8_1), (.slice y8_2p y8_2n y8_2c)]), (q10, [(.bool y10_0), (.slice y10_1p y10_1n y10_1c), (.int .i64 y10_2)])] → x8 (some q3) (some q4) (some q7) (some q8) z9p z9n z9c (some q10) z11 z12 w) (i12 : ∀ {q3 : Addr} {y3_0 : Int} {y3_1 : Int} {y3_2p : Option Addr} {y3_2n y3_2c : Nat} {q4 : Addr} {y4_0 : Int} {y4_1 : Int} {y4_2p : Option Addr} {y4_2n y4_2c : Nat} {q7 : Addr} {y7_0 : Int} {y7_1 : Int} {y7_2p : Option Addr} {y7_2n y7_2c : Nat} {q8 : Addr} {y8_0 : Int} {y8_1 : Int} {y8_2p : Option Addr} {y8_2n y8_2c : Nat} {z9p : Option Addr} {z9n z9c : Nat} {q10 : Addr} {y10_0 : Bool} {y10_1p : Option Addr} {y10_1n y10_1c : Nat} {y10_2 : Int} {z11 : Int} {z12 : Int} {q13 : Addr} {y13_0 : Bool} {y13_1p : Option Addr} {y13_1n y13_1c : Nat} {y13_2 : Int} {q14 : Addr} {y14_0 : Bool} {y14_1p : Option Addr} {y14_1n y14_1c : Nat} {y14_2 : Int} {z15 : Int} {w : World}, s12 q3.block y3_0 y3_1 y3_2p y3_2n y3_2c q4.block y4_0 y4_1 y4_2p y4_2n y4_2c q7.block y7_0 y7_1 y7_2p y7_2n y7_2c q8.block y8_0 y8_1 y8_2p y8_2n y8_2c z9p z9n z9c q10.block y10_0 y10_1p y10_1n y10_1c y10_2 z11 z12 q13.block y13_0 y13_1p y13_1n y13_1c y13_2 q14.block y14_0 y14_1p y14_1n y14_1c y14_2 z15 w → St w [(q3, [(.int .i64 y3_0), (.int .i64 y3_1), (.slice y3_2p y3_2n y3_2c)]), (q4, [(.int .i64 y4_0), (.int .i64 y4_1), (.slice y4_2p y4_2n y4_2c)]), (q7, [(.int .i64 y7_0), (.int .i64 y7_1), (.slice y7_2p y7_2n y7_2c)]), (q8, [(.int .i64 y8_0), (.int .i64 y8_1), (.slice y8_2p y8_2n y8_2c)]), (q10, [(.bool y10_0), (.slice y10_1p y10_1n y10_1c), (.int .i64 y10_2)]), (q13, [(.bool y13_0), (.slice y13_1p y13_1n y13_1c), (.int .i64 y13_2)]), (q14, [(.bool y14_0), (.slice y14_1p y14_1n y14_1c), (.int .i64 y14_2)])] → x12 (some q3) (some q4) (some q7) (some q8) z9p z9n z9c (some q10) z11 z12 (some q13) (some q14) z15 w) (i15 : ∀ {q3 : Addr} {y3_0 : Int} {y3_1 : Int} {y3_2p : Option Addr} {y3_2n y3_2c : Nat} {q4 : Addr} {y4_0 : Int} {y4_1 : Int} {y4_2p : Option Addr} {y4_2n y4_2c : Nat} {q7 : Addr} {y7_0 : Int} {y7_1 : Int} {y7_2p : Option Addr} {y7_2n y7_2c : Nat} {q8 : Addr} {y8_0 : Int} {y8_1 : Int} {y8_2p : Option Addr} {y8_2n y8_2c : Nat} {z9p : Option Addr} {z9n z9c : Nat} {q10 : Addr} {y10_0 : Bool} {y10_1p : Option Addr} {y10_1n y10_1c : Nat} {y10_2 : Int} {z11 : Int} {z12 : Int} {q13 : Addr} {y13_0 : Bool} {y13_1p : Option Addr} {y13_1n y13_1c : Nat} {y13_2 : Int} {q14 : Addr} {y14_0 : Bool} {y14_1p : Option Addr} {y14_1n y14_1c : Nat} {y14_2 : Int} {z15 : Int} {q16 : Addr} {y16_0 : Bool} {y16_1p : Option Addr} {y16_1n y16_1c : Nat} {y16_2 : Int} {w : World}, s15 q3.block y3_0 y3_1 y3_2p y3_2n y3_2c q4.block y4_0 y4_1 y4_2p y4_2n y4_2c q7.block y7_0 y7_1 y7_2p y7_2n y7_2c q8.block y8_0 y8_1 y8_2p y8_2n y8_2c z9p z9n z9c q10.block y10_0 y10_1p y10_1n y10_1c y10_2 z11 z12 q13.block y13_0 y13_1p y13_1n y13_1c y13_2 q14.block y14_0 y14_1p y14_1n y14_1c y14_2 z15 q16.block y16_0 y16_1p y16_1n y16_1c y16_2 w → St w [(q3, [(.int .i64 y3_0), (.int .i64 y3_1), (.slice y3_2p y3_2n y3_2c)]), (q4, [(.int .i64 y4_0), (.int .i64 y4_1), (.slice y4_2p y4_2n y4_2c)]), (q7, [(.int .i64 y7_0), (.int .i64 y7_1), (.slice y7_2p y7_2n y7_2c)]), (q8, [(.int .i64 y8_0), (.int .i64 y8_1), (.slice y8_2p y8_2n y8_2c)]), (q10, [(.bool y10_0), (.slice y10_1p y10_1n y10_1c), (.int .i64 y10_2)]), (q13, [(.bool y13_0), (.slice y13_1p y13_1n y13_1c), (.int .i64 y13_2)]), (q14, [(.bool y14_0), (.slice y14_1p y14_1n y14_1c), (.int .i64 y14_2)]), (q16, [(.bool y16_0), (.slice y16_1p y16_1n y16_1c), (.int .i64 y16_2)])] → x15 (some q3) (some q4) (some q7) (some q8) z9p z9n z9c (some q10) z11 z12 (some q13) (some q14) z15 (some q16) w) (i18 : ∀ {q3 : Addr} {y3_0 : Int} {y3_1 : Int} {y3_2p : Option Addr} {y3_2n y3_2c : Nat} {q4 : Addr} {y4_0 : Int} {y4_1 : Int} {y4_2p : Option Addr} {y4_2n y4_2c : Nat} {q7 : Addr} {y7_0 : Int} {y7_1 : Int} {y7_2p : Option Addr} {y7_2n y7_2c : Nat} {q8 : Addr} {y8_0 : Int} {y8_1 : Int} {y8_2p : Option Addr} {y8_2n y8_2c : Nat} {z9p : Option Addr} {z9n z9c : Nat} {q10 : Addr} {y10_0 : Bool} {y10_1p : Option Addr} {y10_1n y10_1c : Nat} {y10_2 : Int} {z11 : Int} {z12 : Int} {q13 : Addr} {y13_0 : Bool} {y13_1p : Option Addr} {y13_1n y13_1c : Nat} {y13_2 : Int} {q17 : Addr} {y17_0 : Bool} {y17_1p : Option Addr} {y17_1n y17_1c : Nat} {y17_2 : Int} {w : World}, s18 q3.block y3_0 y3_1 y3_2p y3_2n y3_2c q4.block y4_0 y4_1 y4_2p y4_2n y4_2c q7.block y7_0 y7_1 y7_2p y7_2n y7_2c q8.block y8_0 y8_1 y8_2p y8_2n y8_2c z9p z9n z9c q10.block y10_0 y10_1p y10_1n y10_1c y10_2 z11 z12 q13.block y13_0 y13_1p y13_1n y13_1c y13_2 q17.block y17_0 y17_1p y17_1n y17_1c y17_2 w → St w [(q3, [(.int .i64 y3_0), (.int .i64 y3_1), (.slice y3_2p y3_2n y3_2c)]), (q4, [(.int .i64 y4_0), (.int .i64 y4_1), (.slice y4_2p y4_2n y4_2c)]), (q7, [(.int .i64 y7_0), (.int .i64 y7_1), (.slice y7_2p y7_2n y7_2c)]), (q8, [(.int .i64 y8_0), (.int .i64 y8_1), (.slice y8_2p y8_2n y8_2c)]), (q10, [(.bool y10_0), (.slice y10_1p y10_1n y10_1c), (.int .i64 y10_2)]), (q13, [(.bool y13_0), (.slice y13_1p y13_1n y13_1c), (.int .i64 y13_2)]), (q17, [(.bool y17_0), (.slice y17_1p y17_1n y17_1c), (.int .i64 y17_2)])] → x18 (some q3) (some q4) (some q7) (some q8) z9p z9n z9c (some q10) z11 z12 (some q13) (some q17) w) {q3 : Addr} {y3_0 : Int} {y3_1 : Int} {y3_2p : Option Addr} {y3_2n y3_2c : Nat} {q4 : Addr} {y4_0 : Int} {y4_1 : Int} {y4_2p : Option Addr} {y4_2n y4_2c : Nat} {q7 : Addr} {y7_0 : Int} {y7_1 : Int} {y7_2p : Option Addr} {y7_2n y7_2c : Nat} {q8 : Addr} {y8_0 : Int} {y8_1 : Int} {y8_2p : Option Addr} {y8_2n y8_2c : Nat} {z9p : Option Addr} {z9n z9c : Nat} {q10 : Addr} {y10_0 : Bool} {y10_1p : Option Addr} {y10_1n y10_1c : Nat} {y10_2 : Int} {z11 : Int} {w : World} (h : straightedgelaw16_closeTo.e5 K s5 s8 s12 s15 s18 q3.block y3_0 y3_1 y3_2p y3_2n y3_2c q4.block y4_0 y4_1 y4_2p y4_2n y4_2c q7.block y7_0 y7_1 y7_2p y7_2n y7_2c q8.block y8_0 y8_1 y8_2p y8_2n y8_2c z9p z9n z9c q10.block y10_0 y10_1p y10_1n y10_1c y10_2 z11 w) (st : St w [(q3, [(.int .i64 y3_0), (.int .i64 y3_1), (.slice y3_2p y3_2n y3_2c)]), (q4, [(.int .i64 y4_0), (.int .i64 y4_1), (.slice y4_2p y4_2n y4_2c)]), (q7, [(.int .i64 y7_0), (.int .i64 y7_1), (.slice y7_2p y7_2n y7_2c)]), (q8, [(.int .i64 y8_0), (.int .i64 y8_1), (.slice y8_2p y8_2n y8_2c)]), (q10, [(.bool y10_0), (.slice y10_1p y10_1n y10_1c), (.int .i64 y10_2)])]) : straightedgelaw16_closeTo.b5 K x5 x8 x12 x15 x18 (some q3) (some q4) (some q7) (some q8) z9p z9n z9c (some q10) z11 w := by
  unfold straightedgelaw16_closeTo.b5
  unfold straightedgelaw16_closeTo.e5 at h
  refine ptrSome_intro rfl ?_
  refine rd_i64.bx 1 0 st rfl rfl rfl ?_
  refine br_mono (fun h => ?_) (fun h => ?_) h
  · exact i8 h (st.pick [0, 1, 2, 3, 4] (by decide))
  · exact h
theorem straightedgelaw16_closeTo.b8_s {K : Value → World → Prop} {x5 : Option Addr → Option Addr → Option Addr → Option Addr → Option Addr → Nat → Nat → Option Addr → Int → World → Prop} {x8 : Option Addr → Option Addr → Option Addr → Option Addr → Option Addr → Nat → Nat → Option Addr → Int → Int → World → Prop} {x12 : Option Addr → Option Addr → Option Addr → Option Addr → Option Addr → Nat → Nat → Option Addr → Int → Int → Option Addr → Option Addr → Int → World → Prop} {x15 : Option Addr → Option Addr → Option Addr → Option Addr → Option Addr → Nat → Nat → Option Addr → Int → Int → Option Addr → Option Addr → Int → Option Addr → World → Prop} {x18 : Option Addr → Option Addr → Option Addr → Option Addr → Option Addr → Nat → Nat → Option Addr → Int → Int → Option Addr → Option Addr → World → Prop} {s5 : Nat → Int → Int → Option Addr → Nat → Nat → Nat → Int → Int → Option Addr → Nat → Nat → Nat → Int → Int → Option Addr → Nat → Nat → Nat → Int → Int → Option Addr → Nat → Nat → Option Addr → Nat → Nat → Nat → Bool → Option Addr → Nat → Nat → Int → Int → World → Prop} {s8 : Nat → Int → Int → Option Addr → Nat → Nat → Nat → Int → Int → Option Addr → Nat → Nat → Nat → Int → Int → Option Addr → Nat → Nat → Nat → Int → Int → Option Addr → Nat → Nat → Option Addr → Nat → Nat → Nat → Bool → Option Addr → Nat → Nat → Int → Int → Int → World → Prop} {s12 : Nat → Int → Int → Option Addr → Nat → Nat → Nat → Int → Int → Option Addr → Nat → Nat → Nat → Int → Int → Option Addr → Nat → Nat → Nat → Int → Int → Option Addr → Nat → Nat → Option Addr → Nat → Nat → Nat → Bool → Option Addr → Nat → Nat → Int → Int → Int → Nat → Bool → Option Addr → Nat → Nat → Int → Nat → Bool → Option Addr → Nat → Nat → Int → Int → World → Prop} {s15 : Nat → Int → Int → Option Addr → Nat → Nat → Nat → Int → Int → Option Addr → Nat → Nat → Nat → Int → Int → Option Addr → Nat → Nat → Nat → Int → Int → Option Addr → Nat → Nat → Option Addr → Nat → Nat → Nat → Bool → Option Addr → Nat → Nat → Int → Int → Int → Nat → Bool → Option Addr → Nat → Nat → Int → Nat → Bool → Option Addr → Nat → Nat → Int → Int → Nat → Bool → Option Addr → Nat → Nat → Int → World → Prop} {s18 : Nat → Int → Int → Option Addr → Nat → Nat → Nat → Int → Int → Option Addr → Nat → Nat → Nat → Int → Int → Option Addr → Nat → Nat → Nat → Int → Int → Option Addr → Nat → Nat → Option Addr → Nat → Nat → Nat → Bool → Option Addr → Nat → Nat → Int → Int → Int → Nat → Bool → Option Addr → Nat → Nat → Int → Nat → Bool → Option Addr → Nat → Nat → Int → World → Prop} (i5 : ∀ {q3 : Addr} {y3_0 : Int} {y3_1 : Int} {y3_2p : Option Addr} {y3_2n y3_2c : Nat} {q4 : Addr} {y4_0 : Int} {y4_1 : Int} {y4_2p : Option Addr} {y4_2n y4_2c : Nat} {q7 : Addr} {y7_0 : Int} {y7_1 : Int} {y7_2p : Option Addr} {y7_2n y7_2c : Nat} {q8 : Addr} {y8_0 : Int} {y8_1 : Int} {y8_2p : Option Addr} {y8_2n y8_2c : Nat} {z9p : Option Addr} {z9n z9c : Nat} {q10 : Addr} {y10_0 : Bool} {y10_1p : Option Addr} {y10_1n y10_1c : Nat} {y10_2 : Int} {z11 : Int} {w : World}, s5 q3.block y3_0 y3_1 y3_2p y3_2n y3_2c q4.block y4_0 y4_1 y4_2p y4_2n y4_2c q7.block y7_0 y7_1 y7_2p y7_2n y7_2c q8.block y8_0 y8_1 y8_2p y8_2n y8_2c z9p z9n z9c q10.block y10_0 y10_1p y10_1n y10_1c y10_2 z11 w → St w [(q3, [(.int .i64 y3_0), (.int .i64 y3_1), (.slice y3_2p y3_2n y3_2c)]), (q4, [(.int .i64 y4_0), (.int .i64 y4_1), (.slice y4_2p y4_2n y4_2c)]), (q7, [(.int .i64 y7_0), (.int .i64 y7_1), (.slice y7_2p y7_2n y7_2c)]), (q8, [(.int .i64 y8_0), (.int .i64 y8_1), (.slice y8_2p y8_2n y8_2c)]), (q10, [(.bool y10_0), (.slice y10_1p y10_1n y10_1c), (.int .i64 y10_2)])] → x5 (some q3) (some q4) (some q7) (some q8) z9p z9n z9c (some q10) z11 w) (i8 : ∀ {q3 : Addr} {y3_0 : Int} {y3_1 : Int} {y3_2p : Option Addr} {y3_2n y3_2c : Nat} {q4 : Addr} {y4_0 : Int} {y4_1 : Int} {y4_2p : Option Addr} {y4_2n y4_2c : Nat} {q7 : Addr} {y7_0 : Int} {y7_1 : Int} {y7_2p : Option Addr} {y7_2n y7_2c : Nat} {q8 : Addr} {y8_0 : Int} {y8_1 : Int} {y8_2p : Option Addr} {y8_2n y8_2c : Nat} {z9p : Option Addr} {z9n z9c : Nat} {q10 : Addr} {y10_0 : Bool} {y10_1p : Option Addr} {y10_1n y10_1c : Nat} {y10_2 : Int} {z11 : Int} {z12 : Int} {w : World}, s8 q3.block y3_0 y3_1 y3_2p y3_2n y3_2c q4.block y4_0 y4_1 y4_2p y4_2n y4_2c q7.block y7_0 y7_1 y7_2p y7_2n y7_2c q8.block y8_0 y8_1 y8_2p y8_2n y8_2c z9p z9n z9c q10.block y10_0 y10_1p y10_1n y10_1c y10_2 z11 z12 w → St w [(q3, [(.int .i64 y3_0), (.int .i64 y3_1), (.slice y3_2p y3_2n y3_2c)]), (q4, [(.int .i64 y4_0), (.int .i64 y4_1), (.slice y4_2p y4_2n y4_2c)]), (q7, [(.int .i64 y7_0), (.int .i64 y7_1), (.slice y7_2p y7_2n y7_2c)]), (q8, [(.int .i64 y8_0), (.int .i64 y8_1), (.slice y8_2p y8_2n y8_2c)]), (q10, [(.bool y10_0), (.slice y10_1p y10_1n y10_1c), (.int .i64 y10_2)])] → x8 (some q3) (some q4) (some q7) (some q8) z9p z9n z9c (some q10) z11 z12 w) (i12 : ∀ {q3 : Addr} {y3_0 : Int} {y3_1 : Int} {y3_2p : Option Addr} {y3_2n y3_2c : Nat} {q4 : Addr} {y4_0 : Int} {y4_1 : Int} {y4_2p : Option Addr} {y4_2n y4_2c : Nat} {q7 : Addr} {y7_0 : Int} {y7_1 : Int} {y7_2p : Option Addr} {y7_2n y7_2c : Nat} {q8 : Addr} {y8_0 : Int} {y8_1 : Int} {y8_2p : Option Addr} {y8_2n y8_2c : Nat} {z9p : Option Addr} {z9n z9c : Nat} {q10 : Addr} {y10_0 : Bool} {y10_1p : Option Addr} {y10_1n y10_1c : Nat} {y10_2 : Int} {z11 : Int} {z12 : Int} {q13 : Addr} {y13_0 : Bool} {y13_1p : Option Addr} {y13_1n y13_1c : Nat} {y13_2 : Int} {q14 : Addr} {y14_0 : Bool} {y14_1p : Option Addr} {y14_1n y14_1c : Nat} {y14_2 : Int} {z15 : Int} {w : World}, s12 q3.block y3_0 y3_1 y3_2p y3_2n y3_2c q4.block y4_0 y4_1 y4_2p y4_2n y4_2c q7.block y7_0 y7_1 y7_2p y7_2n y7_2c q8.block y8_0 y8_1 y8_2p y8_2n y8_2c z9p z9n z9c q10.block y10_0 y10_1p y10_1n y10_1c y10_2 z11 z12 q13.block y13_0 y13_1p y13_1n y13_1c y13_2 q14.block y14_0 y14_1p y14_1n y14_1c y14_2 z15 w → St w [(q3, [(.int .i64 y3_0), (.int .i64 y3_1), (.slice y3_2p y3_2n y3_2c)]), (q4, [(.int .i64 y4_0), (.int .i64 y4_1), (.slice y4_2p y4_2n y4_2c)]), (q7, [(.int .i64 y7_0), (.int .i64 y7_1), (.slice y7_2p y7_2n y7_2c)]), (q8, [(.int .i64 y8_0), (.int .i64 y8_1), (.slice y8_2p y8_2n y8_2c)]), (q10, [(.bool y10_0), (.slice y10_1p y10_1n y10_1c), (.int .i64 y10_2)]), (q13, [(.bool y13_0), (.slice y13_1p y13_1n y13_1c), (.int .i64 y13_2)]), (q14, [(.bool y14_0), (.slice y14_1p y14_1n y14_1c), (.int .i64 y14_2)])] → x12 (some q3) (some q4) (some q7) (some q8) z9p z9n z9c (some q10) z11 z12 (some q13) (some q14) z15 w) (i15 : ∀ {q3 : Addr} {y3_0 : Int} {y3_1 : Int} {y3_2p : Option Addr} {y3_2n y3_2c : Nat} {q4 : Addr} {y4_0 : Int} {y4_1 : Int} {y4_2p : Option Addr} {y4_2n y4_2c : Nat} {q7 : Addr} {y7_0 : Int} {y7_1 : Int} {y7_2p : Option Addr} {y7_2n y7_2c : Nat} {q8 : Addr} {y8_0 : Int} {y8_1 : Int} {y8_2p : Option Addr} {y8_2n y8_2c : Nat} {z9p : Option Addr} {z9n z9c : Nat} {q10 : Addr} {y10_0 : Bool} {y10_1p : Option Addr} {y10_1n y10_1c : Nat} {y10_2 : Int} {z11 : Int} {z12 : Int} {q13 : Addr} {y13_0 : Bool} {y13_1p : Option Addr} {y13_1n y13_1c : Nat} {y13_2 : Int} {q14 : Addr} {y14_0 : Bool} {y14_1p : Option Addr} {y14_1n y14_1c : Nat} {y14_2 : Int} {z15 : Int} {q16 : Addr} {y16_0 : Bool} {y16_1p : Option Addr} {y16_1n y16_1c : Nat} {y16_2 : Int} {w : World}, s15 q3.block y3_0 y3_1 y3_2p y3_2n y3_2c q4.block y4_0 y4_1 y4_2p y4_2n y4_2c q7.block y7_0 y7_1 y7_2p y7_2n y7_2c q8.block y8_0 y8_1 y8_2p y8_2n y8_2c z9p z9n z9c q10.block y10_0 y10_1p y10_1n y10_1c y10_2 z11 z12 q13.block y13_0 y13_1p y13_1n y13_1c y13_2 q14.block y14_0 y14_1p y14_1n y14_1c y14_2 z15 q16.block y16_0 y16_1p y16_1n y16_1c y16_2 w → St w [(q3, [(.int .i64 y3_0), (.int .i64 y3_1), (.slice y3_2p y3_2n y3_2c)]), (q4, [(.int .i64 y4_0), (.int .i64 y4_1), (.slice y4_2p y4_2n y4_2c)]), (q7, [(.int .i64 y7_0), (.int .i64 y7_1), (.slice y7_2p y7_2n y7_2c)]), (q8, [(.int .i64 y8_0), (.int .i64 y8_1), (.slice y8_2p y8_2n y8_2c)]), (q10, [(.bool y10_0), (.slice y10_1p y10_1n y10_1c), (.int .i64 y10_2)]), (q13, [(.bool y13_0), (.slice y13_1p y13_1n y13_1c), (.int .i64 y13_2)]), (q14, [(.bool y14_0), (.slice y14_1p y14_1n y14_1c), (.int .i64 y14_2)]), (q16, [(.bool y16_0), (.slice y16_1p y16_1n y16_1c), (.int .i64 y16_2)])] → x15 (some q3) (some q4) (some q7) (some q8) z9p z9n z9c (some q10) z11 z12 (some q13) (some q14) z15 (some q16) w) (i18 : ∀ {q3 : Addr} {y3_0 : Int} {y3_1 : Int} {y3_2p : Option Addr} {y3_2n y3_2c : Nat} {q4 : Addr} {y4_0 : Int} {y4_1 : Int} {y4_2p : Option Addr} {y4_2n y4_2c : Nat} {q7 : Addr} {y7_0 : Int} {y7_1 : Int} {y7_2p : Option Addr} {y7_2n y7_2c : Nat} {q8 : Addr} {y8_0 : Int} {y8_1 : Int} {y8_2p : Option Addr} {y8_2n y8_2c : Nat} {z9p : Option Addr} {z9n z9c : Nat} {q10 : Addr} {y10_0 : Bool} {y10_1p : Option Addr} {y10_1n y10_1c : Nat} {y10_2 : Int} {z11 : Int} {z12 : Int} {q13 : Addr} {y13_0 : Bool} {y13_1p : Option Addr} {y13_1n y13_1c : Nat} {y13_2 : Int} {q17 : Addr} {y17_0 : Bool} {y17_1p : Option Addr} {y17_1n y17_1c : Nat} {y17_2 : Int} {w : World}, s18 q3.block y3_0 y3_1 y3_2p y3_2n y3_2c q4.block y4_0 y4_1 y4_2p y4_2n y4_2c q7.block y7_0 y7_1 y7_2p y7_2n y7_2c q8.block y8_0 y8_1 y8_2p y8_2n y8_2c z9p z9n z9c q10.block y10_0 y10_1p y10_1n y10_1c y10_2 z11 z12 q13.block y13_0 y13_1p y13_1n y13_1c y13_2 q17.block y17_0 y17_1p y17_1n y17_1c y17_2 w → St w [(q3, [(.int .i64 y3_0), (.int .i64 y3_1), (.slice y3_2p y3_2n y3_2c)]), (q4, [(.int .i64 y4_0), (.int .i64 y4_1), (.slice y4_2p y4_2n y4_2c)]), (q7, [(.int .i64 y7_0), (.int .i64 y7_1), (.slice y7_2p y7_2n y7_2c)]), (q8, [(.int .i64 y8_0), (.int .i64 y8_1), (.slice y8_2p y8_2n y8_2c)]), (q10, [(.bool y10_0), (.slice y10_1p y10_1n y10_1c), (.int .i64 y10_2)]), (q13, [(.bool y13_0), (.slice y13_1p y13_1n y13_1c), (.int .i64 y13_2)]), (q17, [(.bool y17_0), (.slice y17_1p y17_1n y17_1c), (.int .i64 y17_2)])] → x18 (some q3) (some q4) (some q7) (some q8) z9p z9n z9c (some q10) z11 z12 (some q13) (some q17) w) {q3 : Addr} {y3_0 : Int} {y3_1 : Int} {y3_2p : Option Addr} {y3_2n y3_2c : Nat} {q4 : Addr} {y4_0 : Int} {y4_1 : Int} {y4_2p : Option Addr} {y4_2n y4_2c : Nat} {q7 : Addr} {y7_0 : Int} {y7_1 : Int} {y7_2p : Option Addr} {y7_2n y7_2c : Nat} {q8 : Addr} {y8_0 : Int} {y8_1 : Int} {y8_2p : Option Addr} {y8_2n y8_2c : Nat} {z9p : Option Addr} {z9n z9c : Nat} {q10 : Addr} {y10_0 : Bool} {y10_1p : Option Addr} {y10_1n y10_1c : Nat} {y10_2 : Int} {z11 : Int} {z12 : Int} {w : World} (h : straightedgelaw16_closeTo.e8 K s5 s8 s12 s15 s18 q3.block y3_0 y3_1 y3_2p y3_2n y3_2c q4.block y4_0 y4_1 y4_2p y4_2n y4_2c q7.block y7_0 y7_1 y7_2p y7_2n y7_2c q8.block y8_0 y8_1 y8_2p y8_2n y8_2c z9p z9n z9c q10.block y10_0 y10_1p y10_1n y10_1c y10_2 z11 z12 w) (st : St w [(q3, [(.int .i64 y3_0), (.int .i64 y3_1), (.slice y3_2p y3_2n y3_2c)]), (q4, [(.int .i64 y4_0), (.int .i64 y4_1), (.slice y4_2p y4_2n y4_2c)]), (q7, [(.int .i64 y7_0), (.int .i64 y7_1), (.slice y7_2p y7_2n y7_2c)]), (q8, [(.int .i64 y8_0), (.int .i64 y8_1), (.slice y8_2p y8_2n y8_2c)]), (q10, [(.bool y10_0), (.slice y10_1p y10_1n y10_1c), (.int .i64 y10_2)])]) : straightedgelaw16_closeTo.b8 K x5 x8 x12 x15 x18 (some q3) (some q4) (some q7) (some q8) z9p z9n z9c (some q10) z11 z12 w := by
  unfold straightedgelaw16_closeTo.b8
  unfold straightedgelaw16_closeTo.e8 at h
  refine ptrSome_intro rfl ?_
  refine rd_i64.bx 1 0 st rfl rfl rfl ?_
  refine br_mono (fun h => ?_) (fun h => ?_) h
  · refine St.new st (fun q3 w4 hk hlt he st => ?_)
    replace h := h q3.block w4 hk hlt he
    refine St.new st (fun q7 w8 hk hlt he st => ?_)
    replace h := h q7.block w8 hk hlt he
    refine St.put 1 0 st rfl rfl rfl rfl (fun w11 he st => ?_)
    replace h := h w11 he
    refine St.put 0 0 st rfl rfl rfl rfl (fun w12 he st => ?_)
    replace h := h w12 he
    exact i12 h (st.pick [2, 3, 4, 5, 6, 1, 0] (by decide))
  · exact i5 h (st.pick [0, 1, 2, 3, 4] (by decide))
theorem straightedgelaw16_closeTo.b12_s {K : Value → World → Prop} {x5 : Option Addr → Option Addr → Option Addr → Option Addr → Option Addr → Nat → Nat → Option Addr → Int → World → Prop} {x8 : Option Addr → Option Addr → Option Addr → Option Addr → Option Addr → Nat → Nat → Option Addr → Int → Int → World → Prop} {x12 : Option Addr → Option Addr → Option Addr → Option Addr → Option Addr → Nat → Nat → Option Addr → Int → Int → Option Addr → Option Addr → Int → World → Prop} {x15 : Option Addr → Option Addr → Option Addr → Option Addr → Option Addr → Nat → Nat → Option Addr → Int → Int → Option Addr → Option Addr → Int → Option Addr → World → Prop} {x18 : Option Addr → Option Addr → Option Addr → Option Addr → Option Addr → Nat → Nat → Option Addr → Int → Int → Option Addr → Option Addr → World → Prop} {s5 : Nat → Int → Int → Option Addr → Nat → Nat → Nat → Int → Int → Option Addr → Nat → Nat → Nat → Int → Int → Option Addr → Nat → Nat → Nat → Int → Int → Option Addr → Nat → Nat → Option Addr → Nat → Nat → Nat → Bool → Option Addr → Nat → Nat → Int → Int → World → Prop} {s8 : Nat → Int → Int → Option Addr → Nat → Nat → Nat → Int → Int → Option Addr → Nat → Nat → Nat → Int → Int → Option Addr → Nat → Nat → Nat → Int → Int → Option Addr → Nat → Nat → Option Addr → Nat → Nat → Nat → Bool → Option Addr → Nat → Nat → Int → Int → Int → World → Prop} {s12 : Nat → Int → Int → Option Addr → Nat → Nat → Nat → Int → Int → Option Addr → Nat → Nat → Nat → Int → Int → Option Addr → Nat → Nat → Nat → Int → Int → Option Addr → Nat → Nat → Option Addr → Nat → Nat → Nat → Bool → Option Addr → Nat → Nat → Int → Int → Int → Nat → Bool → Option Addr → Nat → Nat → Int → Nat → Bool → Option Addr → Nat → Nat → Int → Int → World → Prop} {s15 : Nat → Int → Int → Option Addr → Nat → Nat → Nat → Int → Int → Option Addr → Nat → Nat → Nat → Int → Int → Option Addr → Nat → Nat → Nat → Int → Int → Option Addr → Nat → Nat → Option Addr → Nat → Nat → Nat → Bool → Option Addr → Nat → Nat → Int → Int → Int → Nat → Bool → Option Addr → Nat → Nat → Int → Nat → Bool → Option Addr → Nat → Nat → Int → Int → Nat → Bool → Option Addr → Nat → Nat → Int → World → Prop} {s18 : Nat → Int → Int → Option Addr → Nat → Nat → Nat → Int → Int → Option Addr → Nat → Nat → Nat → Int → Int → Option Addr → Nat → Nat → Nat → Int → Int → Option Addr → Nat → Nat → Option Addr → Nat → Nat → Nat → Bool → Option Addr → Nat → Nat → Int → Int → Int → Nat → Bool → Option Addr → Nat → Nat → Int → Nat → Bool → Option Addr → Nat → Nat → Int → World → Prop} (i5 : ∀ {q3 : Addr} {y3_0 : Int} {y3_1 : Int} {y3_2p : Option Addr} {y3_2n y3_2c : Nat} {q4 : Addr} {y4_0 : Int} {y4_1 : Int} {y4_2p : Option Addr} {y4_2n y4_2c : Nat} {q7 : Addr} {y7_0 : Int} {y7_1 : Int} {y7_2p : Option Addr} {y7_2n y7_2c : Nat} {q8 : Addr} {y8_0 : Int} {y8_1 : Int} {y8_2p : Option Addr} {y8_2n y8_2c : Nat} {z9p : Option Addr} {z9n z9c : Nat} {q10 : Addr} {y10_0 : Bool} {y10_1p : Option Addr} {y10_1n y10_1c : Nat} {y10_2 : Int} {z11 : Int} {w : World}, s5 q3.block y3_0 y3_1 y3_2p y3_2n y3_2c q4.block y4_0 y4_1 y4_2p y4_2n y4_2c q7.block y7_0 y7_1 y7_2p y7_2n y7_2c q8.block y8_0 y8_1 y8_2p y8_2n y8_2c z9p z9n z9c q10.block y10_0 y10_1p y10_1n y10_1c y10_2 z11 w → St w [(q3, [(.int .i64 y3_0), (.int .i64 y3_1), (.slice y3_2p y3_2n y3_2c)]), (q4, [(.int .i64 y4_0), (.int .i64 y4_1), (.slice y4_2p y4_2n y4_2c)]), (q7, [(.int .i64 y7_0), (.int .i64 y7_1), (.slice y7_2p y7_2n y7_2c)]), (q8, [(.int .i64 y8_0), (.int .i64 y8_1), (.slice y8_2p y8_2n y8_2c)]), (q10, [(.bool y10_0), (.slice y10_1p y10_1n y10_1c), (.int .i64 y10_2)])] → x5 (some q3) (some q4) (some q7) (some q8) z9p z9n z9c (some q10) z11 w) (i8 : ∀ {q3 : Addr} {y3_0 : Int} {y3_1 : Int} {y3_2p : Option Addr} {y3_2n y3_2c : Nat} {q4 : Addr} {y4_0 : Int} {y4_1 : Int} {y4_2p : Option Addr} {y4_2n y4_2c : Nat} {q7 : Addr} {y7_0 : Int} {y7_1 : Int} {y7_2p : Option Addr} {y7_2n y7_2c : Nat} {q8 : Addr} {y8_0 : Int} {y8_1 : Int} {y8_2p : Option Addr} {y8_2n y8_2c : Nat} {z9p : Option Addr} {z9n z9c : Nat} {q10 : Addr} {y10_0 : Bool} {y10_1p : Option Addr} {y10_1n y10_1c : Nat} {y10_2 : Int} {z11 : Int} {z12 : Int} {w : World}, s8 q3.block y3_0 y3_1 y3_2p y3_2n y3_2c q4.block y4_0 y4_1 y4_2p y4_2n y4_2c q7.block y7_0 y7_1 y7_2p y7_2n y7_2c q8.block y8_0 y8_1 y8_2p y8_2n y8_2c z9p z9n z9c q10.block y10_0 y10_1p y10_1n y10_1c y10_2 z11 z12 w → St w [(q3, [(.int .i64 y3_0), (.int .i64 y3_1), (.slice y3_2p y3_2n y3_2c)]), (q4, [(.int .i64 y4_0), (.int .i64 y4_1), (.slice y4_2p y4_2n y4_2c)]), (q7, [(.int .i64 y7_0), (.int .i64 y7_1), (.slice y7_2p y7_2n y7_2c)]), (q8, [(.int .i64 y8_0), (.int .i64 y8_1), (.slice y8_2p y8_2n y8_2c)]), (q10, [(.bool y10_0), (.slice y10_1p y10_1n y10_1c), (.int .i64 y10_2)])] → x8 (some q3) (some q4) (some q7) (some q8) z9p z9n z9c (some q10) z11 z12 w) (i12 : ∀ {q3 : Addr} {y3_0 : Int} {y3_1 : Int} {y3_2p : Option Addr} {y3_2n y3_2c : Nat} {q4 : Addr} {y4_0 : Int} {y4_1 : Int} {y4_2p : Option Addr} {y4_2n y4_2c : Nat} {q7 : Addr} {y7_0 : Int} {y7_1 : Int} {y7_2p : Option Addr} {y7_2n y7_2c : Nat} {q8 : Addr} {y8_0 : Int} {y8_1 : Int} {y8_2p : Option Addr} {y8_2n y8_2c : Nat} {z9p : Option Addr} {z9n z9c : Nat} {q10 : Addr} {y10_0 : Bool} {y10_1p : Option Addr} {y10_1n y10_1c : Nat} {y10_2 : Int} {z11 : Int} {z12 : Int} {q13 : Addr} {y13_0 : Bool} {y13_1p : Option Addr} {y13_1n y13_1c : Nat} {y13_2 : Int} {q14 : Addr} {y14_0 : Bool} {y14_1p : Option Addr} {y14_1n y14_1c : Nat} {y14_2 : Int} {z15 : Int} {w : World}, s12 q3.block y3_0 y3_1 y3_2p y3_2n y3_2c q4.block y4_0 y4_1 y4_2p y4_2n y4_2c q7.block y7_0 y7_1 y7_2p y7_2n y7_2c q8.block y8_0 y8_1 y8_2p y8_2n y8_2c z9p z9n z9c q10.block y10_0 y10_1p y10_1n y10_1c y10_2 z11 z12 q13.block y13_0 y13_1p y13_1n y13_1c y13_2 q14.block y14_0 y14_1p y14_1n y14_1c y14_2 z15 w → St w [(q3, [(.int .i64 y3_0), (.int .i64 y3_1), (.slice y3_2p y3_2n y3_2c)]), (q4, [(.int .i64 y4_0), (.int .i64 y4_1), (.slice y4_2p y4_2n y4_2c)]), (q7, [(.int .i64 y7_0), (.int .i64 y7_1), (.slice y7_2p y7_2n y7_2c)]), (q8, [(.int .i64 y8_0), (.int .i64 y8_1), (.slice y8_2p y8_2n y8_2c)]), (q10, [(.bool y10_0), (.slice y10_1p y10_1n y10_1c), (.int .i64 y10_2)]), (q13, [(.bool y13_0), (.slice y13_1p y13_1n y13_1c), (.int .i64 y13_2)]), (q14, [(.bool y14_0), (.slice y14_1p y14_1n y14_1c), (.int .i64 y14_2)])] → x12 (some q3) (some q4) (some q7) (some q8) z9p z9n z9c (some q10) z11 z12 (some q13) (some q14) z15 w) (i15 : ∀ {q3 : Addr} {y3_0 : Int} {y3_1 : Int} {y3_2p : Option Addr} {y3_2n y3_2c : Nat} {q4 : Addr} {y4_0 : Int} {y4_1 : Int} {y4_2p : Option Addr} {y4_2n y4_2c : Nat} {q7 : Addr} {y7_0 : Int} {y7_1 : Int} {y7_2p : Option Addr} {y7_2n y7_2c : Nat} {q8 : Addr} {y8_0 : Int} {y8_1 : Int} {y8_2p : Option Addr} {y8_2n y8_2c : Nat} {z9p : Option Addr} {z9n z9c : Nat} {q10 : Addr} {y10_0 : Bool} {y10_1p : Option Addr} {y10_1n y10_1c : Nat} {y10_2 : Int} {z11 : Int} {z12 : Int} {q13 : Addr} {y13_0 : Bool} {y13_1p : Option Addr} {y13_1n y13_1c : Nat} {y13_2 : Int} {q14 : Addr} {y14_0 : Bool} {y14_1p : Option Addr} {y14_1n y14_1c : Nat} {y14_2 : Int} {z15 : Int} {q16 : Addr} {y16_0 : Bool} {y16_1p : Option Addr} {y16_1n y16_1c : Nat} {y16_2 : Int} {w : World}, s15 q3.block y3_0 y3_1 y3_2p y3_2n y3_2c q4.block y4_0 y4_1 y4_2p y4_2n y4_2c q7.block y7_0 y7_1 y7_2p y7_2n y7_2c q8.block y8_0 y8_1 y8_2p y8_2n y8_2c z9p z9n z9c q10.block y10_0 y10_1p y10_1n y10_1c y10_2 z11 z12 q13.block y13_0 y13_1p y13_1n y13_1c y13_2 q14.block y14_0 y14_1p y14_1n y14_1c y14_2 z15 q16.block y16_0 y16_1p y16_1n y16_1c y16_2 w → St w [(q3, [(.int .i64 y3_0), (.int .i64 y3_1), (.slice y3_2p y3_2n y3_2c)]), (q4, [(.int .i64 y4_0), (.int .i64 y4_1), (.slice y4_2p y4_2n y4_2c)]), (q7, [(.int .i64 y7_0), (.int .i64 y7_1), (.slice y7_2p y7_2n y7_2c)]), (q8, [(.int .i64 y8_0), (.int .i64 y8_1), (.slice y8_2p y8_2n y8_2c)]), (q10, [(.bool y10_0), (.slice y10_1p y10_1n y10_1c), (.int .i64 y10_2)]), (q13, [(.bool y13_0), (.slice y13_1p y13_1n y13_1c), (.int .i64 y13_2)]), (q14, [(.bool y14_0), (.slice y14_1p y14_1n y14_1c), (.int .i64 y14_2)]), (q16, [(.bool y16_0), (.slice y16_1p y16_1n y16_1c), (.int .i64 y16_2)])] → x15 (some q3) (some q4) (some q7) (some q8) z9p z9n z9c (some q10) z11 z12 (some q13) (some q14) z15 (some q16) w) (i18 : ∀ {q3 : Addr} {y3_0 : Int} {y3_1 : Int} {y3_2p : Option Addr} {y3_2n y3_2c : Nat} {q4 : Addr} {y4_0 : Int} {y4_1 : Int} {y4_2p : Option Addr} {y4_2n y4_2c : Nat} {q7 : Addr} {y7_0 : Int} {y7_1 : Int} {y7_2p : Option Addr} {y7_2n y7_2c : Nat} {q8 : Addr} {y8_0 : Int} {y8_1 : Int} {y8_2p : Option Addr} {y8_2n y8_2c : Nat} {z9p : Option Addr} {z9n z9c : Nat} {q10 : Addr} {y10_0 : Bool} {y10_1p : Option Addr} {y10_1n y10_1c : Nat} {y10_2 : Int} {z11 : Int} {z12 : Int} {q13 : Addr} {y13_0 : Bool} {y13_1p : Option Addr} {y13_1n y13_1c : Nat} {y13_2 : Int} {q17 : Addr} {y17_0 : Bool} {y17_1p : Option Addr} {y17_1n y17_1c : Nat} {y17_2 : Int} {w : World}, s18 q3.block y3_0 y3_1 y3_2p y3_2n y3_2c q4.block y4_0 y4_1 y4_2p y4_2n y4_2c q7.block y7_0 y7_1 y7_2p y7_2n y7_2c q8.block y8_0 y8_1 y8_2p y8_2n y8_2c z9p z9n z9c q10.block y10_0 y10_1p y10_1n y10_1c y10_2 z11 z12 q13.block y13_0 y13_1p y13_1n y13_1c y13_2 q17.block y17_0 y17_1p y17_1n y17_1c y17_2 w → St w [(q3, [(.int .i64 y3_0), (.int .i64 y3_1), (.slice y3_2p y3_2n y3_2c)]), (q4, [(.int .i64 y4_0), (.int .i64 y4_1), (.slice y4_2p y4_2n y4_2c)]), (q7, [(.int .i64 y7_0), (.int .i64 y7_1), (.slice y7_2p y7_2n y7_2c)]), (q8, [(.int .i64 y8_0), (.int .i64 y8_1), (.slice y8_2p y8_2n y8_2c)]), (q10, [(.bool y10_0), (.slice y10_1p y10_1n y10_1c), (.int .i64 y10_2)]), (q13, [(.bool y13_0), (.slice y13_1p y13_1n y13_1c), (.int .i64 y13_2)]), (q17, [(.bool y17_0), (.slice y17_1p y17_1n y17_1c), (.int .i64 y17_2)])] → x18 (some q3) (some q4) (some q7) (some q8) z9p z9n z9c (some q10) z11 z12 (some q13) (some q17) w) {q3 : Addr} {y3_0 : Int} {y3_1 : Int} {y3_2p : Option Addr} {y3_2n y3_2c : Nat} {q4 : Addr} {y4_0 : Int} {y4_1 : Int} {y4_2p : Option Addr} {y4_2n y4_2c : Nat} {q7 : Addr} {y7_0 : Int} {y7_1 : Int} {y7_2p : Option Addr} {y7_2n y7_2c : Nat} {q8 : Addr} {y8_0 : Int} {y8_1 : Int} {y8_2p : Option Addr} {y8_2n y8_2c : Nat} {z9p : Option Addr} {z9n z9c : Nat} {q10 : Addr} {y10_0 : Bool} {y10_1p : Option Addr} {y10_1n y10_1c : Nat} {y10_2 : Int} {z11 : Int} {z12 : Int} {q13 : Addr} {y13_0 : Bool} {y13_1p : Option Addr} {y13_1n y13_1c : Nat} {y13_2 : Int} {q14 : Addr} {y14_0 : Bool} {y14_1p : Option Addr} {y14_1n y14_1c : Nat} {y14_2 : Int} {z15 : Int} {w : World} (h : straightedgelaw16_closeTo.e12 K s5 s8 s12 s15 s18 q3.block y3_0 y3_1 y3_2p y3_2n y3_2c q4.block y4_0 y4_1 y4_2p y4_2n y4_2c q7.block y7_0 y7_1 y7_2p y7_2n y7_2c q8.block y8_0 y8_1 y8_2p y8_2n y8_2c z9p z9n z9c q10.block y10_0 y10_1p y10_1n y10_1c y10_2 z11 z12 q13.block y13_0 y13_1p y13_1n y13_1c y13_2 q14.block y14_0 y14_1p y14_1n y14_1c y14_2 z15 w) (st : St w [(q3, [(.int .i64 y3_0), (.int .i64 y3_1), (.slice y3_2p y3_2n y3_2c)]), (q4, [(.int .i64 y4_0), (.int .i64 y4_1), (.slice y4_2p y4_2n y4_2c)]), (q7, [(.int .i64 y7_0), (.int .i64 y7_1), (.slice y7_2p y7_2n y7_2c)]), (q8, [(.int .i64 y8_0), (.int .i64 y8_1), (.slice y8_2p y8_2n y8_2c)]), (q10, [(.bool y10_0), (.slice y10_1p y10_1n y10_1c), (.int .i64 y10_2)]), (q13, [(.bool y13_0), (.slice y13_1p y13_1n y13_1c), (.int .i64 y13_2)]), (q14, [(.bool y14_0), (.slice y14_1p y14_1n y14_1c), (.int .i64 y14_2)])]) : straightedgelaw16_closeTo.b12 K x5 x8 x12 x15 x18 (some q3) (some q4) (some q7) (some q8) z9p z9n z9c (some q10) z11 z12 (some q13) (some q14) z15 w := by
  unfold straightedgelaw16_closeTo.b12
  unfold straightedgelaw16_closeTo.e12 at h
  refine br_mono (fun h => ?_) (fun h => ?_) h
  · replace st := st.drew
    have st1 := st
    refine ptrSome_intro rfl ?_
    refine rd_i64_i64_l.bx 2 0 st1 rfl rfl rfl rfl rfl ?_
    refine ptrSome_intro rfl ?_
    refine rd_i64_i64_l.bx 3 0 st1 rfl rfl rfl rfl rfl ?_
    refine ⟨?_, ?_⟩
    · replace h := h _ (Ext.refl _)
      refine CallF.mono h (fun v15 w16 h => ?_)
      obtain ⟨hE3, h⟩ := h
      replace st := st.ext hE3
      obtain ⟨x17, h⟩ := h
      refine ⟨x17, ?_⟩
      refine And.imp_right (fun h => ?_) h
      refine ⟨hE3.kept, ?_⟩
      refine ⟨?_, ?_⟩
      · replace h := h _ (Ext.refl _)
        refine CallF.mono h (fun v19 w20 h => ?_)
        obtain ⟨hE4, h⟩ := h
        replace st := st.ext hE4
        obtain ⟨b21, a22, n23, c24, i25, h⟩ := h
        refine ⟨b21, a22, n23, c24, i25, ?_⟩
        refine And.imp_right (fun h => ?_) h
        refine ⟨hE4.kept, ?_⟩
        refine ⟨?_, ?_⟩
        · replace h := h _ (Ext.refl _)
          refine CallF.mono h (fun v27 w28 h => ?_)
          obtain ⟨hE8, h⟩ := h
          replace st := st.ext hE8
          obtain ⟨x29, h⟩ := h
          refine ⟨x29, ?_⟩
          refine And.imp_right (fun h => ?_) h
          refine ⟨?_, ?_⟩
          · replace h := h _ (Ext.refl _)
            refine CallF.mono h (fun v31 w32 h => ?_)
            obtain ⟨hE9, h⟩ := h
            replace st := st.ext hE9
            obtain ⟨b33, a34, n35, c36, i37, h⟩ := h
            refine ⟨b33, a34, n35, c36, i37, ?_⟩
            refine And.imp_right (fun h => ?_) h
            refine ⟨?_, ?_⟩
            · replace h := h _ (Ext.refl _)
              refine CallF.mono h (fun v39 w40 h => ?_)
              obtain ⟨hE10, h⟩ := h
              replace st := st.ext hE10
              obtain ⟨b41, a42, n43, c44, i45, h⟩ := h
              refine ⟨b41, a42, n43, c44, i45, ?_⟩
              refine And.imp_right (fun h => ?_) h
              refine St.new st (fun q49 w51 hk11 hlt11 he11 st => ?_)
              refine ⟨he11.kept, ?_⟩
              replace h := h _ he11 q49.block (Nat.le_trans ((Ext.trans (Ext.trans (Ext.trans (Ext.trans hE3 hE4) hE8) hE9) hE10)).size (Nat.le_of_eq hk11.symm)) (st.row (i := 0) rfl).lt (.inr (Nat.le_trans ((Ext.trans (Ext.trans (Ext.trans hE4 hE8) hE9) hE10)).size (Nat.le_of_eq hk11.symm))) (.inr (Nat.le_trans ((Ext.trans (Ext.trans hE8 hE9) hE10)).size (Nat.le_of_eq hk11.symm))) (.inr (Nat.le_trans ((Ext.trans hE9 hE10)).size (Nat.le_of_eq hk11.symm))) (.inr (Nat.le_trans (hE10).size (Nat.le_of_eq hk11.symm))) (.inr (Nat.le_trans ((Ext.refl _)).size (Nat.le_of_eq hk11.symm)))
              refine St.put 0 0 st rfl rfl rfl rfl (fun w50 he st => ?_)
              replace h := h w50 he
              exact i15 h (st.pick [1, 2, 3, 4, 5, 6, 7, 0] (by decide))
            · refine St.new st (fun q49 w52 hk11 hlt11 he11 st => ?_)
              refine ⟨he11.kept, ?_⟩
              replace h := h _ he11
              refine CallF.mono h (fun v39 w40 h => ?_)
              obtain ⟨hE10, h⟩ := h
              replace st := st.ext hE10
              obtain ⟨b41, a42, n43, c44, i45, h⟩ := h
              refine ⟨b41, a42, n43, c44, i45, ?_⟩
              refine And.imp_right (fun h => ?_) h
              replace h := h _ (Ext.refl _) q49.block (Nat.le_trans ((Ext.trans (Ext.trans (Ext.trans hE3 hE4) hE8) hE9)).size (Nat.le_of_eq hk11.symm)) (st.row (i := 0) rfl).lt (.inr (Nat.le_trans ((Ext.trans (Ext.trans hE4 hE8) hE9)).size (Nat.le_of_eq hk11.symm))) (.inr (Nat.le_trans ((Ext.trans hE8 hE9)).size (Nat.le_of_eq hk11.symm))) (.inr (Nat.le_trans (hE9).size (Nat.le_of_eq hk11.symm))) (.inr (Nat.le_trans ((Ext.refl _)).size (Nat.le_of_eq hk11.symm))) (.inl (Nat.lt_of_lt_of_le hlt11 ((Ext.refl _)).size))
              refine St.put 0 0 st rfl rfl rfl rfl (fun w50 he st => ?_)
              replace h := h w50 he
              exact i15 h (st.pick [1, 2, 3, 4, 5, 6, 7, 0] (by decide))
          · refine St.new st (fun q49 w53 hk11 hlt11 he11 st => ?_)
            refine ⟨he11.kept, ?_⟩
            replace h := h _ he11
            refine CallF.mono h (fun v31 w32 h => ?_)
            obtain ⟨hE9, h⟩ := h
            replace st := st.ext hE9
            obtain ⟨b33, a34, n35, c36, i37, h⟩ := h
            refine ⟨b33, a34, n35, c36, i37, ?_⟩
            refine And.imp_right (fun h => ?_) h
            replace h := h _ (Ext.refl _)
            refine CallF.mono h (fun v39 w40 h => ?_)
            obtain ⟨hE10, h⟩ := h
            replace st := st.ext hE10
            obtain ⟨b41, a42, n43, c44, i45, h⟩ := h
            refine ⟨b41, a42, n43, c44, i45, ?_⟩
            refine And.imp_right (fun h => ?_) h
            replace h := h _ (Ext.refl _) q49.block (Nat.le_trans ((Ext.trans (Ext.trans hE3 hE4) hE8)).size (Nat.le_of_eq hk11.symm)) (st.row (i := 0) rfl).lt (.inr (Nat.le_trans ((Ext.trans hE4 hE8)).size (Nat.le_of_eq hk11.symm))) (.inr (Nat.le_trans (hE8).size (Nat.le_of_eq hk11.symm))) (.inr (Nat.le_trans ((Ext.refl _)).size (Nat.le_of_eq hk11.symm))) (.inl (Nat.lt_of_lt_of_le hlt11 ((Ext.refl _)).size)) (.inl (Nat.lt_of_lt_of_le hlt11 (hE9).size))
            refine St.put 0 0 st rfl rfl rfl rfl (fun w50 he st => ?_)
            replace h := h w50 he
            exact i15 h (st.pick [1, 2, 3, 4, 5, 6, 7, 0] (by decide))
        · refine St.new st (fun q49 w54 hk11 hlt11 he11 st => ?_)
          refine ⟨he11.kept, ?_⟩
          replace h := h _ he11
          refine CallF.mono h (fun v27 w28 h => ?_)
          obtain ⟨hE8, h⟩ := h
          replace st := st.ext hE8
          obtain ⟨x29, h⟩ := h
          refine ⟨x29, ?_⟩
          refine And.imp_right (fun h => ?_) h
          replace h := h _ (Ext.refl _)
          refine CallF.mono h (fun v31 w32 h => ?_)
          obtain ⟨hE9, h⟩ := h
          replace st := st.ext hE9
          obtain ⟨b33, a34, n35, c36, i37, h⟩ := h
          refine ⟨b33, a34, n35, c36, i37, ?_⟩
          refine And.imp_right (fun h => ?_) h
          replace h := h _ (Ext.refl _)
          refine CallF.mono h (fun v39 w40 h => ?_)
          obtain ⟨hE10, h⟩ := h
          replace st := st.ext hE10
          obtain ⟨b41, a42, n43, c44, i45, h⟩ := h
          refine ⟨b41, a42, n43, c44, i45, ?_⟩
          refine And.imp_right (fun h => ?_) h
          replace h := h _ (Ext.refl _) q49.block (Nat.le_trans ((Ext.trans hE3 hE4)).size (Nat.le_of_eq hk11.symm)) (st.row (i := 0) rfl).lt (.inr (Nat.le_trans (hE4).size (Nat.le_of_eq hk11.symm))) (.inr (Nat.le_trans ((Ext.refl _)).size (Nat.le_of_eq hk11.symm))) (.inl (Nat.lt_of_lt_of_le hlt11 ((Ext.refl _)).size)) (.inl (Nat.lt_of_lt_of_le hlt11 (hE8).size)) (.inl (Nat.lt_of_lt_of_le hlt11 ((Ext.trans hE8 hE9)).size))
          refine St.put 0 0 st rfl rfl rfl rfl (fun w50 he st => ?_)
          replace h := h w50 he
          exact i15 h (st.pick [1, 2, 3, 4, 5, 6, 7, 0] (by decide))
      · refine St.new st (fun q49 w55 hk11 hlt11 he11 st => ?_)
        refine ⟨he11.kept, ?_⟩
        replace h := h _ he11
        refine CallF.mono h (fun v19 w20 h => ?_)
        obtain ⟨hE4, h⟩ := h
        replace st := st.ext hE4
        obtain ⟨b21, a22, n23, c24, i25, h⟩ := h
        refine ⟨b21, a22, n23, c24, i25, ?_⟩
        refine And.imp_right (fun h => ?_) h
        refine ⟨hE4.kept, ?_⟩
        replace h := h _ (Ext.refl _)
        refine CallF.mono h (fun v27 w28 h => ?_)
        obtain ⟨hE8, h⟩ := h
        replace st := st.ext hE8
        obtain ⟨x29, h⟩ := h
        refine ⟨x29, ?_⟩
        refine And.imp_right (fun h => ?_) h
        replace h := h _ (Ext.refl _)
        refine CallF.mono h (fun v31 w32 h => ?_)
        obtain ⟨hE9, h⟩ := h
        replace st := st.ext hE9
        obtain ⟨b33, a34, n35, c36, i37, h⟩ := h
        refine ⟨b33, a34, n35, c36, i37, ?_⟩
        refine And.imp_right (fun h => ?_) h
        replace h := h _ (Ext.refl _)
        refine CallF.mono h (fun v39 w40 h => ?_)
        obtain ⟨hE10, h⟩ := h
        replace st := st.ext hE10
        obtain ⟨b41, a42, n43, c44, i45, h⟩ := h
        refine ⟨b41, a42, n43, c44, i45, ?_⟩
        refine And.imp_right (fun h => ?_) h
        replace h := h _ (Ext.refl _) q49.block (Nat.le_trans (hE3).size (Nat.le_of_eq hk11.symm)) (st.row (i := 0) rfl).lt (.inr (Nat.le_trans ((Ext.refl _)).size (Nat.le_of_eq hk11.symm))) (.inl (Nat.lt_of_lt_of_le hlt11 ((Ext.refl _)).size)) (.inl (Nat.lt_of_lt_of_le hlt11 (hE4).size)) (.inl (Nat.lt_of_lt_of_le hlt11 ((Ext.trans hE4 hE8)).size)) (.inl (Nat.lt_of_lt_of_le hlt11 ((Ext.trans (Ext.trans hE4 hE8) hE9)).size))
        refine St.put 0 0 st rfl rfl rfl rfl (fun w50 he st => ?_)
        replace h := h w50 he
        exact i15 h (st.pick [1, 2, 3, 4, 5, 6, 7, 0] (by decide))
    · refine St.new st (fun q49 w56 hk11 hlt11 he11 st => ?_)
      refine ⟨he11.kept, ?_⟩
      replace h := h _ he11
      refine CallF.mono h (fun v15 w16 h => ?_)
      obtain ⟨hE3, h⟩ := h
      replace st := st.ext hE3
      obtain ⟨x17, h⟩ := h
      refine ⟨x17, ?_⟩
      refine And.imp_right (fun h => ?_) h
      refine ⟨hE3.kept, ?_⟩
      replace h := h _ (Ext.refl _)
      refine CallF.mono h (fun v19 w20 h => ?_)
      obtain ⟨hE4, h⟩ := h
      replace st := st.ext hE4
      obtain ⟨b21, a22, n23, c24, i25, h⟩ := h
      refine ⟨b21, a22, n23, c24, i25, ?_⟩
      refine And.imp_right (fun h => ?_) h
      refine ⟨hE4.kept, ?_⟩
      replace h := h _ (Ext.refl _)
      refine CallF.mono h (fun v27 w28 h => ?_)
      obtain ⟨hE8, h⟩ := h
      replace st := st.ext hE8
      obtain ⟨x29, h⟩ := h
      refine ⟨x29, ?_⟩
      refine And.imp_right (fun h => ?_) h
      replace h := h _ (Ext.refl _)
      refine CallF.mono h (fun v31 w32 h => ?_)
      obtain ⟨hE9, h⟩ := h
      replace st := st.ext hE9
      obtain ⟨b33, a34, n35, c36, i37, h⟩ := h
      refine ⟨b33, a34, n35, c36, i37, ?_⟩
      refine And.imp_right (fun h => ?_) h
      replace h := h _ (Ext.refl _)
      refine CallF.mono h (fun v39 w40 h => ?_)
      obtain ⟨hE10, h⟩ := h
      replace st := st.ext hE10
      obtain ⟨b41, a42, n43, c44, i45, h⟩ := h
      refine ⟨b41, a42, n43, c44, i45, ?_⟩
      refine And.imp_right (fun h => ?_) h
      replace h := h _ (Ext.refl _) q49.block (Nat.le_trans ((Ext.refl _)).size (Nat.le_of_eq hk11.symm)) (st.row (i := 0) rfl).lt (.inl (Nat.lt_of_lt_of_le hlt11 ((Ext.refl _)).size)) (.inl (Nat.lt_of_lt_of_le hlt11 (hE3).size)) (.inl (Nat.lt_of_lt_of_le hlt11 ((Ext.trans hE3 hE4)).size)) (.inl (Nat.lt_of_lt_of_le hlt11 ((Ext.trans (Ext.trans hE3 hE4) hE8)).size)) (.inl (Nat.lt_of_lt_of_le hlt11 ((Ext.trans (Ext.trans (Ext.trans hE3 hE4) hE8) hE9)).size))
      refine St.put 0 0 st rfl rfl rfl rfl (fun w50 he st => ?_)
      replace h := h w50 he
      exact i15 h (st.pick [1, 2, 3, 4, 5, 6, 7, 0] (by decide))
  · replace st := st.drew
    have st57 := st
    refine ptrSome_intro rfl ?_
    refine rd_b_l_i64.bx 6 0 st57 rfl rfl rfl rfl rfl ?_
    refine ptrSome_intro rfl ?_
    refine rd_i64.bx 1 0 st57 rfl rfl rfl ?_
    refine ptrSome_intro rfl ?_
    refine rd_b_l_i64.bx 4 0 st57 rfl rfl rfl rfl rfl ?_
    refine ⟨?_, ?_⟩
    · replace h := h _ (Ext.refl _)
      refine CallF.mono h (fun v73 w74 h => ?_)
      obtain ⟨hE1, h⟩ := h
      replace st := st.ext hE1
      obtain ⟨b75, a76, n77, c78, i79, h⟩ := h
      refine ⟨b75, a76, n77, c78, i79, ?_⟩
      refine And.imp_right (fun h => ?_) h
      refine ⟨hE1.kept, ?_⟩
      refine ⟨?_, ?_⟩
      · replace h := h _ (Ext.refl _)
        refine CallF.mono h (fun v81 w82 h => ?_)
        obtain ⟨hE4, h⟩ := h
        replace st := st.ext hE4
        obtain ⟨b83, a84, n85, c86, i87, h⟩ := h
        refine ⟨b83, a84, n85, c86, i87, ?_⟩
        refine And.imp_right (fun h => ?_) h
        refine ⟨hE4.kept, ?_⟩
        refine ⟨?_, ?_⟩
        · replace h := h _ (Ext.refl _)
          refine CallF.mono h (fun v89 w90 h => ?_)
          obtain ⟨hE5, h⟩ := h
          replace st := st.ext hE5
          obtain ⟨b91, a92, n93, c94, i95, h⟩ := h
          refine ⟨b91, a92, n93, c94, i95, ?_⟩
          refine And.imp_right (fun h => ?_) h
          refine ⟨hE5.kept, ?_⟩
          refine ⟨?_, ?_⟩
          · replace h := h _ (Ext.refl _)
            refine CallF.mono h (fun v97 w98 h => ?_)
            obtain ⟨hE7, h⟩ := h
            replace st := st.ext hE7
            obtain ⟨b99, a100, n101, c102, i103, h⟩ := h
            refine ⟨b99, a100, n101, c102, i103, ?_⟩
            refine And.imp_right (fun h => ?_) h
            refine St.new st (fun q107 w109 hk8 hlt8 he8 st => ?_)
            refine ⟨he8.kept, ?_⟩
            replace h := h _ he8 q107.block (Nat.le_trans ((Ext.trans (Ext.trans (Ext.trans hE1 hE4) hE5) hE7)).size (Nat.le_of_eq hk8.symm)) (st.row (i := 0) rfl).lt (.inr (Nat.le_trans ((Ext.trans (Ext.trans hE4 hE5) hE7)).size (Nat.le_of_eq hk8.symm))) (.inr (Nat.le_trans ((Ext.trans hE5 hE7)).size (Nat.le_of_eq hk8.symm))) (.inr (Nat.le_trans (hE7).size (Nat.le_of_eq hk8.symm))) (.inr (Nat.le_trans ((Ext.refl _)).size (Nat.le_of_eq hk8.symm)))
            refine St.put 0 0 st rfl rfl rfl rfl (fun w108 he st => ?_)
            replace h := h w108 he
            exact i18 h (st.pick [1, 2, 3, 4, 5, 6, 0] (by decide))
          · refine St.new st (fun q107 w110 hk8 hlt8 he8 st => ?_)
            refine ⟨he8.kept, ?_⟩
            replace h := h _ he8
            refine CallF.mono h (fun v97 w98 h => ?_)
            obtain ⟨hE7, h⟩ := h
            replace st := st.ext hE7
            obtain ⟨b99, a100, n101, c102, i103, h⟩ := h
            refine ⟨b99, a100, n101, c102, i103, ?_⟩
            refine And.imp_right (fun h => ?_) h
            replace h := h _ (Ext.refl _) q107.block (Nat.le_trans ((Ext.trans (Ext.trans hE1 hE4) hE5)).size (Nat.le_of_eq hk8.symm)) (st.row (i := 0) rfl).lt (.inr (Nat.le_trans ((Ext.trans hE4 hE5)).size (Nat.le_of_eq hk8.symm))) (.inr (Nat.le_trans (hE5).size (Nat.le_of_eq hk8.symm))) (.inr (Nat.le_trans ((Ext.refl _)).size (Nat.le_of_eq hk8.symm))) (.inl (Nat.lt_of_lt_of_le hlt8 ((Ext.refl _)).size))
            refine St.put 0 0 st rfl rfl rfl rfl (fun w108 he st => ?_)
            replace h := h w108 he
            exact i18 h (st.pick [1, 2, 3, 4, 5, 6, 0] (by decide))
        · refine St.new st (fun q107 w111 hk8 hlt8 he8 st => ?_)
          refine ⟨he8.kept, ?_⟩
          replace h := h _ he8
          refine CallF.mono h (fun v89 w90 h => ?_)
          obtain ⟨hE5, h⟩ := h
          replace st := st.ext hE5
          obtain ⟨b91, a92, n93, c94, i95, h⟩ := h
          refine ⟨b91, a92, n93, c94, i95, ?_⟩
          refine And.imp_right (fun h => ?_) h
          refine ⟨hE5.kept, ?_⟩
          replace h := h _ (Ext.refl _)
          refine CallF.mono h (fun v97 w98 h => ?_)
          obtain ⟨hE7, h⟩ := h
          replace st := st.ext hE7
          obtain ⟨b99, a100, n101, c102, i103, h⟩ := h
          refine ⟨b99, a100, n101, c102, i103, ?_⟩
          refine And.imp_right (fun h => ?_) h
          replace h := h _ (Ext.refl _) q107.block (Nat.le_trans ((Ext.trans hE1 hE4)).size (Nat.le_of_eq hk8.symm)) (st.row (i := 0) rfl).lt (.inr (Nat.le_trans (hE4).size (Nat.le_of_eq hk8.symm))) (.inr (Nat.le_trans ((Ext.refl _)).size (Nat.le_of_eq hk8.symm))) (.inl (Nat.lt_of_lt_of_le hlt8 ((Ext.refl _)).size)) (.inl (Nat.lt_of_lt_of_le hlt8 (hE5).size))
          refine St.put 0 0 st rfl rfl rfl rfl (fun w108 he st => ?_)
          replace h := h w108 he
          exact i18 h (st.pick [1, 2, 3, 4, 5, 6, 0] (by decide))
      · refine St.new st (fun q107 w112 hk8 hlt8 he8 st => ?_)
        refine ⟨he8.kept, ?_⟩
        replace h := h _ he8
        refine CallF.mono h (fun v81 w82 h => ?_)
        obtain ⟨hE4, h⟩ := h
        replace st := st.ext hE4
        obtain ⟨b83, a84, n85, c86, i87, h⟩ := h
        refine ⟨b83, a84, n85, c86, i87, ?_⟩
        refine And.imp_right (fun h => ?_) h
        refine ⟨hE4.kept, ?_⟩
        replace h := h _ (Ext.refl _)
        refine CallF.mono h (fun v89 w90 h => ?_)
        obtain ⟨hE5, h⟩ := h
        replace st := st.ext hE5
        obtain ⟨b91, a92, n93, c94, i95, h⟩ := h
        refine ⟨b91, a92, n93, c94, i95, ?_⟩
        refine And.imp_right (fun h => ?_) h
        refine ⟨hE5.kept, ?_⟩
        replace h := h _ (Ext.refl _)
        refine CallF.mono h (fun v97 w98 h => ?_)
        obtain ⟨hE7, h⟩ := h
        replace st := st.ext hE7
        obtain ⟨b99, a100, n101, c102, i103, h⟩ := h
        refine ⟨b99, a100, n101, c102, i103, ?_⟩
        refine And.imp_right (fun h => ?_) h
        replace h := h _ (Ext.refl _) q107.block (Nat.le_trans (hE1).size (Nat.le_of_eq hk8.symm)) (st.row (i := 0) rfl).lt (.inr (Nat.le_trans ((Ext.refl _)).size (Nat.le_of_eq hk8.symm))) (.inl (Nat.lt_of_lt_of_le hlt8 ((Ext.refl _)).size)) (.inl (Nat.lt_of_lt_of_le hlt8 (hE4).size)) (.inl (Nat.lt_of_lt_of_le hlt8 ((Ext.trans hE4 hE5)).size))
        refine St.put 0 0 st rfl rfl rfl rfl (fun w108 he st => ?_)
        replace h := h w108 he
        exact i18 h (st.pick [1, 2, 3, 4, 5, 6, 0] (by decide))
    · refine St.new st (fun q107 w113 hk8 hlt8 he8 st => ?_)
      refine ⟨he8.kept, ?_⟩
      replace h := h _ he8
      refine CallF.mono h (fun v73 w74 h => ?_)
      obtain ⟨hE1, h⟩ := h
      replace st := st.ext hE1
      obtain ⟨b75, a76, n77, c78, i79, h⟩ := h
      refine ⟨b75, a76, n77, c78, i79, ?_⟩
      refine And.imp_right (fun h => ?_) h
      refine ⟨hE1.kept, ?_⟩
      replace h := h _ (Ext.refl _)
      refine CallF.mono h (fun v81 w82 h => ?_)
      obtain ⟨hE4, h⟩ := h
      replace st := st.ext hE4
      obtain ⟨b83, a84, n85, c86, i87, h⟩ := h
      refine ⟨b83, a84, n85, c86, i87, ?_⟩
      refine And.imp_right (fun h => ?_) h
      refine ⟨hE4.kept, ?_⟩
      replace h := h _ (Ext.refl _)
      refine CallF.mono h (fun v89 w90 h => ?_)
      obtain ⟨hE5, h⟩ := h
      replace st := st.ext hE5
      obtain ⟨b91, a92, n93, c94, i95, h⟩ := h
      refine ⟨b91, a92, n93, c94, i95, ?_⟩
      refine And.imp_right (fun h => ?_) h
      refine ⟨hE5.kept, ?_⟩
      replace h := h _ (Ext.refl _)
      refine CallF.mono h (fun v97 w98 h => ?_)
      obtain ⟨hE7, h⟩ := h
      replace st := st.ext hE7
      obtain ⟨b99, a100, n101, c102, i103, h⟩ := h
      refine ⟨b99, a100, n101, c102, i103, ?_⟩
      refine And.imp_right (fun h => ?_) h
      replace h := h _ (Ext.refl _) q107.block (Nat.le_trans ((Ext.refl _)).size (Nat.le_of_eq hk8.symm)) (st.row (i := 0) rfl).lt (.inl (Nat.lt_of_lt_of_le hlt8 ((Ext.refl _)).size)) (.inl (Nat.lt_of_lt_of_le hlt8 (hE1).size)) (.inl (Nat.lt_of_lt_of_le hlt8 ((Ext.trans hE1 hE4)).size)) (.inl (Nat.lt_of_lt_of_le hlt8 ((Ext.trans (Ext.trans hE1 hE4) hE5)).size))
      refine St.put 0 0 st rfl rfl rfl rfl (fun w108 he st => ?_)
      replace h := h w108 he
      exact i18 h (st.pick [1, 2, 3, 4, 5, 6, 0] (by decide))
theorem straightedgelaw16_closeTo.b15_s {K : Value → World → Prop} {x5 : Option Addr → Option Addr → Option Addr → Option Addr → Option Addr → Nat → Nat → Option Addr → Int → World → Prop} {x8 : Option Addr → Option Addr → Option Addr → Option Addr → Option Addr → Nat → Nat → Option Addr → Int → Int → World → Prop} {x12 : Option Addr → Option Addr → Option Addr → Option Addr → Option Addr → Nat → Nat → Option Addr → Int → Int → Option Addr → Option Addr → Int → World → Prop} {x15 : Option Addr → Option Addr → Option Addr → Option Addr → Option Addr → Nat → Nat → Option Addr → Int → Int → Option Addr → Option Addr → Int → Option Addr → World → Prop} {x18 : Option Addr → Option Addr → Option Addr → Option Addr → Option Addr → Nat → Nat → Option Addr → Int → Int → Option Addr → Option Addr → World → Prop} {s5 : Nat → Int → Int → Option Addr → Nat → Nat → Nat → Int → Int → Option Addr → Nat → Nat → Nat → Int → Int → Option Addr → Nat → Nat → Nat → Int → Int → Option Addr → Nat → Nat → Option Addr → Nat → Nat → Nat → Bool → Option Addr → Nat → Nat → Int → Int → World → Prop} {s8 : Nat → Int → Int → Option Addr → Nat → Nat → Nat → Int → Int → Option Addr → Nat → Nat → Nat → Int → Int → Option Addr → Nat → Nat → Nat → Int → Int → Option Addr → Nat → Nat → Option Addr → Nat → Nat → Nat → Bool → Option Addr → Nat → Nat → Int → Int → Int → World → Prop} {s12 : Nat → Int → Int → Option Addr → Nat → Nat → Nat → Int → Int → Option Addr → Nat → Nat → Nat → Int → Int → Option Addr → Nat → Nat → Nat → Int → Int → Option Addr → Nat → Nat → Option Addr → Nat → Nat → Nat → Bool → Option Addr → Nat → Nat → Int → Int → Int → Nat → Bool → Option Addr → Nat → Nat → Int → Nat → Bool → Option Addr → Nat → Nat → Int → Int → World → Prop} {s15 : Nat → Int → Int → Option Addr → Nat → Nat → Nat → Int → Int → Option Addr → Nat → Nat → Nat → Int → Int → Option Addr → Nat → Nat → Nat → Int → Int → Option Addr → Nat → Nat → Option Addr → Nat → Nat → Nat → Bool → Option Addr → Nat → Nat → Int → Int → Int → Nat → Bool → Option Addr → Nat → Nat → Int → Nat → Bool → Option Addr → Nat → Nat → Int → Int → Nat → Bool → Option Addr → Nat → Nat → Int → World → Prop} {s18 : Nat → Int → Int → Option Addr → Nat → Nat → Nat → Int → Int → Option Addr → Nat → Nat → Nat → Int → Int → Option Addr → Nat → Nat → Nat → Int → Int → Option Addr → Nat → Nat → Option Addr → Nat → Nat → Nat → Bool → Option Addr → Nat → Nat → Int → Int → Int → Nat → Bool → Option Addr → Nat → Nat → Int → Nat → Bool → Option Addr → Nat → Nat → Int → World → Prop} (i5 : ∀ {q3 : Addr} {y3_0 : Int} {y3_1 : Int} {y3_2p : Option Addr} {y3_2n y3_2c : Nat} {q4 : Addr} {y4_0 : Int} {y4_1 : Int} {y4_2p : Option Addr} {y4_2n y4_2c : Nat} {q7 : Addr} {y7_0 : Int} {y7_1 : Int} {y7_2p : Option Addr} {y7_2n y7_2c : Nat} {q8 : Addr} {y8_0 : Int} {y8_1 : Int} {y8_2p : Option Addr} {y8_2n y8_2c : Nat} {z9p : Option Addr} {z9n z9c : Nat} {q10 : Addr} {y10_0 : Bool} {y10_1p : Option Addr} {y10_1n y10_1c : Nat} {y10_2 : Int} {z11 : Int} {w : World}, s5 q3.block y3_0 y3_1 y3_2p y3_2n y3_2c q4.block y4_0 y4_1 y4_2p y4_2n y4_2c q7.block y7_0 y7_1 y7_2p y7_2n y7_2c q8.block y8_0 y8_1 y8_2p y8_2n y8_2c z9p z9n z9c q10.block y10_0 y10_1p y10_1n y10_1c y10_2 z11 w → St w [(q3, [(.int .i64 y3_0), (.int .i64 y3_1), (.slice y3_2p y3_2n y3_2c)]), (q4, [(.int .i64 y4_0), (.int .i64 y4_1), (.slice y4_2p y4_2n y4_2c)]), (q7, [(.int .i64 y7_0), (.int .i64 y7_1), (.slice y7_2p y7_2n y7_2c)]), (q8, [(.int .i64 y8_0), (.int .i64 y8_1), (.slice y8_2p y8_2n y8_2c)]), (q10, [(.bool y10_0), (.slice y10_1p y10_1n y10_1c), (.int .i64 y10_2)])] → x5 (some q3) (some q4) (some q7) (some q8) z9p z9n z9c (some q10) z11 w) (i8 : ∀ {q3 : Addr} {y3_0 : Int} {y3_1 : Int} {y3_2p : Option Addr} {y3_2n y3_2c : Nat} {q4 : Addr} {y4_0 : Int} {y4_1 : Int} {y4_2p : Option Addr} {y4_2n y4_2c : Nat} {q7 : Addr} {y7_0 : Int} {y7_1 : Int} {y7_2p : Option Addr} {y7_2n y7_2c : Nat} {q8 : Addr} {y8_0 : Int} {y8_1 : Int} {y8_2p : Option Addr} {y8_2n y8_2c : Nat} {z9p : Option Addr} {z9n z9c : Nat} {q10 : Addr} {y10_0 : Bool} {y10_1p : Option Addr} {y10_1n y10_1c : Nat} {y10_2 : Int} {z11 : Int} {z12 : Int} {w : World}, s8 q3.block y3_0 y3_1 y3_2p y3_2n y3_2c q4.block y4_0 y4_1 y4_2p y4_2n y4_2c q7.block y7_0 y7_1 y7_2p y7_2n y7_2c q8.block y8_0 y8_1 y8_2p y8_2n y8_2c z9p z9n z9c q10.block y10_0 y10_1p y10_1n y10_1c y10_2 z11 z12 w → St w [(q3, [(.int .i64 y3_0), (.int .i64 y3_1), (.slice y3_2p y3_2n y3_2c)]), (q4, [(.int .i64 y4_0), (.int .i64 y4_1), (.slice y4_2p y4_2n y4_2c)]), (q7, [(.int .i64 y7_0), (.int .i64 y7_1), (.slice y7_2p y7_2n y7_2c)]), (q8, [(.int .i64 y8_0), (.int .i64 y8_1), (.slice y8_2p y8_2n y8_2c)]), (q10, [(.bool y10_0), (.slice y10_1p y10_1n y10_1c), (.int .i64 y10_2)])] → x8 (some q3) (some q4) (some q7) (some q8) z9p z9n z9c (some q10) z11 z12 w) (i12 : ∀ {q3 : Addr} {y3_0 : Int} {y3_1 : Int} {y3_2p : Option Addr} {y3_2n y3_2c : Nat} {q4 : Addr} {y4_0 : Int} {y4_1 : Int} {y4_2p : Option Addr} {y4_2n y4_2c : Nat} {q7 : Addr} {y7_0 : Int} {y7_1 : Int} {y7_2p : Option Addr} {y7_2n y7_2c : Nat} {q8 : Addr} {y8_0 : Int} {y8_1 : Int} {y8_2p : Option Addr} {y8_2n y8_2c : Nat} {z9p : Option Addr} {z9n z9c : Nat} {q10 : Addr} {y10_0 : Bool} {y10_1p : Option Addr} {y10_1n y10_1c : Nat} {y10_2 : Int} {z11 : Int} {z12 : Int} {q13 : Addr} {y13_0 : Bool} {y13_1p : Option Addr} {y13_1n y13_1c : Nat} {y13_2 : Int} {q14 : Addr} {y14_0 : Bool} {y14_1p : Option Addr} {y14_1n y14_1c : Nat} {y14_2 : Int} {z15 : Int} {w : World}, s12 q3.block y3_0 y3_1 y3_2p y3_2n y3_2c q4.block y4_0 y4_1 y4_2p y4_2n y4_2c q7.block y7_0 y7_1 y7_2p y7_2n y7_2c q8.block y8_0 y8_1 y8_2p y8_2n y8_2c z9p z9n z9c q10.block y10_0 y10_1p y10_1n y10_1c y10_2 z11 z12 q13.block y13_0 y13_1p y13_1n y13_1c y13_2 q14.block y14_0 y14_1p y14_1n y14_1c y14_2 z15 w → St w [(q3, [(.int .i64 y3_0), (.int .i64 y3_1), (.slice y3_2p y3_2n y3_2c)]), (q4, [(.int .i64 y4_0), (.int .i64 y4_1), (.slice y4_2p y4_2n y4_2c)]), (q7, [(.int .i64 y7_0), (.int .i64 y7_1), (.slice y7_2p y7_2n y7_2c)]), (q8, [(.int .i64 y8_0), (.int .i64 y8_1), (.slice y8_2p y8_2n y8_2c)]), (q10, [(.bool y10_0), (.slice y10_1p y10_1n y10_1c), (.int .i64 y10_2)]), (q13, [(.bool y13_0), (.slice y13_1p y13_1n y13_1c), (.int .i64 y13_2)]), (q14, [(.bool y14_0), (.slice y14_1p y14_1n y14_1c), (.int .i64 y14_2)])] → x12 (some q3) (some q4) (some q7) (some q8) z9p z9n z9c (some q10) z11 z12 (some q13) (some q14) z15 w) (i15 : ∀ {q3 : Addr} {y3_0 : Int} {y3_1 : Int} {y3_2p : Option Addr} {y3_2n y3_2c : Nat} {q4 : Addr} {y4_0 : Int} {y4_1 : Int} {y4_2p : Option Addr} {y4_2n y4_2c : Nat} {q7 : Addr} {y7_0 : Int} {y7_1 : Int} {y7_2p : Option Addr} {y7_2n y7_2c : Nat} {q8 : Addr} {y8_0 : Int} {y8_1 : Int} {y8_2p : Option Addr} {y8_2n y8_2c : Nat} {z9p : Option Addr} {z9n z9c : Nat} {q10 : Addr} {y10_0 : Bool} {y10_1p : Option Addr} {y10_1n y10_1c : Nat} {y10_2 : Int} {z11 : Int} {z12 : Int} {q13 : Addr} {y13_0 : Bool} {y13_1p : Option Addr} {y13_1n y13_1c : Nat} {y13_2 : Int} {q14 : Addr} {y14_0 : Bool} {y14_1p : Option Addr} {y14_1n y14_1c : Nat} {y14_2 : Int} {z15 : Int} {q16 : Addr} {y16_0 : Bool} {y16_1p : Option Addr} {y16_1n y16_1c : Nat} {y16_2 : Int} {w : World}, s15 q3.block y3_0 y3_1 y3_2p y3_2n y3_2c q4.block y4_0 y4_1 y4_2p y4_2n y4_2c q7.block y7_0 y7_1 y7_2p y7_2n y7_2c q8.block y8_0 y8_1 y8_2p y8_2n y8_2c z9p z9n z9c q10.block y10_0 y10_1p y10_1n y10_1c y10_2 z11 z12 q13.block y13_0 y13_1p y13_1n y13_1c y13_2 q14.block y14_0 y14_1p y14_1n y14_1c y14_2 z15 q16.block y16_0 y16_1p y16_1n y16_1c y16_2 w → St w [(q3, [(.int .i64 y3_0), (.int .i64 y3_1), (.slice y3_2p y3_2n y3_2c)]), (q4, [(.int .i64 y4_0), (.int .i64 y4_1), (.slice y4_2p y4_2n y4_2c)]), (q7, [(.int .i64 y7_0), (.int .i64 y7_1), (.slice y7_2p y7_2n y7_2c)]), (q8, [(.int .i64 y8_0), (.int .i64 y8_1), (.slice y8_2p y8_2n y8_2c)]), (q10, [(.bool y10_0), (.slice y10_1p y10_1n y10_1c), (.int .i64 y10_2)]), (q13, [(.bool y13_0), (.slice y13_1p y13_1n y13_1c), (.int .i64 y13_2)]), (q14, [(.bool y14_0), (.slice y14_1p y14_1n y14_1c), (.int .i64 y14_2)]), (q16, [(.bool y16_0), (.slice y16_1p y16_1n y16_1c), (.int .i64 y16_2)])] → x15 (some q3) (some q4) (some q7) (some q8) z9p z9n z9c (some q10) z11 z12 (some q13) (some q14) z15 (some q16) w) (i18 : ∀ {q3 : Addr} {y3_0 : Int} {y3_1 : Int} {y3_2p : Option Addr} {y3_2n y3_2c : Nat} {q4 : Addr} {y4_0 : Int} {y4_1 : Int} {y4_2p : Option Addr} {y4_2n y4_2c : Nat} {q7 : Addr} {y7_0 : Int} {y7_1 : Int} {y7_2p : Option Addr} {y7_2n y7_2c : Nat} {q8 : Addr} {y8_0 : Int} {y8_1 : Int} {y8_2p : Option Addr} {y8_2n y8_2c : Nat} {z9p : Option Addr} {z9n z9c : Nat} {q10 : Addr} {y10_0 : Bool} {y10_1p : Option Addr} {y10_1n y10_1c : Nat} {y10_2 : Int} {z11 : Int} {z12 : Int} {q13 : Addr} {y13_0 : Bool} {y13_1p : Option Addr} {y13_1n y13_1c : Nat} {y13_2 : Int} {q17 : Addr} {y17_0 : Bool} {y17_1p : Option Addr} {y17_1n y17_1c : Nat} {y17_2 : Int} {w : World}, s18 q3.block y3_0 y3_1 y3_2p y3_2n y3_2c q4.block y4_0 y4_1 y4_2p y4_2n y4_2c q7.block y7_0 y7_1 y7_2p y7_2n y7_2c q8.block y8_0 y8_1 y8_2p y8_2n y8_2c z9p z9n z9c q10.block y10_0 y10_1p y10_1n y10_1c y10_2 z11 z12 q13.block y13_0 y13_1p y13_1n y13_1c y13_2 q17.block y17_0 y17_1p y17_1n y17_1c y17_2 w → St w [(q3, [(.int .i64 y3_0), (.int .i64 y3_1), (.slice y3_2p y3_2n y3_2c)]), (q4, [(.int .i64 y4_0), (.int .i64 y4_1), (.slice y4_2p y4_2n y4_2c)]), (q7, [(.int .i64 y7_0), (.int .i64 y7_1), (.slice y7_2p y7_2n y7_2c)]), (q8, [(.int .i64 y8_0), (.int .i64 y8_1), (.slice y8_2p y8_2n y8_2c)]), (q10, [(.bool y10_0), (.slice y10_1p y10_1n y10_1c), (.int .i64 y10_2)]), (q13, [(.bool y13_0), (.slice y13_1p y13_1n y13_1c), (.int .i64 y13_2)]), (q17, [(.bool y17_0), (.slice y17_1p y17_1n y17_1c), (.int .i64 y17_2)])] → x18 (some q3) (some q4) (some q7) (some q8) z9p z9n z9c (some q10) z11 z12 (some q13) (some q17) w) {q3 : Addr} {y3_0 : Int} {y3_1 : Int} {y3_2p : Option Addr} {y3_2n y3_2c : Nat} {q4 : Addr} {y4_0 : Int} {y4_1 : Int} {y4_2p : Option Addr} {y4_2n y4_2c : Nat} {q7 : Addr} {y7_0 : Int} {y7_1 : Int} {y7_2p : Option Addr} {y7_2n y7_2c : Nat} {q8 : Addr} {y8_0 : Int} {y8_1 : Int} {y8_2p : Option Addr} {y8_2n y8_2c : Nat} {z9p : Option Addr} {z9n z9c : Nat} {q10 : Addr} {y10_0 : Bool} {y10_1p : Option Addr} {y10_1n y10_1c : Nat} {y10_2 : Int} {z11 : Int} {z12 : Int} {q13 : Addr} {y13_0 : Bool} {y13_1p : Option Addr} {y13_1n y13_1c : Nat} {y13_2 : Int} {q14 : Addr} {y14_0 : Bool} {y14_1p : Option Addr} {y14_1n y14_1c : Nat} {y14_2 : Int} {z15 : Int} {q16 : Addr} {y16_0 : Bool} {y16_1p : Option Addr} {y16_1n y16_1c : Nat} {y16_2 : Int} {w : World} (h : straightedgelaw16_closeTo.e15 K s5 s8 s12 s15 s18 q3.block y3_0 y3_1 y3_2p y3_2n y3_2c q4.block y4_0 y4_1 y4_2p y4_2n y4_2c q7.block y7_0 y7_1 y7_2p y7_2n y7_2c q8.block y8_0 y8_1 y8_2p y8_2n y8_2c z9p z9n z9c q10.block y10_0 y10_1p y10_1n y10_1c y10_2 z11 z12 q13.block y13_0 y13_1p y13_1n y13_1c y13_2 q14.block y14_0 y14_1p y14_1n y14_1c y14_2 z15 q16.block y16_0 y16_1p y16_1n y16_1c y16_2 w) (st : St w [(q3, [(.int .i64 y3_0), (.int .i64 y3_1), (.slice y3_2p y3_2n y3_2c)]), (q4, [(.int .i64 y4_0), (.int .i64 y4_1), (.slice y4_2p y4_2n y4_2c)]), (q7, [(.int .i64 y7_0), (.int .i64 y7_1), (.slice y7_2p y7_2n y7_2c)]), (q8, [(.int .i64 y8_0), (.int .i64 y8_1), (.slice y8_2p y8_2n y8_2c)]), (q10, [(.bool y10_0), (.slice y10_1p y10_1n y10_1c), (.int .i64 y10_2)]), (q13, [(.bool y13_0), (.slice y13_1p y13_1n y13_1c), (.int .i64 y13_2)]), (q14, [(.bool y14_0), (.slice y14_1p y14_1n y14_1c), (.int .i64 y14_2)]), (q16, [(.bool y16_0), (.slice y16_1p y16_1n y16_1c), (.int .i64 y16_2)])]) : straightedgelaw16_closeTo.b15 K x5 x8 x12 x15 x18 (some q3) (some q4) (some q7) (some q8) z9p z9n z9c (some q10) z11 z12 (some q13) (some q14) z15 (some q16) w := by
  unfold straightedgelaw16_closeTo.b15
  unfold straightedgelaw16_closeTo.e15 at h
  refine ptrSome_intro rfl ?_
  refine rd_b_l_i64.bx 5 0 st rfl rfl rfl rfl rfl ?_
  refine ptrSome_intro rfl ?_
  refine rd_b_l_i64.bx 7 0 st rfl rfl rfl rfl rfl ?_
  refine CallF.mono h (fun v13 w14 h => ?_)
  obtain ⟨hK, h⟩ := h
  replace st := st.stay hK
  obtain ⟨b15, a16, n17, c18, i19, h⟩ := h
  refine ⟨b15, a16, n17, c18, i19, ?_⟩
  refine And.imp_right (fun h => ?_) h
  refine ptrSome_intro rfl ?_
  refine St.put 5 0 st rfl rfl rfl rfl (fun w21 he st => ?_)
  replace h := h w21 he
  replace st := st.drew
  have st22 := st
  refine ptrSome_intro rfl ?_
  refine rd_b_l_i64.bx 6 0 st22 rfl rfl rfl rfl rfl ?_
  refine ptrSome_intro rfl ?_
  refine rd_b_l_i64.bx 7 0 st22 rfl rfl rfl rfl rfl ?_
  refine CallF.mono h (fun v35 w36 h => ?_)
  obtain ⟨hK, h⟩ := h
  replace st := st.stay hK
  obtain ⟨b37, a38, n39, c40, i41, h⟩ := h
  refine ⟨b37, a38, n39, c40, i41, ?_⟩
  refine And.imp_right (fun h => ?_) h
  refine And.imp_right (fun h => ?_) h
  refine CallF.mono h (fun v42 w43 h => ?_)
  obtain ⟨hK, h⟩ := h
  replace st := st.stay hK
  obtain ⟨b44, a45, n46, c47, i48, h⟩ := h
  refine ⟨b44, a45, n46, c47, i48, ?_⟩
  refine And.imp_right (fun h => ?_) h
  refine ptrSome_intro rfl ?_
  refine St.put 6 0 st rfl rfl rfl rfl (fun w50 he st => ?_)
  replace h := h w50 he
  exact i12 h (st.pick [0, 1, 2, 3, 4, 5, 6] (by decide))
theorem straightedgelaw16_closeTo.b18_s {K : Value → World → Prop} {x5 : Option Addr → Option Addr → Option Addr → Option Addr → Option Addr → Nat → Nat → Option Addr → Int → World → Prop} {x8 : Option Addr → Option Addr → Option Addr → Option Addr → Option Addr → Nat → Nat → Option Addr → Int → Int → World → Prop} {x12 : Option Addr → Option Addr → Option Addr → Option Addr → Option Addr → Nat → Nat → Option Addr → Int → Int → Option Addr → Option Addr → Int → World → Prop} {x15 : Option Addr → Option Addr → Option Addr → Option Addr → Option Addr → Nat → Nat → Option Addr → Int → Int → Option Addr → Option Addr → Int → Option Addr → World → Prop} {x18 : Option Addr → Option Addr → Option Addr → Option Addr → Option Addr → Nat → Nat → Option Addr → Int → Int → Option Addr → Option Addr → World → Prop} {s5 : Nat → Int → Int → Option Addr → Nat → Nat → Nat → Int → Int → Option Addr → Nat → Nat → Nat → Int → Int → Option Addr → Nat → Nat → Nat → Int → Int → Option Addr → Nat → Nat → Option Addr → Nat → Nat → Nat → Bool → Option Addr → Nat → Nat → Int → Int → World → Prop} {s8 : Nat → Int → Int → Option Addr → Nat → Nat → Nat → Int → Int → Option Addr → Nat → Nat → Nat → Int → Int → Option Addr → Nat → Nat → Nat → Int → Int → Option Addr → Nat → Nat → Option Addr → Nat → Nat → Nat → Bool → Option Addr → Nat → Nat → Int → Int → Int → World → Prop} {s12 : Nat → Int → Int → Option Addr → Nat → Nat → Nat → Int → Int → Option Addr → Nat → Nat → Nat → Int → Int → Option Addr → Nat → Nat → Nat → Int → Int → Option Addr → Nat → Nat → Option Addr → Nat → Nat → Nat → Bool → Option Addr → Nat → Nat → Int → Int → Int → Nat → Bool → Option Addr → Nat → Nat → Int → Nat → Bool → Option Addr → Nat → Nat → Int → Int → World → Prop} {s15 : Nat → Int → Int → Option Addr → Nat → Nat → Nat → Int → Int → Option Addr → Nat → Nat → Nat → Int → Int → Option Addr → Nat → Nat → Nat → Int → Int → Option Addr → Nat → Nat → Option Addr → Nat → Nat → Nat → Bool → Option Addr → Nat → Nat → Int → Int → Int → Nat → Bool → Option Addr → Nat → Nat → Int → Nat → Bool → Option Addr → Nat → Nat → Int → Int → Nat → Bool → Option Addr → Nat → Nat → Int → World → Prop} {s18 : Nat → Int → Int → Option Addr → Nat → Nat → Nat → Int → Int → Option Addr → Nat → Nat → Nat → Int → Int → Option Addr → Nat → Nat → Nat → Int → Int → Option Addr → Nat → Nat → Option Addr → Nat → Nat → Nat → Bool → Option Addr → Nat → Nat → Int → Int → Int → Nat → Bool → Option Addr → Nat → Nat → Int → Nat → Bool → Option Addr → Nat → Nat → Int → World → Prop} (i5 : ∀ {q3 : Addr} {y3_0 : Int} {y3_1 : Int} {y3_2p : Option Addr} {y3_2n y3_2c : Nat} {q4 : Addr} {y4_0 : Int} {y4_1 : Int} {y4_2p : Option Addr} {y4_2n y4_2c : Nat} {q7 : Addr} {y7_0 : Int} {y7_1 : Int} {y7_2p : Option Addr} {y7_2n y7_2c : Nat} {q8 : Addr} {y8_0 : Int} {y8_1 : Int} {y8_2p : Option Addr} {y8_2n y8_2c : Nat} {z9p : Option Addr} {z9n z9c : Nat} {q10 : Addr} {y10_0 : Bool} {y10_1p : Option Addr} {y10_1n y10_1c : Nat} {y10_2 : Int} {z11 : Int} {w : World}, s5 q3.block y3_0 y3_1 y3_2p y3_2n y3_2c q4.block y4_0 y4_1 y4_2p y4_2n y4_2c q7.block y7_0 y7_1 y7_2p y7_2n y7_2c q8.block y8_0 y8_1 y8_2p y8_2n y8_2c z9p z9n z9c q10.block y10_0 y10_1p y10_1n y10_1c y10_2 z11 w → St w [(q3, [(.int .i64 y3_0), (.int .i64 y3_1), (.slice y3_2p y3_2n y3_2c)]), (q4, [(.int .i64 y4_0), (.int .i64 y4_1), (.slice y4_2p y4_2n y4_2c)]), (q7, [(.int .i64 y7_0), (.int .i64 y7_1), (.slice y7_2p y7_2n y7_2c)]), (q8, [(.int .i64 y8_0), (.int .i64 y8_1), (.slice y8_2p y8_2n y8_2c)]), (q10, [(.bool y10_0), (.slice y10_1p y10_1n y10_1c), (.int .i64 y10_2)])] → x5 (some q3) (some q4) (some q7) (some q8) z9p z9n z9c (some q10) z11 w) (i8 : ∀ {q3 : Addr} {y3_0 : Int} {y3_1 : Int} {y3_2p : Option Addr} {y3_2n y3_2c : Nat} {q4 : Addr} {y4_0 : Int} {y4_1 : Int} {y4_2p : Option Addr} {y4_2n y4_2c : Nat} {q7 : Addr} {y7_0 : Int} {y7_1 : Int} {y7_2p : Option Addr} {y7_2n y7_2c : Nat} {q8 : Addr} {y8_0 : Int} {y8_1 : Int} {y8_2p : Option Addr} {y8_2n y8_2c : Nat} {z9p : Option Addr} {z9n z9c : Nat} {q10 : Addr} {y10_0 : Bool} {y10_1p : Option Addr} {y10_1n y10_1c : Nat} {y10_2 : Int} {z11 : Int} {z12 : Int} {w : World}, s8 q3.block y3_0 y3_1 y3_2p y3_2n y3_2c q4.block y4_0 y4_1 y4_2p y4_2n y4_2c q7.block y7_0 y7_1 y7_2p y7_2n y7_2c q8.block y8_0 y8_1 y8_2p y8_2n y8_2c z9p z9n z9c q10.block y10_0 y10_1p y10_1n y10_1c y10_2 z11 z12 w → St w [(q3, [(.int .i64 y3_0), (.int .i64 y3_1), (.slice y3_2p y3_2n y3_2c)]), (q4, [(.int .i64 y4_0), (.int .i64 y4_1), (.slice y4_2p y4_2n y4_2c)]), (q7, [(.int .i64 y7_0), (.int .i64 y7_1), (.slice y7_2p y7_2n y7_2c)]), (q8, [(.int .i64 y8_0), (.int .i64 y8_1), (.slice y8_2p y8_2n y8_2c)]), (q10, [(.bool y10_0), (.slice y10_1p y10_1n y10_1c), (.int .i64 y10_2)])] → x8 (some q3) (some q4) (some q7) (some q8) z9p z9n z9c (some q10) z11 z12 w) (i12 : ∀ {q3 : Addr} {y3_0 : Int} {y3_1 : Int} {y3_2p : Option Addr} {y3_2n y3_2c : Nat} {q4 : Addr} {y4_0 : Int} {y4_1 : Int} {y4_2p : Option Addr} {y4_2n y4_2c : Nat} {q7 : Addr} {y7_0 : Int} {y7_1 : Int} {y7_2p : Option Addr} {y7_2n y7_2c : Nat} {q8 : Addr} {y8_0 : Int} {y8_1 : Int} {y8_2p : Option Addr} {y8_2n y8_2c : Nat} {z9p : Option Addr} {z9n z9c : Nat} {q10 : Addr} {y10_0 : Bool} {y10_1p : Option Addr} {y10_1n y10_1c : Nat} {y10_2 : Int} {z11 : Int} {z12 : Int} {q13 : Addr} {y13_0 : Bool} {y13_1p : Option Addr} {y13_1n y13_1c : Nat} {y13_2 : Int} {q14 : Addr} {y14_0 : Bool} {y14_1p : Option Addr} {y14_1n y14_1c : Nat} {y14_2 : Int} {z15 : Int} {w : World}, s12 q3.block y3_0 y3_1 y3_2p y3_2n y3_2c q4.block y4_0 y4_1 y4_2p y4_2n y4_2c q7.block y7_0 y7_1 y7_2p y7_2n y7_2c q8.block y8_0 y8_1 y8_2p y8_2n y8_2c z9p z9n z9c q10.block y10_0 y10_1p y10_1n y10_1c y10_2 z11 z12 q13.block y13_0 y13_1p y13_1n y13_1c y13_2 q14.block y14_0 y14_1p y14_1n y14_1c y14_2 z15 w → St w [(q3, [(.int .i64 y3_0), (.int .i64 y3_1), (.slice y3_2p y3_2n y3_2c)]), (q4, [(.int .i64 y4_0), (.int .i64 y4_1), (.slice y4_2p y4_2n y4_2c)]), (q7, [(.int .i64 y7_0), (.int .i64 y7_1), (.slice y7_2p y7_2n y7_2c)]), (q8, [(.int .i64 y8_0), (.int .i64 y8_1), (.slice y8_2p y8_2n y8_2c)]), (q10, [(.bool y10_0), (.slice y10_1p y10_1n y10_1c), (.int .i64 y10_2)]), (q13, [(.bool y13_0), (.slice y13_1p y13_1n y13_1c), (.int .i64 y13_2)]), (q14, [(.bool y14_0), (.slice y14_1p y14_1n y14_1c), (.int .i64 y14_2)])] → x12 (some q3) (some q4) (some q7) (some q8) z9p z9n z9c (some q10) z11 z12 (some q13) (some q14) z15 w) (i15 : ∀ {q3 : Addr} {y3_0 : Int} {y3_1 : Int} {y3_2p : Option Addr} {y3_2n y3_2c : Nat} {q4 : Addr} {y4_0 : Int} {y4_1 : Int} {y4_2p : Option Addr} {y4_2n y4_2c : Nat} {q7 : Addr} {y7_0 : Int} {y7_1 : Int} {y7_2p : Option Addr} {y7_2n y7_2c : Nat} {q8 : Addr} {y8_0 : Int} {y8_1 : Int} {y8_2p : Option Addr} {y8_2n y8_2c : Nat} {z9p : Option Addr} {z9n z9c : Nat} {q10 : Addr} {y10_0 : Bool} {y10_1p : Option Addr} {y10_1n y10_1c : Nat} {y10_2 : Int} {z11 : Int} {z12 : Int} {q13 : Addr} {y13_0 : Bool} {y13_1p : Option Addr} {y13_1n y13_1c : Nat} {y13_2 : Int} {q14 : Addr} {y14_0 : Bool} {y14_1p : Option Addr} {y14_1n y14_1c : Nat} {y14_2 : Int} {z15 : Int} {q16 : Addr} {y16_0 : Bool} {y16_1p : Option Addr} {y16_1n y16_1c : Nat} {y16_2 : Int} {w : World}, s15 q3.block y3_0 y3_1 y3_2p y3_2n y3_2c q4.block y4_0 y4_1 y4_2p y4_2n y4_2c q7.block y7_0 y7_1 y7_2p y7_2n y7_2c q8.block y8_0 y8_1 y8_2p y8_2n y8_2c z9p z9n z9c q10.block y10_0 y10_1p y10_1n y10_1c y10_2 z11 z12 q13.block y13_0 y13_1p y13_1n y13_1c y13_2 q14.block y14_0 y14_1p y14_1n y14_1c y14_2 z15 q16.block y16_0 y16_1p y16_1n y16_1c y16_2 w → St w [(q3, [(.int .i64 y3_0), (.int .i64 y3_1), (.slice y3_2p y3_2n y3_2c)]), (q4, [(.int .i64 y4_0), (.int .i64 y4_1), (.slice y4_2p y4_2n y4_2c)]), (q7, [(.int .i64 y7_0), (.int .i64 y7_1), (.slice y7_2p y7_2n y7_2c)]), (q8, [(.int .i64 y8_0), (.int .i64 y8_1), (.slice y8_2p y8_2n y8_2c)]), (q10, [(.bool y10_0), (.slice y10_1p y10_1n y10_1c), (.int .i64 y10_2)]), (q13, [(.bool y13_0), (.slice y13_1p y13_1n y13_1c), (.int .i64 y13_2)]), (q14, [(.bool y14_0), (.slice y14_1p y14_1n y14_1c), (.int .i64 y14_2)]), (q16, [(.bool y16_0), (.slice y16_1p y16_1n y16_1c), (.int .i64 y16_2)])] → x15 (some q3) (some q4) (some q7) (some q8) z9p z9n z9c (some q10) z11 z12 (some q13) (some q14) z15 (some q16) w) (i18 : ∀ {q3 : Addr} {y3_0 : Int} {y3_1 : Int} {y3_2p : Option Addr} {y3_2n y3_2c : Nat} {q4 : Addr} {y4_0 : Int} {y4_1 : Int} {y4_2p : Option Addr} {y4_2n y4_2c : Nat} {q7 : Addr} {y7_0 : Int} {y7_1 : Int} {y7_2p : Option Addr} {y7_2n y7_2c : Nat} {q8 : Addr} {y8_0 : Int} {y8_1 : Int} {y8_2p : Option Addr} {y8_2n y8_2c : Nat} {z9p : Option Addr} {z9n z9c : Nat} {q10 : Addr} {y10_0 : Bool} {y10_1p : Option Addr} {y10_1n y10_1c : Nat} {y10_2 : Int} {z11 : Int} {z12 : Int} {q13 : Addr} {y13_0 : Bool} {y13_1p : Option Addr} {y13_1n y13_1c : Nat} {y13_2 : Int} {q17 : Addr} {y17_0 : Bool} {y17_1p : Option Addr} {y17_1n y17_1c : Nat} {y17_2 : Int} {w : World}, s18 q3.block y3_0 y3_1 y3_2p y3_2n y3_2c q4.block y4_0 y4_1 y4_2p y4_2n y4_2c q7.block y7_0 y7_1 y7_2p y7_2n y7_2c q8.block y8_0 y8_1 y8_2p y8_2n y8_2c z9p z9n z9c q10.block y10_0 y10_1p y10_1n y10_1c y10_2 z11 z12 q13.block y13_0 y13_1p y13_1n y13_1c y13_2 q17.block y17_0 y17_1p y17_1n y17_1c y17_2 w → St w [(q3, [(.int .i64 y3_0), (.int .i64 y3_1), (.slice y3_2p y3_2n y3_2c)]), (q4, [(.int .i64 y4_0), (.int .i64 y4_1), (.slice y4_2p y4_2n y4_2c)]), (q7, [(.int .i64 y7_0), (.int .i64 y7_1), (.slice y7_2p y7_2n y7_2c)]), (q8, [(.int .i64 y8_0), (.int .i64 y8_1), (.slice y8_2p y8_2n y8_2c)]), (q10, [(.bool y10_0), (.slice y10_1p y10_1n y10_1c), (.int .i64 y10_2)]), (q13, [(.bool y13_0), (.slice y13_1p y13_1n y13_1c), (.int .i64 y13_2)]), (q17, [(.bool y17_0), (.slice y17_1p y17_1n y17_1c), (.int .i64 y17_2)])] → x18 (some q3) (some q4) (some q7) (some q8) z9p z9n z9c (some q10) z11 z12 (some q13) (some q17) w) {q3 : Addr} {y3_0 : Int} {y3_1 : Int} {y3_2p : Option Addr} {y3_2n y3_2c : Nat} {q4 : Addr} {y4_0 : Int} {y4_1 : Int} {y4_2p : Option Addr} {y4_2n y4_2c : Nat} {q7 : Addr} {y7_0 : Int} {y7_1 : Int} {y7_2p : Option Addr} {y7_2n y7_2c : Nat} {q8 : Addr} {y8_0 : Int} {y8_1 : Int} {y8_2p : Option Addr} {y8_2n y8_2c : Nat} {z9p : Option Addr} {z9n z9c : Nat} {q10 : Addr} {y10_0 : Bool} {y10_1p : Option Addr} {y10_1n y10_1c : Nat} {y10_2 : Int} {z11 : Int} {z12 : Int} {q13 : Addr} {y13_0 : Bool} {y13_1p : Option Addr} {y13_1n y13_1c : Nat} {y13_2 : Int} {q17 : Addr} {y17_0 : Bool} {y17_1p : Option Addr} {y17_1n y17_1c : Nat} {y17_2 : Int} {w : World} (h : straightedgelaw16_closeTo.e18 K s5 s8 s12 s15 s18 q3.block y3_0 y3_1 y3_2p y3_2n y3_2c q4.block y4_0 y4_1 y4_2p y4_2n y4_2c q7.block y7_0 y7_1 y7_2p y7_2n y7_2c q8.block y8_0 y8_1 y8_2p y8_2n y8_2c z9p z9n z9c q10.block y10_0 y10_1p y10_1n y10_1c y10_2 z11 z12 q13.block y13_0 y13_1p y13_1n y13_1c y13_2 q17.block y17_0 y17_1p y17_1n y17_1c y17_2 w) (st : St w [(q3, [(.int .i64 y3_0), (.int .i64 y3_1), (.slice y3_2p y3_2n y3_2c)]), (q4, [(.int .i64 y4_0), (.int .i64 y4_1), (.slice y4_2p y4_2n y4_2c)]), (q7, [(.int .i64 y7_0), (.int .i64 y7_1), (.slice y7_2p y7_2n y7_2c)]), (q8, [(.int .i64 y8_0), (.int .i64 y8_1), (.slice y8_2p y8_2n y8_2c)]), (q10, [(.bool y10_0), (.slice y10_1p y10_1n y10_1c), (.int .i64 y10_2)]), (q13, [(.bool y13_0), (.slice y13_1p y13_1n y13_1c), (.int .i64 y13_2)]), (q17, [(.bool y17_0), (.slice y17_1p y17_1n y17_1c), (.int .i64 y17_2)])]) : straightedgelaw16_closeTo.b18 K x5 x8 x12 x15 x18 (some q3) (some q4) (some q7) (some q8) z9p z9n z9c (some q10) z11 z12 (some q13) (some q17) w := by
  unfold straightedgelaw16_closeTo.b18
  unfold straightedgelaw16_closeTo.e18 at h
  replace st := st.drew
  have st1 := st
  refine ptrSome_intro rfl ?_
  refine rd_b_l_i64.bx 5 0 st1 rfl rfl rfl rfl rfl ?_
  refine ptrSome_intro rfl ?_
  refine rd_i64_i64_l.bx 0 0 st1 rfl rfl rfl rfl rfl ?_
  refine ptrSome_mono (fun q14 h => ?_) h
  refine And.imp_right (fun h => ?_) h
  refine And.imp_right (fun h => ?_) h
  refine rd_i64.mono (fun i15 h => ?_) h
  refine ptrSome_intro rfl ?_
  refine rd_b_l_i64.bx 6 0 st1 rfl rfl rfl rfl rfl ?_
  refine CallF.mono h (fun v22 w23 h => ?_)
  obtain ⟨hK, h⟩ := h
  replace st := st.stay hK
  obtain ⟨x24, h⟩ := h
  refine ⟨x24, ?_⟩
  refine And.imp_right (fun h => ?_) h
  refine And.imp_right (fun h => ?_) h
  refine CallF.mono h (fun v25 w26 h => ?_)
  obtain ⟨hK, h⟩ := h
  replace st := st.stay hK
  obtain ⟨b27, a28, n29, c30, i31, h⟩ := h
  refine ⟨b27, a28, n29, c30, i31, ?_⟩
  refine And.imp_right (fun h => ?_) h
  refine And.imp_right (fun h => ?_) h
  refine CallF.mono h (fun v32 w33 h => ?_)
  obtain ⟨hK, h⟩ := h
  replace st := st.stay hK
  obtain ⟨b34, a35, n36, c37, i38, h⟩ := h
  refine ⟨b34, a35, n36, c37, i38, ?_⟩
  refine And.imp_right (fun h => ?_) h
  refine And.imp_right (fun h => ?_) h
  refine CallF.mono h (fun v39 w40 h => ?_)
  obtain ⟨hK, h⟩ := h
  replace st := st.stay hK
  obtain ⟨b41, a42, n43, c44, i45, h⟩ := h
  refine ⟨b41, a42, n43, c44, i45, ?_⟩
  refine And.imp_right (fun h => ?_) h
  refine And.imp_right (fun h => ?_) h
  refine CallF.mono h (fun v46 w47 h => ?_)
  obtain ⟨hK, h⟩ := h
  replace st := st.stay hK
  obtain ⟨i48, h⟩ := h
  refine ⟨i48, ?_⟩
  refine And.imp_right (fun h => ?_) h
  refine br_mono (fun h => ?_) (fun h => ?_) h
  · exact h
  · exact i8 h (st.pick [0, 1, 2, 3, 4] (by decide))
theorem straightedgelaw16_closeTo.H_s {K : Value → World → Prop} (fu : Nat) : (∀ {q3 : Addr} {y3_0 : Int} {y3_1 : Int} {y3_2p : Option Addr} {y3_2n y3_2c : Nat} {q4 : Addr} {y4_0 : Int} {y4_1 : Int} {y4_2p : Option Addr} {y4_2n y4_2c : Nat} {q7 : Addr} {y7_0 : Int} {y7_1 : Int} {y7_2p : Option Addr} {y7_2n y7_2c : Nat} {q8 : Addr} {y8_0 : Int} {y8_1 : Int} {y8_2p : Option Addr} {y8_2n y8_2c : Nat} {z9p : Option Addr} {z9n z9c : Nat} {q10 : Addr} {y10_0 : Bool} {y10_1p : Option Addr} {y10_1n y10_1c : Nat} {y10_2 : Int} {z11 : Int} {w : World}, (straightedgelaw16_closeTo.I K fu).1 q3.block y3_0 y3_1 y3_2p y3_2n y3_2c q4.block y4_0 y4_1 y4_2p y4_2n y4_2c q7.block y7_0 y7_1 y7_2p y7_2n y7_2c q8.block y8_0 y8_1 y8_2p y8_2n y8_2c z9p z9n z9c q10.block y10_0 y10_1p y10_1n y10_1c y10_2 z11 w → St w [(q3, [(.int .i64 y3_0), (.int .i64 y3_1), (.slice y3_2p y3_2n y3_2c)]), (q4, [(.int .i64 y4_0), (.int .i64 y4_1), (.slice y4_2p y4_2n y4_2c)]), (q7, [(.int .i64 y7_0), (.int .i64 y7_1), (.slice y7_2p y7_2n y7_2c)]), (q8, [(.int .i64 y8_0), (.int .i64 y8_1), (.slice y8_2p y8_2n y8_2c)]), (q10, [(.bool y10_0), (.slice y10_1p y10_1n y10_1c), (.int .i64 y10_2)])] → (straightedgelaw16_closeTo.H K fu).1 (some q3) (some q4) (some q7) (some q8) z9p z9n z9c (some q10) z11 w) ∧ (∀ {q3 : Addr} {y3_0 : Int} {y3_1 : Int} {y3_2p : Option Addr} {y3_2n y3_2c : Nat} {q4 : Addr} {y4_0 : Int} {y4_1 : Int} {y4_2p : Option Addr} {y4_2n y4_2c : Nat} {q7 : Addr} {y7_0 : Int} {y7_1 : Int} {y7_2p : Option Addr} {y7_2n y7_2c : Nat} {q8 : Addr} {y8_0 : Int} {y8_1 : Int} {y8_2p : Option Addr} {y8_2n y8_2c : Nat} {z9p : Option Addr} {z9n z9c : Nat} {q10 : Addr} {y10_0 : Bool} {y10_1p : Option Addr} {y10_1n y10_1c : Nat} {y10_2 : Int} {z11 : Int} {z12 : Int} {w : World}, (straightedgelaw16_closeTo.I K fu).2.1 q3.block y3_0 y3_1 y3_2p y3_2n y3_2c q4.block y4_0 y4_1 y4_2p y4_2n y4_2c q7.block y7_0 y7_1 y7_2p y7_2n y7_2c q8.block y8_0 y8_1 y8_2p y8_2n y8_2c z9p z9n z9c q10.block y10_0 y10_1p y10_1n y10_1c y10_2 z11 z12 w → St w [(q3, [(.int .i64 y3_0), (.int .i64 y3_1), (.slice y3_2p y3_2n y3_2c)]), (q4, [(.int .i64 y4_0), (.int .i64 y4_1), (.slice y4_2p y4_2n y4_2c)]), (q7, [(.int .i64 y7_0), (.int .i64 y7_1), (.slice y7_2p y7_2n y7_2c)]), (q8, [(.int .i64 y8_0), (.int .i64 y8_1), (.slice y8_2p y8_2n y8_2c)]), (q10, [(.bool y10_0), (.slice y10_1p y10_1n y10_1c), (.int .i64 y10_2)])] → (straightedgelaw16_closeTo.H K fu).2.1 (some q3) (some q4) (some q7) (some q8) z9p z9n z9c (some q10) z11 z12 w) ∧ (∀ {q3 : Addr} {y3_0 : Int} {y3_1 : Int} {y3_2p : Option Addr} {y3_2n y3_2c : Nat} {q4 : Addr} {y4_0 : Int} {y4_1 : Int} {y4_2p : Option Addr} {y4_2n y4_2c : Nat} {q7 : Addr} {y7_0 : Int} {y7_1 : Int} {y7_2p : Option Addr} {y7_2n y7_2c : Nat} {q8 : Addr} {y8_0 : Int} {y8_1 : Int} {y8_2p : Option Addr} {y8_2n y8_2c : Nat} {z9p : Option Addr} {z9n z9c : Nat} {q10 : Addr} {y10_0 : Bool} {y10_1p : Option Addr} {y10_1n y10_1c : Nat} {y10_2 : Int} {z11 : Int} {z12 : Int} {q13 : Addr} {y13_0 : Bool} {y13_1p : Option Addr} {y13_1n y13_1c : Nat} {y13_2 : Int} {q14 : Addr} {y14_0 : Bool} {y14_1p : Option Addr} {y14_1n y14_1c : Nat} {y14_2 : Int} {z15 : Int} {w : World}, (straightedgelaw16_closeTo.I K fu).2.2.1 q3.block y3_0 y3_1 y3_2p y3_2n y3_2c q4.block y4_0 y4_1 y4_2p y4_2n y4_2c q7.block y7_0 y7_1 y7_2p y7_2n y7_2c q8.block y8_0 y8_1 y8_2p y8_2n y8_2c z9p z9n z9c q10.block y10_0 y10_1p y10_1n y10_1c y10_2 z11 z12 q13.block y13_0 y13_1p y13_1n y13_1c y13_2 q14.block y14_0 y14_1p y14_1n y14_1c y14_2 z15 w → St w [(q3, [(.int .i64 y3_0), (.int .i64 y3_1), (.slice y3_2p y3_2n y3_2c)]), (q4, [(.int .i64 y4_0), (.int .i64 y4_1), (.slice y4_2p y4_2n y4_2c)]), (q7, [(.int .i64 y7_0), (.int .i64 y7_1), (.slice y7_2p y7_2n y7_2c)]), (q8, [(.int .i64 y8_0), (.int .i64 y8_1), (.slice y8_2p y8_2n y8_2c)]), (q10, [(.bool y10_0), (.slice y10_1p y10_1n y10_1c), (.int .i64 y10_2)]), (q13, [(.bool y13_0), (.slice y13_1p y13_1n y13_1c), (.int .i64 y13_2)]), (q14, [(.bool y14_0), (.slice y14_1p y14_1n y14_1c), (.int .i64 y14_2)])] → (straightedgelaw16_closeTo.H K fu).2.2.1 (some q3) (some q4) (some q7) (some q8) z9p z9n z9c (some q10) z11 z12 (some q13) (some q14) z15 w) ∧ (∀ {q3 : Addr} {y3_0 : Int} {y3_1 : Int} {y3_2p : Option Addr} {y3_2n y3_2c : Nat} {q4 : Addr} {y4_0 : Int} {y4_1 : Int} {y4_2p : Option Addr} {y4_2n y4_2c : Nat} {q7 : Addr} {y7_0 : Int} {y7_1 : Int} {y7_2p : Option Addr} {y7_2n y7_2c : Nat} {q8 : Addr} {y8_0 : Int} {y8_1 : Int} {y8_2p : Option Addr} {y8_2n y8_2c : Nat} {z9p : Option Addr} {z9n z9c : Nat} {q10 : Addr} {y10_0 : Bool} {y10_1p : Option Addr} {y10_1n y10_1c : Nat} {y10_2 : Int} {z11 : Int} {z12 : Int} {q13 : Addr} {y13_0 : Bool} {y13_1p : Option Addr} {y13_1n y13_1c : Nat} {y13_2 : Int} {q14 : Addr} {y14_0 : Bool} {y14_1p : Option Addr} {y14_1n y14_1c : Nat} {y14_2 : Int} {z15 : Int} {q16 : Addr} {y16_0 : Bool} {y16_1p : Option Addr} {y16_1n y16_1c : Nat} {y16_2 : Int} {w : World}, (straightedgelaw16_closeTo.I K fu).2.2.2.1 q3.block y3_0 y3_1 y3_2p y3_2n y3_2c q4.block y4_0 y4_1 y4_2p y4_2n y4_2c q7.block y7_0 y7_1 y7_2p y7_2n y7_2c q8.block y8_0 y8_1 y8_2p y8_2n y8_2c z9p z9n z9c q10.block y10_0 y10_1p y10_1n y10_1c y10_2 z11 z12 q13.block y13_0 y13_1p y13_1n y13_1c y13_2 q14.block y14_0 y14_1p y14_1n y14_1c y14_2 z15 q16.block y16_0 y16_1p y16_1n y16_1c y16_2 w → St w [(q3, [(.int .i64 y3_0), (.int .i64 y3_1), (.slice y3_2p y3_2n y3_2c)]), (q4, [(.int .i64 y4_0), (.int .i64 y4_1), (.slice y4_2p y4_2n y4_2c)]), (q7, [(.int .i64 y7_0), (.int .i64 y7_1), (.slice y7_2p y7_2n y7_2c)]), (q8, [(.int .i64 y8_0), (.int .i64 y8_1), (.slice y8_2p y8_2n y8_2c)]), (q10, [(.bool y10_0), (.slice y10_1p y10_1n y10_1c), (.int .i64 y10_2)]), (q13, [(.bool y13_0), (.slice y13_1p y13_1n y13_1c), (.int .i64 y13_2)]), (q14, [(.bool y14_0), (.slice y14_1p y14_1n y14_1c), (.int .i64 y14_2)]), (q16, [(.bool y16_0), (.slice y16_1p y16_1n y16_1c), (.int .i64 y16_2)])] → (straightedgelaw16_closeTo.H K fu).2.2.2.1 (some q3) (some q4) (some q7) (some q8) z9p z9n z9c (some q10) z11 z12 (some q13) (some q14) z15 (some q16) w) ∧ (∀ {q3 : Addr} {y3_0 : Int} {y3_1 : Int} {y3_2p : Option Addr} {y3_2n y3_2c : Nat} {q4 : Addr} {y4_0 : Int} {y4_1 : Int} {y4_2p : Option Addr} {y4_2n y4_2c : Nat} {q7 : Addr} {y7_0 : Int} {y7_1 : Int} {y7_2p : Option Addr} {y7_2n y7_2c : Nat} {q8 : Addr} {y8_0 : Int} {y8_1 : Int} {y8_2p : Option Addr} {y8_2n y8_2c : Nat} {z9p : Option Addr} {z9n z9c : Nat} {q10 : Addr} {y10_0 : Bool} {y10_1p : Option Addr} {y10_1n y10_1c : Nat} {y10_2 : Int} {z11 : Int} {z12 : Int} {q13 : Addr} {y13_0 : Bool} {y13_1p : Option Addr} {y13_1n y13_1c : Nat} {y13_2 : Int} {q17 : Addr} {y17_0 : Bool} {y17_1p : Option Addr} {y17_1n y17_1c : Nat} {y17_2 : Int} {w : World}, (straightedgelaw16_closeTo.I K fu).2.2.2.2 q3.block y3_0 y3_1 y3_2p y3_2n y3_2c q4.block y4_0 y4_1 y4_2p y4_2n y4_2c q7.block y7_0 y7_1 y7_2p y7_2n y7_2c q8.block y8_0 y8_1 y8_2p y8_2n y8_2c z9p z9n z9c q10.block y10_0 y10_1p y10_1n y10_1c y10_2 z11 z12 q13.block y13_0 y13_1p y13_1n y13_1c y13_2 q17.block y17_0 y17_1p y17_1n y17_1c y17_2 w → St w [(q3, [(.int .i64 y3_0), (.int .i64 y3_1), (.slice y3_2p y3_2n y3_2c)]), (q4, [(.int .i64 y4_0), (.int .i64 y4_1), (.slice y4_2p y4_2n y4_2c)]), (q7, [(.int .i64 y7_0), (.int .i64 y7_1), (.slice y7_2p y7_2n y7_2c)]), (q8, [(.int .i64 y8_0), (.int .i64 y8_1), (.slice y8_2p y8_2n y8_2c)]), (q10, [(.bool y10_0), (.slice y10_1p y10_1n y10_1c), (.int .i64 y10_2)]), (q13, [(.bool y13_0), (.slice y13_1p y13_1n y13_1c), (.int .i64 y13_2)]), (q17, [(.bool y17_0), (.slice y17_1p y17_1n y17_1c), (.int .i64 y17_2)])] → (straightedgelaw16_closeTo.H K fu).2.2.2.2 (some q3) (some q4) (some q7) (some q8) z9p z9n z9c (some q10) z11 z12 (some q13) (some q17) w) := by
  induction fu with
  | zero => exact ⟨fun h _ => False.elim h, fun h _ => False.elim h, fun h _ => False.elim h, fun h _ => False.elim h, fun h _ => False.elim h⟩
  | succ fu ih => exact ⟨fun h st => straightedgelaw16_closeTo.b5_s (K := K) (x5 := (straightedgelaw16_closeTo.H K fu).1) (s5 := (straightedgelaw16_closeTo.I K fu).1) (x8 := (straightedgelaw16_closeTo.H K fu).2.1) (s8 := (straightedgelaw16_closeTo.I K fu).2.1) (x12 := (straightedgelaw16_closeTo.H K fu).2.2.1) (s12 := (straightedgelaw16_closeTo.I K fu).2.2.1) (x15 := (straightedgelaw16_closeTo.H K fu).2.2.2.1) (s15 := (straightedgelaw16_closeTo.I K fu).2.2.2.1) (x18 := (straightedgelaw16_closeTo.H K fu).2.2.2.2) (s18 := (straightedgelaw16_closeTo.I K fu).2.2.2.2) ih.1 ih.2.1 ih.2.2.1 ih.2.2.2.1 ih.2.2.2.2 h st, fun h st => straightedgelaw16_closeTo.b8_s (K := K) (x5 := (straightedgelaw16_closeTo.H K fu).1) (s5 := (straightedgelaw16_closeTo.I K fu).1) (x8 := (straightedgelaw16_closeTo.H K fu).2.1) (s8 := (straightedgelaw16_closeTo.I K fu).2.1) (x12 := (straightedgelaw16_closeTo.H K fu).2.2.1) (s12 := (straightedgelaw16_closeTo.I K fu).2.2.1) (x15 := (straightedgelaw16_closeTo.H K fu).2.2.2.1) (s15 := (straightedgelaw16_closeTo.I K fu).2.2.2.1) (x18 := (straightedgelaw16_closeTo.H K fu).2.2.2.2) (s18 := (straightedgelaw16_closeTo.I K fu).2.2.2.2) ih.1 ih.2.1 ih.2.2.1 ih.2.2.2.1 ih.2.2.2.2 h st, fun h st => straightedgelaw16_closeTo.b12_s (K := K) (x5 := (straightedgelaw16_closeTo.H K fu).1) (s5 := (straightedgelaw16_closeTo.I K fu).1) (x8 := (straightedgelaw16_closeTo.H K fu).2.1) (s8 := (straightedgelaw16_closeTo.I K fu).2.1) (x12 := (straightedgelaw16_closeTo.H K fu).2.2.1) (s12 := (straightedgelaw16_closeTo.I K fu).2.2.1) (x15 := (straightedgelaw16_closeTo.H K fu).2.2.2.1) (s15 := (straightedgelaw16_closeTo.I K fu).2.2.2.1) (x18 := (straightedgelaw16_closeTo.H K fu).2.2.2.2) (s18 := (straightedgelaw16_closeTo.I K fu).2.2.2.2) ih.1 ih.2.1 ih.2.2.1 ih.2.2.2.1 ih.2.2.2.2 h st, fun h st => straightedgelaw16_closeTo.b15_s (K := K) (x5 := (straightedgelaw16_closeTo.H K fu).1) (s5 := (straightedgelaw16_closeTo.I K fu).1) (x8 := (straightedgelaw16_closeTo.H K fu).2.1) (s8 := (straightedgelaw16_closeTo.I K fu).2.1) (x12 := (straightedgelaw16_closeTo.H K fu).2.2.1) (s12 := (straightedgelaw16_closeTo.I K fu).2.2.1) (x15 := (straightedgelaw16_closeTo.H K fu).2.2.2.1) (s15 := (straightedgelaw16_closeTo.I K fu).2.2.2.1) (x18 := (straightedgelaw16_closeTo.H K fu).2.2.2.2) (s18 := (straightedgelaw16_closeTo.I K fu).2.2.2.2) ih.1 ih.2.1 ih.2.2.1 ih.2.2.2.1 ih.2.2.2.2 h st, fun h st => straightedgelaw16_closeTo.b18_s (K := K) (x5 := (straightedgelaw16_closeTo.H K fu).1) (s5 := (straightedgelaw16_closeTo.I K fu).1) (x8 := (straightedgelaw16_closeTo.H K fu).2.1) (s8 := (straightedgelaw16_closeTo.I K fu).2.1) (x12 := (straightedgelaw16_closeTo.H K fu).2.2.1) (s12 := (straightedgelaw16_closeTo.I K fu).2.2.1) (x15 := (straightedgelaw16_closeTo.H K fu).2.2.2.1) (s15 := (straightedgelaw16_closeTo.I K fu).2.2.2.1) (x18 := (straightedgelaw16_closeTo.H K fu).2.2.2.2) (s18 := (straightedgelaw16_closeTo.I K fu).2.2.2.2) ih.1 ih.2.1 ih.2.2.1 ih.2.2.2.1 ih.2.2.2.2 h st⟩
theorem straightedgelaw16_closeTo.os (fu : Nat) {A0_0 : Int} {A0_1 : Int} {A0_2p : Option Addr} {A0_2n A0_2c : Nat} {A1_0 : Int} {A1_1 : Int} {A1_2p : Option Addr} {A1_2n A1_2c : Nat} {A2p : Option Addr} {A2n A2c : Nat} {w : World} {K : Value → World → Prop} (h : straightedgelaw16_closeTo.s fu A0_0 A0_1 A0_2p A0_2n A0_2c A1_0 A1_1 A1_2p A1_2n A1_2c A2p A2n A2c w K) : straightedgelaw16_closeTo.call [(.agg ⟨[(.int .i64 A0_0), (.int .i64 A0_1), (.slice A0_2p A0_2n A0_2c)]⟩), (.agg ⟨[(.int .i64 A1_0), (.int .i64 A1_1), (.slice A1_2p A1_2n A1_2c)]⟩), (.slice A2p A2n A2c)] w K := by
  refine straightedgelaw16_closeTo.ok fu ?_
  have st := St.nil w
  unfold straightedgelaw16_closeTo.x
  unfold straightedgelaw16_closeTo.s at h
  refine St.new (St.nil _) (fun q1 w2 hk hlt he st => ?_)
  replace h := h q1.block w2 hk hlt he
  refine St.new st (fun q5 w6 hk hlt he st => ?_)
  replace h := h q5.block w6 hk hlt he
  refine rd_i64_i64_l.bx 0 0 st rfl rfl rfl rfl rfl ?_
  refine CallF.mono h (fun v14 w15 h => ?_)
  obtain ⟨hK, h⟩ := h
  replace st := st.stay hK
  obtain ⟨i16, i17, a18, n19, c20, i21, i22, a23, n24, c25, h⟩ := h
  refine ⟨i16, i17, a18, n19, c20, i21, i22, a23, n24, c25, ?_⟩
  refine And.imp_right (fun h => ?_) h
  refine St.new st (fun q26 w27 hk hlt he st => ?_)
  replace h := h q26.block w27 hk hlt he
  refine St.new st (fun q30 w31 hk hlt he st => ?_)
  replace h := h q30.block w31 hk hlt he
  refine St.put 1 0 st rfl rfl rfl rfl (fun w34 he st => ?_)
  replace h := h w34 he
  refine St.put 0 0 st rfl rfl rfl rfl (fun w35 he st => ?_)
  replace h := h w35 he
  refine CallF.mono h (fun v36 w37 h => ?_)
  obtain ⟨hK, h⟩ := h
  replace st := st.stay hK
  obtain ⟨a38, n39, c40, h⟩ := h
  refine ⟨a38, n39, c40, ?_⟩
  refine And.imp_right (fun h => ?_) h
  replace st := st.drew
  have st41 := st
  refine rd_i64_i64_l.bx 0 0 st41 rfl rfl rfl rfl rfl ?_
  refine rd_i64.bx 2 0 st41 rfl rfl rfl ?_
  refine ⟨?_, ?_⟩
  · replace h := h _ (Ext.refl _)
    refine CallF.mono h (fun v49 w50 h => ?_)
    obtain ⟨hE1, h⟩ := h
    replace st := st.ext hE1
    obtain ⟨x51, h⟩ := h
    refine ⟨x51, ?_⟩
    refine And.imp_right (fun h => ?_) h
    refine ⟨hE1.kept, ?_⟩
    refine ⟨?_, ?_⟩
    · replace h := h _ (Ext.refl _)
      refine CallF.mono h (fun v53 w54 h => ?_)
      obtain ⟨hE2, h⟩ := h
      replace st := st.ext hE2
      obtain ⟨b55, a56, n57, c58, i59, h⟩ := h
      refine ⟨b55, a56, n57, c58, i59, ?_⟩
      refine And.imp_right (fun h => ?_) h
      refine ⟨hE2.kept, ?_⟩
      refine ⟨?_, ?_⟩
      · replace h := h _ (Ext.refl _)
        refine CallF.mono h (fun v61 w62 h => ?_)
        obtain ⟨hE3, h⟩ := h
        replace st := st.ext hE3
        obtain ⟨b63, a64, n65, c66, i67, h⟩ := h
        refine ⟨b63, a64, n65, c66, i67, ?_⟩
        refine And.imp_right (fun h => ?_) h
        refine ⟨hE3.kept, ?_⟩
        refine ⟨?_, ?_⟩
        · replace h := h _ (Ext.refl _)
          refine CallF.mono h (fun v69 w70 h => ?_)
          obtain ⟨hE4, h⟩ := h
          replace st := st.ext hE4
          obtain ⟨b71, a72, n73, c74, i75, h⟩ := h
          refine ⟨b71, a72, n73, c74, i75, ?_⟩
          refine And.imp_right (fun h => ?_) h
          refine ⟨hE4.kept, ?_⟩
          refine ⟨?_, ?_⟩
          · replace h := h _ (Ext.refl _)
            refine CallF.mono h (fun v77 w78 h => ?_)
            obtain ⟨hE5, h⟩ := h
            replace st := st.ext hE5
            obtain ⟨b79, a80, n81, c82, i83, h⟩ := h
            refine ⟨b79, a80, n81, c82, i83, ?_⟩
            refine And.imp_right (fun h => ?_) h
            refine ⟨hE5.kept, ?_⟩
            refine ⟨?_, ?_⟩
            · replace h := h _ (Ext.refl _)
              refine CallF.mono h (fun v85 w86 h => ?_)
              obtain ⟨hE8, h⟩ := h
              replace st := st.ext hE8
              obtain ⟨b87, a88, n89, c90, i91, h⟩ := h
              refine ⟨b87, a88, n89, c90, i91, ?_⟩
              refine And.imp_right (fun h => ?_) h
              refine ⟨?_, ?_⟩
              · replace h := h _ (Ext.refl _)
                refine CallF.mono h (fun v93 w94 h => ?_)
                obtain ⟨hE9, h⟩ := h
                replace st := st.ext hE9
                obtain ⟨b95, a96, n97, c98, i99, h⟩ := h
                refine ⟨b95, a96, n97, c98, i99, ?_⟩
                refine And.imp_right (fun h => ?_) h
                refine St.new st (fun q103 w105 hk10 hlt10 he10 st => ?_)
                refine ⟨he10.kept, ?_⟩
                replace h := h _ he10 q103.block (Nat.le_trans ((Ext.trans (Ext.trans (Ext.trans (Ext.trans (Ext.trans (Ext.trans hE1 hE2) hE3) hE4) hE5) hE8) hE9)).size (Nat.le_of_eq hk10.symm)) (st.row (i := 0) rfl).lt (.inr (Nat.le_trans ((Ext.trans (Ext.trans (Ext.trans (Ext.trans (Ext.trans hE2 hE3) hE4) hE5) hE8) hE9)).size (Nat.le_of_eq hk10.symm))) (.inr (Nat.le_trans ((Ext.trans (Ext.trans (Ext.trans (Ext.trans hE3 hE4) hE5) hE8) hE9)).size (Nat.le_of_eq hk10.symm))) (.inr (Nat.le_trans ((Ext.trans (Ext.trans (Ext.trans hE4 hE5) hE8) hE9)).size (Nat.le_of_eq hk10.symm))) (.inr (Nat.le_trans ((Ext.trans (Ext.trans hE5 hE8) hE9)).size (Nat.le_of_eq hk10.symm))) (.inr (Nat.le_trans ((Ext.trans hE8 hE9)).size (Nat.le_of_eq hk10.symm))) (.inr (Nat.le_trans (hE9).size (Nat.le_of_eq hk10.symm))) (.inr (Nat.le_trans ((Ext.refl _)).size (Nat.le_of_eq hk10.symm)))
                refine St.put 0 0 st rfl rfl rfl rfl (fun w104 he st => ?_)
                replace h := h w104 he
                exact (straightedgelaw16_closeTo.H_s fu).1 h (st.pick [4, 3, 2, 1, 0] (by decide))
              · refine St.new st (fun q103 w106 hk10 hlt10 he10 st => ?_)
                refine ⟨he10.kept, ?_⟩
                replace h := h _ he10
                refine CallF.mono h (fun v93 w94 h => ?_)
                obtain ⟨hE9, h⟩ := h
                replace st := st.ext hE9
                obtain ⟨b95, a96, n97, c98, i99, h⟩ := h
                refine ⟨b95, a96, n97, c98, i99, ?_⟩
                refine And.imp_right (fun h => ?_) h
                replace h := h _ (Ext.refl _) q103.block (Nat.le_trans ((Ext.trans (Ext.trans (Ext.trans (Ext.trans (Ext.trans hE1 hE2) hE3) hE4) hE5) hE8)).size (Nat.le_of_eq hk10.symm)) (st.row (i := 0) rfl).lt (.inr (Nat.le_trans ((Ext.trans (Ext.trans (Ext.trans (Ext.trans hE2 hE3) hE4) hE5) hE8)).size (Nat.le_of_eq hk10.symm))) (.inr (Nat.le_trans ((Ext.trans (Ext.trans (Ext.trans hE3 hE4) hE5) hE8)).size (Nat.le_of_eq hk10.symm))) (.inr (Nat.le_trans ((Ext.trans (Ext.trans hE4 hE5) hE8)).size (Nat.le_of_eq hk10.symm))) (.inr (Nat.le_trans ((Ext.trans hE5 hE8)).size (Nat.le_of_eq hk10.symm))) (.inr (Nat.le_trans (hE8).size (Nat.le_of_eq hk10.symm))) (.inr (Nat.le_trans ((Ext.refl _)).size (Nat.le_of_eq hk10.symm))) (.inl (Nat.lt_of_lt_of_le hlt10 ((Ext.refl _)).size))
                refine St.put 0 0 st rfl rfl rfl rfl (fun w104 he st => ?_)
                replace h := h w104 he
                exact (straightedgelaw16_closeTo.H_s fu).1 h (st.pick [4, 3, 2, 1, 0] (by decide))
            · refine St.new st (fun q103 w107 hk10 hlt10 he10 st => ?_)
              refine ⟨he10.kept, ?_⟩
              replace h := h _ he10
              refine CallF.mono h (fun v85 w86 h => ?_)
              obtain ⟨hE8, h⟩ := h
              replace st := st.ext hE8
              obtain ⟨b87, a88, n89, c90, i91, h⟩ := h
              refine ⟨b87, a88, n89, c90, i91, ?_⟩
              refine And.imp_right (fun h => ?_) h
              replace h := h _ (Ext.refl _)
              refine CallF.mono h (fun v93 w94 h => ?_)
              obtain ⟨hE9, h⟩ := h
              replace st := st.ext hE9
              obtain ⟨b95, a96, n97, c98, i99, h⟩ := h
              refine ⟨b95, a96, n97, c98, i99, ?_⟩
              refine And.imp_right (fun h => ?_) h
              replace h := h _ (Ext.refl _) q103.block (Nat.le_trans ((Ext.trans (Ext.trans (Ext.trans (Ext.trans hE1 hE2) hE3) hE4) hE5)).size (Nat.le_of_eq hk10.symm)) (st.row (i := 0) rfl).lt (.inr (Nat.le_trans ((Ext.trans (Ext.trans (Ext.trans hE2 hE3) hE4) hE5)).size (Nat.le_of_eq hk10.symm))) (.inr (Nat.le_trans ((Ext.trans (Ext.trans hE3 hE4) hE5)).size (Nat.le_of_eq hk10.symm))) (.inr (Nat.le_trans ((Ext.trans hE4 hE5)).size (Nat.le_of_eq hk10.symm))) (.inr (Nat.le_trans (hE5).size (Nat.le_of_eq hk10.symm))) (.inr (Nat.le_trans ((Ext.refl _)).size (Nat.le_of_eq hk10.symm))) (.inl (Nat.lt_of_lt_of_le hlt10 ((Ext.refl _)).size)) (.inl (Nat.lt_of_lt_of_le hlt10 (hE8).size))
              refine St.put 0 0 st rfl rfl rfl rfl (fun w104 he st => ?_)
              replace h := h w104 he
              exact (straightedgelaw16_closeTo.H_s fu).1 h (st.pick [4, 3, 2, 1, 0] (by decide))
          · refine St.new st (fun q103 w108 hk10 hlt10 he10 st => ?_)
            refine ⟨he10.kept, ?_⟩
            replace h := h _ he10
            refine CallF.mono h (fun v77 w78 h => ?_)
            obtain ⟨hE5, h⟩ := h
            replace st := st.ext hE5
            obtain ⟨b79, a80, n81, c82, i83, h⟩ := h
            refine ⟨b79, a80, n81, c82, i83, ?_⟩
            refine And.imp_right (fun h => ?_) h
            refine ⟨hE5.kept, ?_⟩
            replace h := h _ (Ext.refl _)
            refine CallF.mono h (fun v85 w86 h => ?_)
            obtain ⟨hE8, h⟩ := h
            replace st := st.ext hE8
            obtain ⟨b87, a88, n89, c90, i91, h⟩ := h
            refine ⟨b87, a88, n89, c90, i91, ?_⟩
            refine And.imp_right (fun h => ?_) h
            replace h := h _ (Ext.refl _)
            refine CallF.mono h (fun v93 w94 h => ?_)
            obtain ⟨hE9, h⟩ := h
            replace st := st.ext hE9
            obtain ⟨b95, a96, n97, c98, i99, h⟩ := h
            refine ⟨b95, a96, n97, c98, i99, ?_⟩
            refine And.imp_right (fun h => ?_) h
            replace h := h _ (Ext.refl _) q103.block (Nat.le_trans ((Ext.trans (Ext.trans (Ext.trans hE1 hE2) hE3) hE4)).size (Nat.le_of_eq hk10.symm)) (st.row (i := 0) rfl).lt (.inr (Nat.le_trans ((Ext.trans (Ext.trans hE2 hE3) hE4)).size (Nat.le_of_eq hk10.symm))) (.inr (Nat.le_trans ((Ext.trans hE3 hE4)).size (Nat.le_of_eq hk10.symm))) (.inr (Nat.le_trans (hE4).size (Nat.le_of_eq hk10.symm))) (.inr (Nat.le_trans ((Ext.refl _)).size (Nat.le_of_eq hk10.symm))) (.inl (Nat.lt_of_lt_of_le hlt10 ((Ext.refl _)).size)) (.inl (Nat.lt_of_lt_of_le hlt10 (hE5).size)) (.inl (Nat.lt_of_lt_of_le hlt10 ((Ext.trans hE5 hE8)).size))
            refine St.put 0 0 st rfl rfl rfl rfl (fun w104 he st => ?_)
            replace h := h w104 he
            exact (straightedgelaw16_closeTo.H_s fu).1 h (st.pick [4, 3, 2, 1, 0] (by decide))
        · refine St.new st (fun q103 w109 hk10 hlt10 he10 st => ?_)
          refine ⟨he10.kept, ?_⟩
          replace h := h _ he10
          refine CallF.mono h (fun v69 w70 h => ?_)
          obtain ⟨hE4, h⟩ := h
          replace st := st.ext hE4
          obtain ⟨b71, a72, n73, c74, i75, h⟩ := h
          refine ⟨b71, a72, n73, c74, i75, ?_⟩
          refine And.imp_right (fun h => ?_) h
          refine ⟨hE4.kept, ?_⟩
          replace h := h _ (Ext.refl _)
          refine CallF.mono h (fun v77 w78 h => ?_)
          obtain ⟨hE5, h⟩ := h
          replace st := st.ext hE5
          obtain ⟨b79, a80, n81, c82, i83, h⟩ := h
          refine ⟨b79, a80, n81, c82, i83, ?_⟩
          refine And.imp_right (fun h => ?_) h
          refine ⟨hE5.kept, ?_⟩
          replace h := h _ (Ext.refl _)
          refine CallF.mono h (fun v85 w86 h => ?_)
          obtain ⟨hE8, h⟩ := h
          replace st := st.ext hE8
          obtain ⟨b87, a88, n89, c90, i91, h⟩ := h
          refine ⟨b87, a88, n89, c90, i91, ?_⟩
          refine And.imp_right (fun h => ?_) h
          replace h := h _ (Ext.refl _)
          refine CallF.mono h (fun v93 w94 h => ?_)
          obtain ⟨hE9, h⟩ := h
          replace st := st.ext hE9
          obtain ⟨b95, a96, n97, c98, i99, h⟩ := h
          refine ⟨b95, a96, n97, c98, i99, ?_⟩
          refine And.imp_right (fun h => ?_) h
          replace h := h _ (Ext.refl _) q103.block (Nat.le_trans ((Ext.trans (Ext.trans hE1 hE2) hE3)).size (Nat.le_of_eq hk10.symm)) (st.row (i := 0) rfl).lt (.inr (Nat.le_trans ((Ext.trans hE2 hE3)).size (Nat.le_of_eq hk10.symm))) (.inr (Nat.le_trans (hE3).size (Nat.le_of_eq hk10.symm))) (.inr (Nat.le_trans ((Ext.refl _)).size (Nat.le_of_eq hk10.symm))) (.inl (Nat.lt_of_lt_of_le hlt10 ((Ext.refl _)).size)) (.inl (Nat.lt_of_lt_of_le hlt10 (hE4).size)) (.inl (Nat.lt_of_lt_of_le hlt10 ((Ext.trans hE4 hE5)).size)) (.inl (Nat.lt_of_lt_of_le hlt10 ((Ext.trans (Ext.trans hE4 hE5) hE8)).size))
          refine St.put 0 0 st rfl rfl rfl rfl (fun w104 he st => ?_)
          replace h := h w104 he
          exact (straightedgelaw16_closeTo.H_s fu).1 h (st.pick [4, 3, 2, 1, 0] (by decide))
      · refine St.new st (fun q103 w110 hk10 hlt10 he10 st => ?_)
        refine ⟨he10.kept, ?_⟩
        replace h := h _ he10
        refine CallF.mono h (fun v61 w62 h => ?_)
        obtain ⟨hE3, h⟩ := h
        replace st := st.ext hE3
        obtain ⟨b63, a64, n65, c66, i67, h⟩ := h
        refine ⟨b63, a64, n65, c66, i67, ?_⟩
        refine And.imp_right (fun h => ?_) h
        refine ⟨hE3.kept, ?_⟩
        replace h := h _ (Ext.refl _)
        refine CallF.mono h (fun v69 w70 h => ?_)
        obtain ⟨hE4, h⟩ := h
        replace st := st.ext hE4
        obtain ⟨b71, a72, n73, c74, i75, h⟩ := h
        refine ⟨b71, a72, n73, c74, i75, ?_⟩
        refine And.imp_right (fun h => ?_) h
        refine ⟨hE4.kept, ?_⟩
        replace h := h _ (Ext.refl _)
        refine CallF.mono h (fun v77 w78 h => ?_)
        obtain ⟨hE5, h⟩ := h
        replace st := st.ext hE5
        obtain ⟨b79, a80, n81, c82, i83, h⟩ := h
        refine ⟨b79, a80, n81, c82, i83, ?_⟩
        refine And.imp_right (fun h => ?_) h
        refine ⟨hE5.kept, ?_⟩
        replace h := h _ (Ext.refl _)
        refine CallF.mono h (fun v85 w86 h => ?_)
        obtain ⟨hE8, h⟩ := h
        replace st := st.ext hE8
        obtain ⟨b87, a88, n89, c90, i91, h⟩ := h
        refine ⟨b87, a88, n89, c90, i91, ?_⟩
        refine And.imp_right (fun h => ?_) h
        replace h := h _ (Ext.refl _)
        refine CallF.mono h (fun v93 w94 h => ?_)
        obtain ⟨hE9, h⟩ := h
        replace st := st.ext hE9
        obtain ⟨b95, a96, n97, c98, i99, h⟩ := h
        refine ⟨b95, a96, n97, c98, i99, ?_⟩
        refine And.imp_right (fun h => ?_) h
        replace h := h _ (Ext.refl _) q103.block (Nat.le_trans ((Ext.trans hE1 hE2)).size (Nat.le_of_eq hk10.symm)) (st.row (i := 0) rfl).lt (.inr (Nat.le_trans (hE2).size (Nat.le_of_eq hk10.symm))) (.inr (Nat.le_trans ((Ext.refl _)).size (Nat.le_of_eq hk10.symm))) (.inl (Nat.lt_of_lt_of_le hlt10 ((Ext.refl _)).size)) (.inl (Nat.lt_of_lt_of_le hlt10 (hE3).size)) (.inl (Nat.lt_of_lt_of_le hlt10 ((Ext.trans hE3 hE4)).size)) (.inl (Nat.lt_of_lt_of_le hlt10 ((Ext.trans (Ext.trans hE3 hE4) hE5)).size)) (.inl (Nat.lt_of_lt_of_le hlt10 ((Ext.trans (Ext.trans (Ext.trans hE3 hE4) hE5) hE8)).size))
        refine St.put 0 0 st rfl rfl rfl rfl (fun w104 he st => ?_)
        replace h := h w104 he
        exact (straightedgelaw16_closeTo.H_s fu).1 h (st.pick [4, 3, 2, 1, 0] (by decide))
    · refine St.new st (fun q103 w111 hk10 hlt10 he10 st => ?_)
      refine ⟨he10.kept, ?_⟩
      replace h := h _ he10
      refine CallF.mono h (fun v53 w54 h => ?_)
      obtain ⟨hE2, h⟩ := h
      replace st := st.ext hE2
      obtain ⟨b55, a56, n57, c58, i59, h⟩ := h
      refine ⟨b55, a56, n57, c58, i59, ?_⟩
      refine And.imp_right (fun h => ?_) h
      refine ⟨hE2.kept, ?_⟩
      replace h := h _ (Ext.refl _)
      refine CallF.mono h (fun v61 w62 h => ?_)
      obtain ⟨hE3, h⟩ := h
      replace st := st.ext hE3
      obtain ⟨b63, a64, n65, c66, i67, h⟩ := h
      refine ⟨b63, a64, n65, c66, i67, ?_⟩
      refine And.imp_right (fun h => ?_) h
      refine ⟨hE3.kept, ?_⟩
      replace h := h _ (Ext.refl _)
      refine CallF.mono h (fun v69 w70 h => ?_)
      obtain ⟨hE4, h⟩ := h
      replace st := st.ext hE4
      obtain ⟨b71, a72, n73, c74, i75, h⟩ := h
      refine ⟨b71, a72, n73, c74, i75, ?_⟩
      refine And.imp_right (fun h => ?_) h
      refine ⟨hE4.kept, ?_⟩
      replace h := h _ (Ext.refl _)
      refine CallF.mono h (fun v77 w78 h => ?_)
      obtain ⟨hE5, h⟩ := h
      replace st := st.ext hE5
      obtain ⟨b79, a80, n81, c82, i83, h⟩ := h
      refine ⟨b79, a80, n81, c82, i83, ?_⟩
      refine And.imp_right (fun h => ?_) h
      refine ⟨hE5.kept, ?_⟩
      replace h := h _ (Ext.refl _)
      refine CallF.mono h (fun v85 w86 h => ?_)
      obtain ⟨hE8, h⟩ := h
      replace st := st.ext hE8
      obtain ⟨b87, a88, n89, c90, i91, h⟩ := h
      refine ⟨b87, a88, n89, c90, i91, ?_⟩
      refine And.imp_right (fun h => ?_) h
      replace h := h _ (Ext.refl _)
      refine CallF.mono h (fun v93 w94 h => ?_)
      obtain ⟨hE9, h⟩ := h
      replace st := st.ext hE9
      obtain ⟨b95, a96, n97, c98, i99, h⟩ := h
      refine ⟨b95, a96, n97, c98, i99, ?_⟩
      refine And.imp_right (fun h => ?_) h
      replace h := h _ (Ext.refl _) q103.block (Nat.le_trans (hE1).size (Nat.le_of_eq hk10.symm)) (st.row (i := 0) rfl).lt (.inr (Nat.le_trans ((Ext.refl _)).size (Nat.le_of_eq hk10.symm))) (.inl (Nat.lt_of_lt_of_le hlt10 ((Ext.refl _)).size)) (.inl (Nat.lt_of_lt_of_le hlt10 (hE2).size)) (.inl (Nat.lt_of_lt_of_le hlt10 ((Ext.trans hE2 hE3)).size)) (.inl (Nat.lt_of_lt_of_le hlt10 ((Ext.trans (Ext.trans hE2 hE3) hE4)).size)) (.inl (Nat.lt_of_lt_of_le hlt10 ((Ext.trans (Ext.trans (Ext.trans hE2 hE3) hE4) hE5)).size)) (.inl (Nat.lt_of_lt_of_le hlt10 ((Ext.trans (Ext.trans (Ext.trans (Ext.trans hE2 hE3) hE4) hE5) hE8)).size))
      refine St.put 0 0 st rfl rfl rfl rfl (fun w104 he st => ?_)
      replace h := h w104 he
      exact (straightedgelaw16_closeTo.H_s fu).1 h (st.pick [4, 3, 2, 1, 0] (by decide))
  · refine St.new st (fun q103 w112 hk10 hlt10 he10 st => ?_)
    refine ⟨he10.kept, ?_⟩
    replace h := h _ he10
    refine CallF.mono h (fun v49 w50 h => ?_)
    obtain ⟨hE1, h⟩ := h
    replace st := st.ext hE1
    obtain ⟨x51, h⟩ := h
    refine ⟨x51, ?_⟩
    refine And.imp_right (fun h => ?_) h
    refine ⟨hE1.kept, ?_⟩
    replace h := h _ (Ext.refl _)
    refine CallF.mono h (fun v53 w54 h => ?_)
    obtain ⟨hE2, h⟩ := h
    replace st := st.ext hE2
    obtain ⟨b55, a56, n57, c58, i59, h⟩ := h
    refine ⟨b55, a56, n57, c58, i59, ?_⟩
    refine And.imp_right (fun h => ?_) h
    refine ⟨hE2.kept, ?_⟩
    replace h := h _ (Ext.refl _)
    refine CallF.mono h (fun v61 w62 h => ?_)
    obtain ⟨hE3, h⟩ := h
    replace st := st.ext hE3
    obtain ⟨b63, a64, n65, c66, i67, h⟩ := h
    refine ⟨b63, a64, n65, c66, i67, ?_⟩
    refine And.imp_right (fun h => ?_) h
    refine ⟨hE3.kept, ?_⟩
    replace h := h _ (Ext.refl _)
    refine CallF.mono h (fun v69 w70 h => ?_)
    obtain ⟨hE4, h⟩ := h
    replace st := st.ext hE4
    obtain ⟨b71, a72, n73, c74, i75, h⟩ := h
    refine ⟨b71, a72, n73, c74, i75, ?_⟩
    refine And.imp_right (fun h => ?_) h
    refine ⟨hE4.kept, ?_⟩
    replace h := h _ (Ext.refl _)
    refine CallF.mono h (fun v77 w78 h => ?_)
    obtain ⟨hE5, h⟩ := h
    replace st := st.ext hE5
    obtain ⟨b79, a80, n81, c82, i83, h⟩ := h
    refine ⟨b79, a80, n81, c82, i83, ?_⟩
    refine And.imp_right (fun h => ?_) h
    refine ⟨hE5.kept, ?_⟩
    replace h := h _ (Ext.refl _)
    refine CallF.mono h (fun v85 w86 h => ?_)
    obtain ⟨hE8, h⟩ := h
    replace st := st.ext hE8
    obtain ⟨b87, a88, n89, c90, i91, h⟩ := h
    refine ⟨b87, a88, n89, c90, i91, ?_⟩
    refine And.imp_right (fun h => ?_) h
    replace h := h _ (Ext.refl _)
    refine CallF.mono h (fun v93 w94 h => ?_)
    obtain ⟨hE9, h⟩ := h
    replace st := st.ext hE9
    obtain ⟨b95, a96, n97, c98, i99, h⟩ := h
    refine ⟨b95, a96, n97, c98, i99, ?_⟩
    refine And.imp_right (fun h => ?_) h
    replace h := h _ (Ext.refl _) q103.block (Nat.le_trans ((Ext.refl _)).size (Nat.le_of_eq hk10.symm)) (st.row (i := 0) rfl).lt (.inl (Nat.lt_of_lt_of_le hlt10 ((Ext.refl _)).size)) (.inl (Nat.lt_of_lt_of_le hlt10 (hE1).size)) (.inl (Nat.lt_of_lt_of_le hlt10 ((Ext.trans hE1 hE2)).size)) (.inl (Nat.lt_of_lt_of_le hlt10 ((Ext.trans (Ext.trans hE1 hE2) hE3)).size)) (.inl (Nat.lt_of_lt_of_le hlt10 ((Ext.trans (Ext.trans (Ext.trans hE1 hE2) hE3) hE4)).size)) (.inl (Nat.lt_of_lt_of_le hlt10 ((Ext.trans (Ext.trans (Ext.trans (Ext.trans hE1 hE2) hE3) hE4) hE5)).size)) (.inl (Nat.lt_of_lt_of_le hlt10 ((Ext.trans (Ext.trans (Ext.trans (Ext.trans (Ext.trans hE1 hE2) hE3) hE4) hE5) hE8)).size))
    refine St.put 0 0 st rfl rfl rfl rfl (fun w104 he st => ?_)
    replace h := h w104 he
    exact (straightedgelaw16_closeTo.H_s fu).1 h (st.pick [4, 3, 2, 1, 0] (by decide))

/-! ### straightedge/straightedgelaw16.ints: function 26 -/
def straightedgelaw16_ints.b4 (K : Value → World → Prop) (h4 : Option Addr → Nat → Nat → Option Addr → Nat → Nat → Int → World → Prop) (z0p : Option Addr) (z0n z0c : Nat) (z1p : Option Addr) (z1n z1c : Nat) (z5 : Int) (w : World) : Prop := br (decide (z5 < ((z0n : Nat) : Int))) (ptrSome z0p fun q2 => (0 : Int) ≤ z5 ∧ z5 < ((z0n : Nat) : Int) ∧ rd_i64 w.drew (q2.add (Int.toNat z5)) fun i3 => ptrSome z1p fun q4 => (0 : Int) ≤ z5 ∧ z5 < ((z1n : Nat) : Int) ∧ rd_i64 w.drew (q4.add (Int.toNat z5)) fun i5 => br (i3 != i5) (K (.bool false) w.drew) (h4 z0p z0n z0c z1p z1n z1c (IntKind.i64.wrap (z5 + 1)) (w.drew))) (K (.bool true) w)
def straightedgelaw16_ints.c4 (K : Value → World → Prop) : Nat → Option Addr → Nat → Nat → Option Addr → Nat → Nat → Int → World → Prop
  | 0 => fun _ _ _ _ _ _ _ _ => False
  | fu + 1 => straightedgelaw16_ints.b4 K (straightedgelaw16_ints.c4 K fu)
def straightedgelaw16_ints.x (fu : Nat) (A0p : Option Addr) (A0n A0c : Nat) (A1p : Option Addr) (A1n A1c : Nat) (w : World) (K : Value → World → Prop) : Prop := br (((A0n : Nat) : Int) != ((A1n : Nat) : Int)) (K (.bool false) w) (straightedgelaw16_ints.c4 K fu A0p A0n A0c A1p A1n A1c 0 w)
def straightedgelaw16_ints.hd (K : Value → World → Prop) (n id : Nat) (t : List Value) (w : World) : Prop :=
  match id with
  | 4 => asL (t.getD 0 undef) fun z0p z0n z0c => asL (t.getD 1 undef) fun z1p z1n z1c => asI .i64 (t.getD 5 undef) fun z5 => straightedgelaw16_ints.c4 K n z0p z0n z0c z1p z1n z1c z5 w
  | _ => False
theorem straightedgelaw16_ints.t4 (K : Value → World → Prop) (n : Nat) (z0p : Option Addr) (z0n z0c : Nat) (z1p : Option Addr) (z1n z1c : Nat) (z5 : Int) (u : Nat → Value) (w : World) (h : straightedgelaw16_ints.c4 K (n + 1) z0p z0n z0c z1p z1n z1c z5 w) :
    exT prog [4] (straightedgelaw16_ints.hd K n) Try.f26 4 26 [(0, (.slice z0p z0n z0c)), (1, (.slice z1p z1n z1c)), (5, (.int .i64 z5))] u w K := Eq.mp (by kernel_rfl) h
theorem straightedgelaw16_ints.ok (fu : Nat) {A0p : Option Addr} {A0n A0c : Nat} {A1p : Option Addr} {A1n A1c : Nat} {w : World} {K : Value → World → Prop} (h : straightedgelaw16_ints.x fu A0p A0n A0c A1p A1n A1c w K) : straightedgelaw16_ints.call [(.slice A0p A0n A0c), (.slice A1p A1n A1c)] w K := by
  refine callF_of_ex (cuts := [4]) (H := straightedgelaw16_ints.hd K) (N := 26) Try.func26 rfl mixed (by kernel_rfl) ?_ ?_ ?_ rfl (n := fu) (Eq.mp (by kernel_rfl) h)
  · intro id hid; simp only [List.mem_cons, List.not_mem_nil, or_false] at hid; subst hid
    · exact (by kernel_rfl : (stacks (bodyOf Try.f26) []).filter (headIs 4) = [at_ (bodyOf Try.f26) 4])
  · intro id t w h
    unfold straightedgelaw16_ints.hd at h
    split at h
    · obtain ⟨z0p, z0n, z0c, _, h⟩ := asL_elim h
      obtain ⟨z1p, z1n, z1c, _, h⟩ := asL_elim h
      obtain ⟨z5, _, h⟩ := asI_elim h
      exact h
    · exact h
  · intro n id hid t w hl h; simp only [List.mem_cons, List.not_mem_nil, or_false] at hid; subst hid
    · replace h : asL (t.getD 0 undef) fun z0p z0n z0c => asL (t.getD 1 undef) fun z1p z1n z1c => asI .i64 (t.getD 5 undef) fun z5 => straightedgelaw16_ints.c4 K (n + 1) z0p z0n z0c z1p z1n z1c z5 w := h
      obtain ⟨z0p, z0n, z0c, e0, h⟩ := asL_elim h
      obtain ⟨z1p, z1n, z1c, e1, h⟩ := asL_elim h
      obtain ⟨z5, e5, h⟩ := asI_elim h
      rw [mk_of hl [(0, (.slice z0p z0n z0c)), (1, (.slice z1p z1n z1c)), (5, (.int .i64 z5))] (by simp only [List.forall_mem_cons, List.not_mem_nil, false_implies, implies_true, and_true]; exact ⟨e0, e1, e5⟩)]
      exact straightedgelaw16_ints.t4 K n z0p z0n z0c z1p z1n z1c z5 _ w h

end Go.Proofs.Ytgdkahbnepafgaa
