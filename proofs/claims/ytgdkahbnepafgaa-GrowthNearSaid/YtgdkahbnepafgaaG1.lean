/- A part of the proof. -/
import Derived.Test.YtgdkahbnepafgaaG0
set_option linter.unusedVariables false

/-! ### AGgrowth -/
/- The explicit forms of the functions of one package, and that the calls do what they say. Written by wip/tools/wk2.py. -/
set_option maxHeartbeats 4000000
set_option maxRecDepth 100000
set_option linter.unusedVariables false
namespace Go.Proofs.Ytgdkahbnepafgaa
open Go Go.Wk

/-! ### straightedge/growth.Growth: function 16 -/
def growth_Growth.x (A0_0p : Option Addr) (A0_0n A0_0c : Nat) (A0_1 : Int) (A0_2 : Int) (A0_3 : Int) (A0_4 : Int) (A1_0p : Option Addr) (A1_0n A1_0c : Nat) (A1_1 : Int) (A1_2 : Int) (A1_3 : Int) (A1_4 : Int) (A1_5p : Option Addr) (A1_5n A1_5c : Nat) (w : World) (K : Value → World → Prop) : Prop := newB [(.slice A0_0p A0_0n A0_0c), (.int .i64 A0_1), (.int .i64 A0_2), (.int .i64 A0_3), (.int .i64 A0_4)] 24 w fun q1 w2 => newB [(.slice A1_0p A1_0n A1_0c), (.int .i64 A1_1), (.int .i64 A1_2), (.int .i64 A1_3), (.int .i64 A1_4), (.slice A1_5p A1_5n A1_5c)] 33 w2 fun q3 w4 => rd_l_i64_i64_i64_i64 w4 q1 fun a5 n6 c7 i8 i9 i10 i11 => rd_l_i64_i64_i64_i64_l w4 q3 fun a12 n13 c14 i15 i16 i17 i18 a19 n20 c21 => growth_made.call [(.agg ⟨[(.slice a5 n6 c7), (.int .i64 i8), (.int .i64 i9), (.int .i64 i10), (.int .i64 i11)]⟩), (.agg ⟨[(.slice a12 n13 c14), (.int .i64 i15), (.int .i64 i16), (.int .i64 i17), (.int .i64 i18), (.slice a19 n20 c21)]⟩)] w4 fun v22 w23 => ∃ (a24 : Option Addr) (n25 c26 : Nat), ∃ i27 : Int, ∃ i28 : Int, ∃ i29 : Int, ∃ i30 : Int, ∃ (a31 : Option Addr) (n32 c33 : Nat), ∃ (a34 : Option Addr) (n35 c36 : Nat), ∃ i37 : Int, ∃ i38 : Int, ∃ i39 : Int, ∃ i40 : Int, ∃ i41 : Int, v22 = (.tuple ⟨[(.agg ⟨[(.slice a24 n25 c26), (.int .i64 i27), (.int .i64 i28), (.int .i64 i29), (.int .i64 i30), (.slice a31 n32 c33), (.slice a34 n35 c36), (.int .i64 i37), (.int .i64 i38), (.int .i64 i39), (.int .i64 i40)]⟩), (.int .i64 i41)]⟩) ∧ newB [(.slice none 0 0), (.int .i64 0), (.int .i64 0), (.int .i64 0), (.int .i64 0), (.slice none 0 0), (.slice none 0 0), (.int .i64 0), (.int .i64 0), (.int .i64 0), (.int .i64 0)] 78 w23 fun q42 w43 => stPT q42 0 [(.slice a24 n25 c26), (.int .i64 i27), (.int .i64 i28), (.int .i64 i29), (.int .i64 i30), (.slice a31 n32 c33), (.slice a34 n35 c36), (.int .i64 i37), (.int .i64 i38), (.int .i64 i39), (.int .i64 i40)] w43 fun w44 => br (i41 != 0) (K (.tuple ⟨[(.float .f64 0), (.int .i64 i41)]⟩) w44) (rd_l_i64_i64_i64_i64_l_l_i64_i64_i64_i64 w44 q42 fun a45 n46 c47 i48 i49 i50 i51 a52 n53 c54 a55 n56 c57 i58 i59 i60 i61 => rd_i64 w44 (q1.add 3) fun i62 => growth_pair_upTo.call [(.agg ⟨[(.slice a45 n46 c47), (.int .i64 i48), (.int .i64 i49), (.int .i64 i50), (.int .i64 i51), (.slice a52 n53 c54), (.slice a55 n56 c57), (.int .i64 i58), (.int .i64 i59), (.int .i64 i60), (.int .i64 i61)]⟩), (.int .i64 i62)] w44 fun v63 w64 => ∃ x65 : Nat, v63 = (.float .f64 x65) ∧ K (.tuple ⟨[(.float .f64 x65), (.int .i64 0)]⟩) w64)
theorem growth_Growth.ok {A0_0p : Option Addr} {A0_0n A0_0c : Nat} {A0_1 : Int} {A0_2 : Int} {A0_3 : Int} {A0_4 : Int} {A1_0p : Option Addr} {A1_0n A1_0c : Nat} {A1_1 : Int} {A1_2 : Int} {A1_3 : Int} {A1_4 : Int} {A1_5p : Option Addr} {A1_5n A1_5c : Nat} {w : World} {K : Value → World → Prop} (h : growth_Growth.x A0_0p A0_0n A0_0c A0_1 A0_2 A0_3 A0_4 A1_0p A1_0n A1_0c A1_1 A1_2 A1_3 A1_4 A1_5p A1_5n A1_5c w K) : growth_Growth.call [(.agg ⟨[(.slice A0_0p A0_0n A0_0c), (.int .i64 A0_1), (.int .i64 A0_2), (.int .i64 A0_3), (.int .i64 A0_4)]⟩), (.agg ⟨[(.slice A1_0p A1_0n A1_0c), (.int .i64 A1_1), (.int .i64 A1_2), (.int .i64 A1_3), (.int .i64 A1_4), (.slice A1_5p A1_5n A1_5c)]⟩)] w K :=
  callF_of_ex0 (f := Try.f16) Try.func16 rfl mixed (by kernel_rfl) (Eq.mp (by kernel_rfl) h)
/-! the same, the local variables taken out -/
def growth_Growth.s (A0_0p : Option Addr) (A0_0n A0_0c : Nat) (A0_1 : Int) (A0_2 : Int) (A0_3 : Int) (A0_4 : Int) (A1_0p : Option Addr) (A1_0n A1_0c : Nat) (A1_1 : Int) (A1_2 : Int) (A1_3 : Int) (A1_4 : Int) (A1_5p : Option Addr) (A1_5n A1_5c : Nat) (w : World) (K : Value → World → Prop) : Prop := ∀ (k3 : Nat) (w2 : World), k3 = w.heap.size → k3 < w2.heap.size → Ext w w2 → ∀ (k7 : Nat) (w6 : World), k7 = w2.heap.size → k7 < w6.heap.size → Ext w2 w6 → growth_made.call [(.agg ⟨[(.slice A0_0p A0_0n A0_0c), (.int .i64 A0_1), (.int .i64 A0_2), (.int .i64 A0_3), (.int .i64 A0_4)]⟩), (.agg ⟨[(.slice A1_0p A1_0n A1_0c), (.int .i64 A1_1), (.int .i64 A1_2), (.int .i64 A1_3), (.int .i64 A1_4), (.slice A1_5p A1_5n A1_5c)]⟩)] w6 fun v26 w27 => Stay [k7, k3] w6 w27 ∧ ∃ (a28 : Option Addr) (n29 c30 : Nat), ∃ i31 : Int, ∃ i32 : Int, ∃ i33 : Int, ∃ i34 : Int, ∃ (a35 : Option Addr) (n36 c37 : Nat), ∃ (a38 : Option Addr) (n39 c40 : Nat), ∃ i41 : Int, ∃ i42 : Int, ∃ i43 : Int, ∃ i44 : Int, ∃ i45 : Int, v26 = (.tuple ⟨[(.agg ⟨[(.slice a28 n29 c30), (.int .i64 i31), (.int .i64 i32), (.int .i64 i33), (.int .i64 i34), (.slice a35 n36 c37), (.slice a38 n39 c40), (.int .i64 i41), (.int .i64 i42), (.int .i64 i43), (.int .i64 i44)]⟩), (.int .i64 i45)]⟩) ∧ ∀ (k48 : Nat) (w47 : World), k48 = w27.heap.size → k48 < w47.heap.size → Ext w27 w47 → ∀ w50 : World, Exc k48 w47 w50 → br (i45 != 0) (K (.tuple ⟨[(.float .f64 0), (.int .i64 i45)]⟩) w50) (growth_pair_upTo.call [(.agg ⟨[(.slice a28 n29 c30), (.int .i64 i31), (.int .i64 i32), (.int .i64 i33), (.int .i64 i34), (.slice a35 n36 c37), (.slice a38 n39 c40), (.int .i64 i41), (.int .i64 i42), (.int .i64 i43), (.int .i64 i44)]⟩), (.int .i64 A0_3)] w50 fun v69 w70 => Stay [k48, k7, k3] w50 w70 ∧ ∃ x71 : Nat, v69 = (.float .f64 x71) ∧ K (.tuple ⟨[(.float .f64 x71), (.int .i64 0)]⟩) w70)
theorem growth_Growth.os {A0_0p : Option Addr} {A0_0n A0_0c : Nat} {A0_1 : Int} {A0_2 : Int} {A0_3 : Int} {A0_4 : Int} {A1_0p : Option Addr} {A1_0n A1_0c : Nat} {A1_1 : Int} {A1_2 : Int} {A1_3 : Int} {A1_4 : Int} {A1_5p : Option Addr} {A1_5n A1_5c : Nat} {w : World} {K : Value → World → Prop} (h : growth_Growth.s A0_0p A0_0n A0_0c A0_1 A0_2 A0_3 A0_4 A1_0p A1_0n A1_0c A1_1 A1_2 A1_3 A1_4 A1_5p A1_5n A1_5c w K) : growth_Growth.call [(.agg ⟨[(.slice A0_0p A0_0n A0_0c), (.int .i64 A0_1), (.int .i64 A0_2), (.int .i64 A0_3), (.int .i64 A0_4)]⟩), (.agg ⟨[(.slice A1_0p A1_0n A1_0c), (.int .i64 A1_1), (.int .i64 A1_2), (.int .i64 A1_3), (.int .i64 A1_4), (.slice A1_5p A1_5n A1_5c)]⟩)] w K := by
  refine growth_Growth.ok ?_
  have st := St.nil w
  unfold growth_Growth.x
  unfold growth_Growth.s at h
  refine St.new (St.nil _) (fun q1 w2 hk hlt he st => ?_)
  replace h := h q1.block w2 hk hlt he
  refine St.new st (fun q5 w6 hk hlt he st => ?_)
  replace h := h q5.block w6 hk hlt he
  refine rd_l_i64_i64_i64_i64.bx 1 0 st rfl rfl rfl rfl rfl rfl rfl ?_
  refine rd_l_i64_i64_i64_i64_l.bx 0 0 st rfl rfl rfl rfl rfl rfl rfl rfl ?_
  refine CallF.mono h (fun v26 w27 h => ?_)
  obtain ⟨hK, h⟩ := h
  replace st := st.stay hK
  obtain ⟨a28, n29, c30, i31, i32, i33, i34, a35, n36, c37, a38, n39, c40, i41, i42, i43, i44, i45, h⟩ := h
  refine ⟨a28, n29, c30, i31, i32, i33, i34, a35, n36, c37, a38, n39, c40, i41, i42, i43, i44, i45, ?_⟩
  refine And.imp_right (fun h => ?_) h
  refine St.new st (fun q46 w47 hk hlt he st => ?_)
  replace h := h q46.block w47 hk hlt he
  refine St.put 0 0 st rfl rfl rfl rfl (fun w50 he st => ?_)
  replace h := h w50 he
  refine br_mono (fun h => ?_) (fun h => ?_) h
  · exact h
  · refine rd_l_i64_i64_i64_i64_l_l_i64_i64_i64_i64.bx 0 0 st rfl rfl rfl rfl rfl rfl rfl rfl rfl rfl rfl rfl rfl ?_
    refine rd_i64.bx 2 3 st rfl rfl rfl ?_
    refine CallF.mono h (fun v69 w70 h => ?_)
    obtain ⟨hK, h⟩ := h
    replace st := st.stay hK
    exact h

/-! ### straightedge/growth.made: function 44 -/
def growth_made.x (A0_0p : Option Addr) (A0_0n A0_0c : Nat) (A0_1 : Int) (A0_2 : Int) (A0_3 : Int) (A0_4 : Int) (A1_0p : Option Addr) (A1_0n A1_0c : Nat) (A1_1 : Int) (A1_2 : Int) (A1_3 : Int) (A1_4 : Int) (A1_5p : Option Addr) (A1_5n A1_5c : Nat) (w : World) (K : Value → World → Prop) : Prop := newB [(.slice A0_0p A0_0n A0_0c), (.int .i64 A0_1), (.int .i64 A0_2), (.int .i64 A0_3), (.int .i64 A0_4)] 24 w fun q1 w2 => newB [(.slice A1_0p A1_0n A1_0c), (.int .i64 A1_1), (.int .i64 A1_2), (.int .i64 A1_3), (.int .i64 A1_4), (.slice A1_5p A1_5n A1_5c)] 33 w2 fun q3 w4 => newB [(.slice none 0 0), (.int .i64 0), (.int .i64 0), (.int .i64 0), (.int .i64 0), (.slice none 0 0), (.slice none 0 0), (.int .i64 0), (.int .i64 0), (.int .i64 0), (.int .i64 0)] 78 w4 fun q5 w6 => rd_l_i64_i64_i64_i64 w6 q1 fun a7 n8 c9 i10 i11 i12 i13 => view_Good.call [(.agg ⟨[(.slice a7 n8 c9), (.int .i64 i10), (.int .i64 i11), (.int .i64 i12), (.int .i64 i13)]⟩)] w6 fun v14 w15 => ∃ b16 : Bool, v14 = (.bool b16) ∧ br (!b16) (stPT q5 0 [(.slice none 0 0), (.int .i64 0), (.int .i64 0), (.int .i64 0), (.int .i64 0), (.slice none 0 0), (.slice none 0 0), (.int .i64 0), (.int .i64 0), (.int .i64 0), (.int .i64 0)] w15 fun w17 => rd_l_i64_i64_i64_i64_l_l_i64_i64_i64_i64 w17 q5 fun a18 n19 c20 i21 i22 i23 i24 a25 n26 c27 a28 n29 c30 i31 i32 i33 i34 => K (.tuple ⟨[(.agg ⟨[(.slice a18 n19 c20), (.int .i64 i21), (.int .i64 i22), (.int .i64 i23), (.int .i64 i24), (.slice a25 n26 c27), (.slice a28 n29 c30), (.int .i64 i31), (.int .i64 i32), (.int .i64 i33), (.int .i64 i34)]⟩), (.int .i64 1)]⟩) w17) (rd_l_i64_i64_i64_i64_l w15 q3 fun a35 n36 c37 i38 i39 i40 i41 a42 n43 c44 => lu_Right.call [(.agg ⟨[(.slice a35 n36 c37), (.int .i64 i38), (.int .i64 i39), (.int .i64 i40), (.int .i64 i41), (.slice a42 n43 c44)]⟩)] w15 fun v45 w46 => ∃ b47 : Bool, v45 = (.bool b47) ∧ br (!b47) (stPT q5 0 [(.slice none 0 0), (.int .i64 0), (.int .i64 0), (.int .i64 0), (.int .i64 0), (.slice none 0 0), (.slice none 0 0), (.int .i64 0), (.int .i64 0), (.int .i64 0), (.int .i64 0)] w46 fun w48 => rd_l_i64_i64_i64_i64_l_l_i64_i64_i64_i64 w48 q5 fun a49 n50 c51 i52 i53 i54 i55 a56 n57 c58 a59 n60 c61 i62 i63 i64 i65 => K (.tuple ⟨[(.agg ⟨[(.slice a49 n50 c51), (.int .i64 i52), (.int .i64 i53), (.int .i64 i54), (.int .i64 i55), (.slice a56 n57 c58), (.slice a59 n60 c61), (.int .i64 i62), (.int .i64 i63), (.int .i64 i64), (.int .i64 i65)]⟩), (.int .i64 1)]⟩) w48) (rd_i64 w46 (q1.add 2) fun i66 => rd_i64 w46 (q3.add 2) fun i67 => br (i66 != i67) (stPT q5 0 [(.slice none 0 0), (.int .i64 0), (.int .i64 0), (.int .i64 0), (.int .i64 0), (.slice none 0 0), (.slice none 0 0), (.int .i64 0), (.int .i64 0), (.int .i64 0), (.int .i64 0)] w46 fun w68 => rd_l_i64_i64_i64_i64_l_l_i64_i64_i64_i64 w68 q5 fun a69 n70 c71 i72 i73 i74 i75 a76 n77 c78 a79 n80 c81 i82 i83 i84 i85 => K (.tuple ⟨[(.agg ⟨[(.slice a69 n70 c71), (.int .i64 i72), (.int .i64 i73), (.int .i64 i74), (.int .i64 i75), (.slice a76 n77 c78), (.slice a79 n80 c81), (.int .i64 i82), (.int .i64 i83), (.int .i64 i84), (.int .i64 i85)]⟩), (.int .i64 3)]⟩) w68) (rd_i64 w46 (q1.add 3) fun i86 => rd_i64 w46 (q3.add 3) fun i87 => br (i86 != i87) (stPT q5 0 [(.slice none 0 0), (.int .i64 0), (.int .i64 0), (.int .i64 0), (.int .i64 0), (.slice none 0 0), (.slice none 0 0), (.int .i64 0), (.int .i64 0), (.int .i64 0), (.int .i64 0)] w46 fun w88 => rd_l_i64_i64_i64_i64_l_l_i64_i64_i64_i64 w88 q5 fun a89 n90 c91 i92 i93 i94 i95 a96 n97 c98 a99 n100 c101 i102 i103 i104 i105 => K (.tuple ⟨[(.agg ⟨[(.slice a89 n90 c91), (.int .i64 i92), (.int .i64 i93), (.int .i64 i94), (.int .i64 i95), (.slice a96 n97 c98), (.slice a99 n100 c101), (.int .i64 i102), (.int .i64 i103), (.int .i64 i104), (.int .i64 i105)]⟩), (.int .i64 3)]⟩) w88) (rd_l_i64_i64_i64_i64_l w46 q3 fun a106 n107 c108 i109 i110 i111 i112 a113 n114 c115 => rd_l_i64_i64_i64_i64 w46 q1 fun a116 n117 c118 i119 i120 i121 i122 => stPT q5 0 [(.slice a106 n107 c108), (.int .i64 i109), (.int .i64 i110), (.int .i64 i111), (.int .i64 i112), (.slice a113 n114 c115), (.slice a116 n117 c118), (.int .i64 i119), (.int .i64 i120), (.int .i64 i121), (.int .i64 i122)] w46 fun w123 => rd_l_i64_i64_i64_i64_l_l_i64_i64_i64_i64 w123 q5 fun a124 n125 c126 i127 i128 i129 i130 a131 n132 c133 a134 n135 c136 i137 i138 i139 i140 => K (.tuple ⟨[(.agg ⟨[(.slice a124 n125 c126), (.int .i64 i127), (.int .i64 i128), (.int .i64 i129), (.int .i64 i130), (.slice a131 n132 c133), (.slice a134 n135 c136), (.int .i64 i137), (.int .i64 i138), (.int .i64 i139), (.int .i64 i140)]⟩), (.int .i64 0)]⟩) w123))))
theorem growth_made.ok {A0_0p : Option Addr} {A0_0n A0_0c : Nat} {A0_1 : Int} {A0_2 : Int} {A0_3 : Int} {A0_4 : Int} {A1_0p : Option Addr} {A1_0n A1_0c : Nat} {A1_1 : Int} {A1_2 : Int} {A1_3 : Int} {A1_4 : Int} {A1_5p : Option Addr} {A1_5n A1_5c : Nat} {w : World} {K : Value → World → Prop} (h : growth_made.x A0_0p A0_0n A0_0c A0_1 A0_2 A0_3 A0_4 A1_0p A1_0n A1_0c A1_1 A1_2 A1_3 A1_4 A1_5p A1_5n A1_5c w K) : growth_made.call [(.agg ⟨[(.slice A0_0p A0_0n A0_0c), (.int .i64 A0_1), (.int .i64 A0_2), (.int .i64 A0_3), (.int .i64 A0_4)]⟩), (.agg ⟨[(.slice A1_0p A1_0n A1_0c), (.int .i64 A1_1), (.int .i64 A1_2), (.int .i64 A1_3), (.int .i64 A1_4), (.slice A1_5p A1_5n A1_5c)]⟩)] w K :=
  callF_of_ex0 (f := Try.f44) Try.func44 rfl mixed (by kernel_rfl) (Eq.mp (by kernel_rfl) h)
/-! the same, the local variables taken out -/
def growth_made.s (A0_0p : Option Addr) (A0_0n A0_0c : Nat) (A0_1 : Int) (A0_2 : Int) (A0_3 : Int) (A0_4 : Int) (A1_0p : Option Addr) (A1_0n A1_0c : Nat) (A1_1 : Int) (A1_2 : Int) (A1_3 : Int) (A1_4 : Int) (A1_5p : Option Addr) (A1_5n A1_5c : Nat) (w : World) (K : Value → World → Prop) : Prop := ∀ (k3 : Nat) (w2 : World), k3 = w.heap.size → k3 < w2.heap.size → Ext w w2 → ∀ (k7 : Nat) (w6 : World), k7 = w2.heap.size → k7 < w6.heap.size → Ext w2 w6 → ∀ (k11 : Nat) (w10 : World), k11 = w6.heap.size → k11 < w10.heap.size → Ext w6 w10 → view_Good.call [(.agg ⟨[(.slice A0_0p A0_0n A0_0c), (.int .i64 A0_1), (.int .i64 A0_2), (.int .i64 A0_3), (.int .i64 A0_4)]⟩)] w10 fun v20 w21 => Stay [k11, k7, k3] w10 w21 ∧ ∃ b22 : Bool, v20 = (.bool b22) ∧ br (!b22) (∀ w23 : World, Exc k11 w21 w23 → K (.tuple ⟨[(.agg ⟨[(.slice (none : Option Addr) (0 : Nat) (0 : Nat)), (.int .i64 (0 : Int)), (.int .i64 (0 : Int)), (.int .i64 (0 : Int)), (.int .i64 (0 : Int)), (.slice (none : Option Addr) (0 : Nat) (0 : Nat)), (.slice (none : Option Addr) (0 : Nat) (0 : Nat)), (.int .i64 (0 : Int)), (.int .i64 (0 : Int)), (.int .i64 (0 : Int)), (.int .i64 (0 : Int))]⟩), (.int .i64 1)]⟩) w23) (lu_Right.call [(.agg ⟨[(.slice A1_0p A1_0n A1_0c), (.int .i64 A1_1), (.int .i64 A1_2), (.int .i64 A1_3), (.int .i64 A1_4), (.slice A1_5p A1_5n A1_5c)]⟩)] w21 fun v51 w52 => Stay [k11, k7, k3] w21 w52 ∧ ∃ b53 : Bool, v51 = (.bool b53) ∧ br (!b53) (∀ w54 : World, Exc k11 w52 w54 → K (.tuple ⟨[(.agg ⟨[(.slice (none : Option Addr) (0 : Nat) (0 : Nat)), (.int .i64 (0 : Int)), (.int .i64 (0 : Int)), (.int .i64 (0 : Int)), (.int .i64 (0 : Int)), (.slice (none : Option Addr) (0 : Nat) (0 : Nat)), (.slice (none : Option Addr) (0 : Nat) (0 : Nat)), (.int .i64 (0 : Int)), (.int .i64 (0 : Int)), (.int .i64 (0 : Int)), (.int .i64 (0 : Int))]⟩), (.int .i64 1)]⟩) w54) (br (A0_2 != A1_2) (∀ w74 : World, Exc k11 w52 w74 → K (.tuple ⟨[(.agg ⟨[(.slice (none : Option Addr) (0 : Nat) (0 : Nat)), (.int .i64 (0 : Int)), (.int .i64 (0 : Int)), (.int .i64 (0 : Int)), (.int .i64 (0 : Int)), (.slice (none : Option Addr) (0 : Nat) (0 : Nat)), (.slice (none : Option Addr) (0 : Nat) (0 : Nat)), (.int .i64 (0 : Int)), (.int .i64 (0 : Int)), (.int .i64 (0 : Int)), (.int .i64 (0 : Int))]⟩), (.int .i64 3)]⟩) w74) (br (A0_3 != A1_3) (∀ w94 : World, Exc k11 w52 w94 → K (.tuple ⟨[(.agg ⟨[(.slice (none : Option Addr) (0 : Nat) (0 : Nat)), (.int .i64 (0 : Int)), (.int .i64 (0 : Int)), (.int .i64 (0 : Int)), (.int .i64 (0 : Int)), (.slice (none : Option Addr) (0 : Nat) (0 : Nat)), (.slice (none : Option Addr) (0 : Nat) (0 : Nat)), (.int .i64 (0 : Int)), (.int .i64 (0 : Int)), (.int .i64 (0 : Int)), (.int .i64 (0 : Int))]⟩), (.int .i64 3)]⟩) w94) (∀ w129 : World, Exc k11 w52 w129 → K (.tuple ⟨[(.agg ⟨[(.slice A1_0p A1_0n A1_0c), (.int .i64 A1_1), (.int .i64 A1_2), (.int .i64 A1_3), (.int .i64 A1_4), (.slice A1_5p A1_5n A1_5c), (.slice A0_0p A0_0n A0_0c), (.int .i64 A0_1), (.int .i64 A0_2), (.int .i64 A0_3), (.int .i64 A0_4)]⟩), (.int .i64 0)]⟩) w129))))
theorem growth_made.os {A0_0p : Option Addr} {A0_0n A0_0c : Nat} {A0_1 : Int} {A0_2 : Int} {A0_3 : Int} {A0_4 : Int} {A1_0p : Option Addr} {A1_0n A1_0c : Nat} {A1_1 : Int} {A1_2 : Int} {A1_3 : Int} {A1_4 : Int} {A1_5p : Option Addr} {A1_5n A1_5c : Nat} {w : World} {K : Value → World → Prop} (h : growth_made.s A0_0p A0_0n A0_0c A0_1 A0_2 A0_3 A0_4 A1_0p A1_0n A1_0c A1_1 A1_2 A1_3 A1_4 A1_5p A1_5n A1_5c w K) : growth_made.call [(.agg ⟨[(.slice A0_0p A0_0n A0_0c), (.int .i64 A0_1), (.int .i64 A0_2), (.int .i64 A0_3), (.int .i64 A0_4)]⟩), (.agg ⟨[(.slice A1_0p A1_0n A1_0c), (.int .i64 A1_1), (.int .i64 A1_2), (.int .i64 A1_3), (.int .i64 A1_4), (.slice A1_5p A1_5n A1_5c)]⟩)] w K := by
  refine growth_made.ok ?_
  have st := St.nil w
  unfold growth_made.x
  unfold growth_made.s at h
  refine St.new (St.nil _) (fun q1 w2 hk hlt he st => ?_)
  replace h := h q1.block w2 hk hlt he
  refine St.new st (fun q5 w6 hk hlt he st => ?_)
  replace h := h q5.block w6 hk hlt he
  refine St.new st (fun q9 w10 hk hlt he st => ?_)
  replace h := h q9.block w10 hk hlt he
  refine rd_l_i64_i64_i64_i64.bx 2 0 st rfl rfl rfl rfl rfl rfl rfl ?_
  refine CallF.mono h (fun v20 w21 h => ?_)
  obtain ⟨hK, h⟩ := h
  replace st := st.stay hK
  obtain ⟨b22, h⟩ := h
  refine ⟨b22, ?_⟩
  refine And.imp_right (fun h => ?_) h
  refine br_mono (fun h => ?_) (fun h => ?_) h
  · refine St.put 0 0 st rfl rfl rfl rfl (fun w23 he st => ?_)
    replace h := h w23 he
    refine rd_l_i64_i64_i64_i64_l_l_i64_i64_i64_i64.bx 0 0 st rfl rfl rfl rfl rfl rfl rfl rfl rfl rfl rfl rfl rfl ?_
    exact h
  · refine rd_l_i64_i64_i64_i64_l.bx 1 0 st rfl rfl rfl rfl rfl rfl rfl rfl ?_
    refine CallF.mono h (fun v51 w52 h => ?_)
    obtain ⟨hK, h⟩ := h
    replace st := st.stay hK
    obtain ⟨b53, h⟩ := h
    refine ⟨b53, ?_⟩
    refine And.imp_right (fun h => ?_) h
    refine br_mono (fun h => ?_) (fun h => ?_) h
    · refine St.put 0 0 st rfl rfl rfl rfl (fun w54 he st => ?_)
      replace h := h w54 he
      refine rd_l_i64_i64_i64_i64_l_l_i64_i64_i64_i64.bx 0 0 st rfl rfl rfl rfl rfl rfl rfl rfl rfl rfl rfl rfl rfl ?_
      exact h
    · refine rd_i64.bx 2 2 st rfl rfl rfl ?_
      refine rd_i64.bx 1 2 st rfl rfl rfl ?_
      refine br_mono (fun h => ?_) (fun h => ?_) h
      · refine St.put 0 0 st rfl rfl rfl rfl (fun w74 he st => ?_)
        replace h := h w74 he
        refine rd_l_i64_i64_i64_i64_l_l_i64_i64_i64_i64.bx 0 0 st rfl rfl rfl rfl rfl rfl rfl rfl rfl rfl rfl rfl rfl ?_
        exact h
      · refine rd_i64.bx 2 3 st rfl rfl rfl ?_
        refine rd_i64.bx 1 3 st rfl rfl rfl ?_
        refine br_mono (fun h => ?_) (fun h => ?_) h
        · refine St.put 0 0 st rfl rfl rfl rfl (fun w94 he st => ?_)
          replace h := h w94 he
          refine rd_l_i64_i64_i64_i64_l_l_i64_i64_i64_i64.bx 0 0 st rfl rfl rfl rfl rfl rfl rfl rfl rfl rfl rfl rfl rfl ?_
          exact h
        · refine rd_l_i64_i64_i64_i64_l.bx 1 0 st rfl rfl rfl rfl rfl rfl rfl rfl ?_
          refine rd_l_i64_i64_i64_i64.bx 2 0 st rfl rfl rfl rfl rfl rfl rfl ?_
          refine St.put 0 0 st rfl rfl rfl rfl (fun w129 he st => ?_)
          replace h := h w129 he
          refine rd_l_i64_i64_i64_i64_l_l_i64_i64_i64_i64.bx 0 0 st rfl rfl rfl rfl rfl rfl rfl rfl rfl rfl rfl rfl rfl ?_
          exact h

/-! ### (straightedge/growth.pair).upTo: function 45 -/
def growth_pair_upTo.x (A0_0p : Option Addr) (A0_0n A0_0c : Nat) (A0_1 : Int) (A0_2 : Int) (A0_3 : Int) (A0_4 : Int) (A0_5p : Option Addr) (A0_5n A0_5c : Nat) (A0_6p : Option Addr) (A0_6n A0_6c : Nat) (A0_7 : Int) (A0_8 : Int) (A0_9 : Int) (A0_10 : Int) (A1 : Int) (w : World) (K : Value → World → Prop) : Prop := newB [(.slice A0_0p A0_0n A0_0c), (.int .i64 A0_1), (.int .i64 A0_2), (.int .i64 A0_3), (.int .i64 A0_4), (.slice A0_5p A0_5n A0_5c), (.slice A0_6p A0_6n A0_6c), (.int .i64 A0_7), (.int .i64 A0_8), (.int .i64 A0_9), (.int .i64 A0_10)] 78 w fun q1 w2 => rd_l_i64_i64_i64_i64 w2 (q1.add 6) fun a3 n4 c5 i6 i7 i8 i9 => growth_most.call [(.agg ⟨[(.slice a3 n4 c5), (.int .i64 i6), (.int .i64 i7), (.int .i64 i8), (.int .i64 i9)]⟩), (.int .i64 A1), (.func (.func 71) ⟨[]⟩ ⟨[(.pointer (some q1))]⟩)] w2 fun v10 w11 => ∃ x12 : Nat, v10 = (.float .f64 x12) ∧ br (feq .f64 x12 0) (K (.float .f64 0) w11) (rd_l_i64_i64_i64_i64 w11 q1 fun a13 n14 c15 i16 i17 i18 i19 => growth_most.call [(.agg ⟨[(.slice a13 n14 c15), (.int .i64 i16), (.int .i64 i17), (.int .i64 i18), (.int .i64 i19)]⟩), (.int .i64 A1), (.func (.func 72) ⟨[]⟩ ⟨[]⟩)] w11 fun v20 w21 => ∃ x22 : Nat, v20 = (.float .f64 x22) ∧ fop .quo .f64 x22 x12 w21 fun x23 w24 => K (.float .f64 x23) w24)
theorem growth_pair_upTo.ok {A0_0p : Option Addr} {A0_0n A0_0c : Nat} {A0_1 : Int} {A0_2 : Int} {A0_3 : Int} {A0_4 : Int} {A0_5p : Option Addr} {A0_5n A0_5c : Nat} {A0_6p : Option Addr} {A0_6n A0_6c : Nat} {A0_7 : Int} {A0_8 : Int} {A0_9 : Int} {A0_10 : Int} {A1 : Int} {w : World} {K : Value → World → Prop} (h : growth_pair_upTo.x A0_0p A0_0n A0_0c A0_1 A0_2 A0_3 A0_4 A0_5p A0_5n A0_5c A0_6p A0_6n A0_6c A0_7 A0_8 A0_9 A0_10 A1 w K) : growth_pair_upTo.call [(.agg ⟨[(.slice A0_0p A0_0n A0_0c), (.int .i64 A0_1), (.int .i64 A0_2), (.int .i64 A0_3), (.int .i64 A0_4), (.slice A0_5p A0_5n A0_5c), (.slice A0_6p A0_6n A0_6c), (.int .i64 A0_7), (.int .i64 A0_8), (.int .i64 A0_9), (.int .i64 A0_10)]⟩), (.int .i64 A1)] w K :=
  callF_of_ex0 (f := Try.f45) Try.func45 rfl mixed (by kernel_rfl) (Eq.mp (by kernel_rfl) h)

/-! ### straightedge/growth.most: function 70 -/
def growth_most.b3 (K : Value → World → Prop) (h3 : FuncId → List Value → List Value → Option Addr → Option Addr → Nat → Nat → Int → Int → World → Prop) (h6 : FuncId → List Value → List Value → Option Addr → Option Addr → Nat → Nat → Int → Int → Int → Int → Int → World → Prop) (z2g : FuncId) (z2f z2k : List Value) (z3 : Option Addr) (z7p : Option Addr) (z7n z7c : Nat) (z10 : Int) (z11 : Int) (w : World) : Prop := br (decide (z11 < z10)) (CallF prog z2g (z2f ++ [(.int .i64 z11)] ++ z2k) w fun v1 w2 => ∃ i3 : Int, v1 = (.int .i64 i3) ∧ h6 z2g z2f z2k z3 z7p z7n z7c z11 z10 z11 i3 0 w2) (sums_Greatest.call [(.slice z7p z7n z7c)] w fun v4 w5 => ∃ x6 : Nat, v4 = (.float .f64 x6) ∧ K (.float .f64 x6) w5)
def growth_most.b6 (K : Value → World → Prop) (h3 : FuncId → List Value → List Value → Option Addr → Option Addr → Nat → Nat → Int → Int → World → Prop) (h6 : FuncId → List Value → List Value → Option Addr → Option Addr → Nat → Nat → Int → Int → Int → Int → Int → World → Prop) (z2g : FuncId) (z2f z2k : List Value) (z3 : Option Addr) (z7p : Option Addr) (z7n z7c : Nat) (z8 : Int) (z10 : Int) (z11 : Int) (z16 : Int) (z17 : Int) (w : World) : Prop := br (decide (z17 < z16)) (ptrSome z3 fun q1 => rd_l_i64_i64_i64_i64 w q1 fun a2 n3 c4 i5 i6 i7 i8 => view_At.call [(.agg ⟨[(.slice a2 n3 c4), (.int .i64 i5), (.int .i64 i6), (.int .i64 i7), (.int .i64 i8)]⟩), (.int .i64 z17), (.int .i64 z8)] w fun v9 w10 => ∃ x11 : Nat, v9 = (.float .f64 x11) ∧ math_Abs.call [(.float .f64 x11)] w10 fun v12 w13 => ∃ x14 : Nat, v12 = (.float .f64 x14) ∧ newB [(.float .f64 x14)] 38 w13 fun q15 w16 => Raw prog (Builtin.append_ #[22, 22] 22 ⟨[(.slice z7p z7n z7c), (.slice (some q15) 1 1)]⟩) w16 fun v17 w18 => ∃ (a19 : Option Addr) (n20 c21 : Nat), v17 = .slice a19 n20 c21 ∧ h6 z2g z2f z2k z3 a19 n20 c21 z8 z10 z11 z16 (IntKind.i64.wrap (z17 + 1)) w18) (h3 z2g z2f z2k z3 z7p z7n z7c z10 (IntKind.i64.wrap (z11 + 1)) w)
def growth_most.H (K : Value → World → Prop) : Nat → (FuncId → List Value → List Value → Option Addr → Option Addr → Nat → Nat → Int → Int → World → Prop) × (FuncId → List Value → List Value → Option Addr → Option Addr → Nat → Nat → Int → Int → Int → Int → Int → World → Prop)
  | 0 => (fun _ _ _ _ _ _ _ _ _ _ => False, fun _ _ _ _ _ _ _ _ _ _ _ _ _ => False)
  | fu + 1 => (growth_most.b3 K (growth_most.H K fu).1 (growth_most.H K fu).2, growth_most.b6 K (growth_most.H K fu).1 (growth_most.H K fu).2)
def growth_most.x (fu : Nat) (A0_0p : Option Addr) (A0_0n A0_0c : Nat) (A0_1 : Int) (A0_2 : Int) (A0_3 : Int) (A0_4 : Int) (A1 : Int) (A2g : FuncId) (A2f A2k : List Value) (w : World) (K : Value → World → Prop) : Prop := newB [(.slice A0_0p A0_0n A0_0c), (.int .i64 A0_1), (.int .i64 A0_2), (.int .i64 A0_3), (.int .i64 A0_4)] 24 w fun q1 w2 => (growth_most.H K fu).1 A2g A2f A2k (some q1) none 0 0 A1 0 w2
def growth_most.hd (K : Value → World → Prop) (n id : Nat) (t : List Value) (w : World) : Prop :=
  match id with
  | 3 => asV (t.getD 2 undef) fun z2g z2f z2k => asP (t.getD 3 undef) fun z3 => asL (t.getD 7 undef) fun z7p z7n z7c => asI .i64 (t.getD 10 undef) fun z10 => asI .i64 (t.getD 11 undef) fun z11 => (growth_most.H K n).1 z2g z2f z2k z3 z7p z7n z7c z10 z11 w
  | 6 => asV (t.getD 2 undef) fun z2g z2f z2k => asP (t.getD 3 undef) fun z3 => asL (t.getD 7 undef) fun z7p z7n z7c => asI .i64 (t.getD 8 undef) fun z8 => asI .i64 (t.getD 10 undef) fun z10 => asI .i64 (t.getD 11 undef) fun z11 => asI .i64 (t.getD 16 undef) fun z16 => asI .i64 (t.getD 17 undef) fun z17 => (growth_most.H K n).2 z2g z2f z2k z3 z7p z7n z7c z8 z10 z11 z16 z17 w
  | _ => False
theorem growth_most.t3 (K : Value → World → Prop) (n : Nat) (z2g : FuncId) (z2f z2k : List Value) (z3 : Option Addr) (z7p : Option Addr) (z7n z7c : Nat) (z10 : Int) (z11 : Int) (u : Nat → Value) (w : World) (h : (growth_most.H K (n + 1)).1 z2g z2f z2k z3 z7p z7n z7c z10 z11 w) :
    exT prog [3, 6] (growth_most.hd K n) Try.f70 3 32 [(2, (.func (.func z2g) ⟨z2f⟩ ⟨z2k⟩)), (3, (.pointer z3)), (7, (.slice z7p z7n z7c)), (10, (.int .i64 z10)), (11, (.int .i64 z11))] u w K := Eq.mp (by kernel_rfl) h
theorem growth_most.t6 (K : Value → World → Prop) (n : Nat) (z2g : FuncId) (z2f z2k : List Value) (z3 : Option Addr) (z7p : Option Addr) (z7n z7c : Nat) (z8 : Int) (z10 : Int) (z11 : Int) (z16 : Int) (z17 : Int) (u : Nat → Value) (w : World) (h : (growth_most.H K (n + 1)).2 z2g z2f z2k z3 z7p z7n z7c z8 z10 z11 z16 z17 w) :
    exT prog [3, 6] (growth_most.hd K n) Try.f70 6 32 [(2, (.func (.func z2g) ⟨z2f⟩ ⟨z2k⟩)), (3, (.pointer z3)), (7, (.slice z7p z7n z7c)), (8, (.int .i64 z8)), (10, (.int .i64 z10)), (11, (.int .i64 z11)), (16, (.int .i64 z16)), (17, (.int .i64 z17))] u w K := Eq.mp (by kernel_rfl) h
theorem growth_most.ok (fu : Nat) {A0_0p : Option Addr} {A0_0n A0_0c : Nat} {A0_1 : Int} {A0_2 : Int} {A0_3 : Int} {A0_4 : Int} {A1 : Int} {A2g : FuncId} {A2f A2k : List Value} {w : World} {K : Value → World → Prop} (h : growth_most.x fu A0_0p A0_0n A0_0c A0_1 A0_2 A0_3 A0_4 A1 A2g A2f A2k w K) : growth_most.call [(.agg ⟨[(.slice A0_0p A0_0n A0_0c), (.int .i64 A0_1), (.int .i64 A0_2), (.int .i64 A0_3), (.int .i64 A0_4)]⟩), (.int .i64 A1), (.func (.func A2g) ⟨A2f⟩ ⟨A2k⟩)] w K := by
  refine callF_of_ex (cuts := [3, 6]) (H := growth_most.hd K) (N := 32) Try.func70 rfl mixed (by kernel_rfl) ?_ ?_ ?_ rfl (n := fu) (Eq.mp (by kernel_rfl) h)
  · intro id hid; simp only [List.mem_cons, List.not_mem_nil, or_false] at hid; rcases hid with rfl | rfl
    · exact (by kernel_rfl : (stacks (bodyOf Try.f70) []).filter (headIs 3) = [at_ (bodyOf Try.f70) 3])
    · exact (by kernel_rfl : (stacks (bodyOf Try.f70) []).filter (headIs 6) = [at_ (bodyOf Try.f70) 6])
  · intro id t w h
    unfold growth_most.hd at h
    split at h
    · obtain ⟨z2g, z2f, z2k, _, h⟩ := asV_elim h
      obtain ⟨z3, _, h⟩ := asP_elim h
      obtain ⟨z7p, z7n, z7c, _, h⟩ := asL_elim h
      obtain ⟨z10, _, h⟩ := asI_elim h
      obtain ⟨z11, _, h⟩ := asI_elim h
      exact h
    · obtain ⟨z2g, z2f, z2k, _, h⟩ := asV_elim h
      obtain ⟨z3, _, h⟩ := asP_elim h
      obtain ⟨z7p, z7n, z7c, _, h⟩ := asL_elim h
      obtain ⟨z8, _, h⟩ := asI_elim h
      obtain ⟨z10, _, h⟩ := asI_elim h
      obtain ⟨z11, _, h⟩ := asI_elim h
      obtain ⟨z16, _, h⟩ := asI_elim h
      obtain ⟨z17, _, h⟩ := asI_elim h
      exact h
    · exact h
  · intro n id hid t w hl h; simp only [List.mem_cons, List.not_mem_nil, or_false] at hid; rcases hid with rfl | rfl
    · replace h : asV (t.getD 2 undef) fun z2g z2f z2k => asP (t.getD 3 undef) fun z3 => asL (t.getD 7 undef) fun z7p z7n z7c => asI .i64 (t.getD 10 undef) fun z10 => asI .i64 (t.getD 11 undef) fun z11 => (growth_most.H K (n + 1)).1 z2g z2f z2k z3 z7p z7n z7c z10 z11 w := h
      obtain ⟨z2g, z2f, z2k, e2, h⟩ := asV_elim h
      obtain ⟨z3, e3, h⟩ := asP_elim h
      obtain ⟨z7p, z7n, z7c, e7, h⟩ := asL_elim h
      obtain ⟨z10, e10, h⟩ := asI_elim h
      obtain ⟨z11, e11, h⟩ := asI_elim h
      rw [mk_of hl [(2, (.func (.func z2g) ⟨z2f⟩ ⟨z2k⟩)), (3, (.pointer z3)), (7, (.slice z7p z7n z7c)), (10, (.int .i64 z10)), (11, (.int .i64 z11))] (by simp only [List.forall_mem_cons, List.not_mem_nil, false_implies, implies_true, and_true]; exact ⟨e2, e3, e7, e10, e11⟩)]
      exact growth_most.t3 K n z2g z2f z2k z3 z7p z7n z7c z10 z11 _ w h
    · replace h : asV (t.getD 2 undef) fun z2g z2f z2k => asP (t.getD 3 undef) fun z3 => asL (t.getD 7 undef) fun z7p z7n z7c => asI .i64 (t.getD 8 undef) fun z8 => asI .i64 (t.getD 10 undef) fun z10 => asI .i64 (t.getD 11 undef) fun z11 => asI .i64 (t.getD 16 undef) fun z16 => asI .i64 (t.getD 17 undef) fun z17 => (growth_most.H K (n + 1)).2 z2g z2f z2k z3 z7p z7n z7c z8 z10 z11 z16 z17 w := h
      obtain ⟨z2g, z2f, z2k, e2, h⟩ := asV_elim h
      obtain ⟨z3, e3, h⟩ := asP_elim h
      obtain ⟨z7p, z7n, z7c, e7, h⟩ := asL_elim h
      obtain ⟨z8, e8, h⟩ := asI_elim h
      obtain ⟨z10, e10, h⟩ := asI_elim h
      obtain ⟨z11, e11, h⟩ := asI_elim h
      obtain ⟨z16, e16, h⟩ := asI_elim h
      obtain ⟨z17, e17, h⟩ := asI_elim h
      rw [mk_of hl [(2, (.func (.func z2g) ⟨z2f⟩ ⟨z2k⟩)), (3, (.pointer z3)), (7, (.slice z7p z7n z7c)), (8, (.int .i64 z8)), (10, (.int .i64 z10)), (11, (.int .i64 z11)), (16, (.int .i64 z16)), (17, (.int .i64 z17))] (by simp only [List.forall_mem_cons, List.not_mem_nil, false_implies, implies_true, and_true]; exact ⟨e2, e3, e7, e8, e10, e11, e16, e17⟩)]
      exact growth_most.t6 K n z2g z2f z2k z3 z7p z7n z7c z8 z10 z11 z16 z17 _ w h
/-! the same, the local variables taken out -/
def growth_most.e3 (K : Value → World → Prop) (h3 : FuncId → List Value → List Value → Nat → Option Addr → Nat → Nat → Int → Int → Int → Int → Option Addr → Nat → Nat → Int → Int → World → Prop) (h6 : FuncId → List Value → List Value → Nat → Option Addr → Nat → Nat → Int → Int → Int → Int → Option Addr → Nat → Nat → Int → Int → Int → Int → Int → World → Prop) (z2g : FuncId) (z2f z2k : List Value) (k3 : Nat) (y3_0p : Option Addr) (y3_0n y3_0c : Nat) (y3_1 : Int) (y3_2 : Int) (y3_3 : Int) (y3_4 : Int) (z7p : Option Addr) (z7n z7c : Nat) (z10 : Int) (z11 : Int) (w : World) : Prop := br (decide (z11 < z10)) (CallF prog z2g (z2f ++ [(.int .i64 z11)] ++ z2k) w fun v1 w2 => Stay [k3] w w2 ∧ ∃ i3 : Int, v1 = (.int .i64 i3) ∧ h6 z2g z2f z2k k3 y3_0p y3_0n y3_0c y3_1 y3_2 y3_3 y3_4 z7p z7n z7c z11 z10 z11 i3 0 w2) (sums_Greatest.call [(.slice z7p z7n z7c)] w fun v4 w5 => Stay [k3] w w5 ∧ ∃ x6 : Nat, v4 = (.float .f64 x6) ∧ K (.float .f64 x6) w5)
def growth_most.e6 (K : Value → World → Prop) (h3 : FuncId → List Value → List Value → Nat → Option Addr → Nat → Nat → Int → Int → Int → Int → Option Addr → Nat → Nat → Int → Int → World → Prop) (h6 : FuncId → List Value → List Value → Nat → Option Addr → Nat → Nat → Int → Int → Int → Int → Option Addr → Nat → Nat → Int → Int → Int → Int → Int → World → Prop) (z2g : FuncId) (z2f z2k : List Value) (k3 : Nat) (y3_0p : Option Addr) (y3_0n y3_0c : Nat) (y3_1 : Int) (y3_2 : Int) (y3_3 : Int) (y3_4 : Int) (z7p : Option Addr) (z7n z7c : Nat) (z8 : Int) (z10 : Int) (z11 : Int) (z16 : Int) (z17 : Int) (w : World) : Prop := br (decide (z17 < z16)) (view_At.call [(.agg ⟨[(.slice y3_0p y3_0n y3_0c), (.int .i64 y3_1), (.int .i64 y3_2), (.int .i64 y3_3), (.int .i64 y3_4)]⟩), (.int .i64 z17), (.int .i64 z8)] w fun v9 w10 => Stay [k3] w w10 ∧ ∃ x11 : Nat, v9 = (.float .f64 x11) ∧ math_Abs.call [(.float .f64 x11)] w10 fun v12 w13 => Stay [k3] w10 w13 ∧ ∃ x14 : Nat, v12 = (.float .f64 x14) ∧ newB [(.float .f64 x14)] 38 w13 fun q15 w16 => Raw prog (Builtin.append_ #[22, 22] 22 ⟨[(.slice z7p z7n z7c), (.slice (some q15) 1 1)]⟩) w16 fun v17 w18 => Stay [k3] w16 w18 ∧ ∃ (a19 : Option Addr) (n20 c21 : Nat), v17 = .slice a19 n20 c21 ∧ h6 z2g z2f z2k k3 y3_0p y3_0n y3_0c y3_1 y3_2 y3_3 y3_4 a19 n20 c21 z8 z10 z11 z16 (IntKind.i64.wrap (z17 + 1)) w18) (h3 z2g z2f z2k k3 y3_0p y3_0n y3_0c y3_1 y3_2 y3_3 y3_4 z7p z7n z7c z10 (IntKind.i64.wrap (z11 + 1)) w)
def growth_most.I (K : Value → World → Prop) : Nat → (FuncId → List Value → List Value → Nat → Option Addr → Nat → Nat → Int → Int → Int → Int → Option Addr → Nat → Nat → Int → Int → World → Prop) × (FuncId → List Value → List Value → Nat → Option Addr → Nat → Nat → Int → Int → Int → Int → Option Addr → Nat → Nat → Int → Int → Int → Int → Int → World → Prop)
  | 0 => (fun _ _ _ _ _ _ _ _ _ _ _ _ _ _ _ _ _ => False, fun _ _ _ _ _ _ _ _ _ _ _ _ _ _ _ _ _ _ _ _ => False)
  | fu + 1 => (growth_most.e3 K (growth_most.I K fu).1 (growth_most.I K fu).2, growth_most.e6 K (growth_most.I K fu).1 (growth_most.I K fu).2)
def growth_most.s (fu : Nat) (A0_0p : Option Addr) (A0_0n A0_0c : Nat) (A0_1 : Int) (A0_2 : Int) (A0_3 : Int) (A0_4 : Int) (A1 : Int) (A2g : FuncId) (A2f A2k : List Value) (w : World) (K : Value → World → Prop) : Prop := ∀ (k3 : Nat) (w2 : World), k3 = w.heap.size → k3 < w2.heap.size → Ext w w2 → (growth_most.I K fu).1 A2g A2f A2k k3 A0_0p A0_0n A0_0c A0_1 A0_2 A0_3 A0_4 none 0 0 A1 0 w2
theorem growth_most.b3_s {K : Value → World → Prop} {x3 : FuncId → List Value → List Value → Option Addr → Option Addr → Nat → Nat → Int → Int → World → Prop} {x6 : FuncId → List Value → List Value → Option Addr → Option Addr → Nat → Nat → Int → Int → Int → Int → Int → World → Prop} {s3 : FuncId → List Value → List Value → Nat → Option Addr → Nat → Nat → Int → Int → Int → Int → Option Addr → Nat → Nat → Int → Int → World → Prop} {s6 : FuncId → List Value → List Value → Nat → Option Addr → Nat → Nat → Int → Int → Int → Int → Option Addr → Nat → Nat → Int → Int → Int → Int → Int → World → Prop} (i3 : ∀ {z2g : FuncId} {z2f z2k : List Value} {q3 : Addr} {y3_0p : Option Addr} {y3_0n y3_0c : Nat} {y3_1 : Int} {y3_2 : Int} {y3_3 : Int} {y3_4 : Int} {z7p : Option Addr} {z7n z7c : Nat} {z10 : Int} {z11 : Int} {w : World}, s3 z2g z2f z2k q3.block y3_0p y3_0n y3_0c y3_1 y3_2 y3_3 y3_4 z7p z7n z7c z10 z11 w → St w [(q3, [(.slice y3_0p y3_0n y3_0c), (.int .i64 y3_1), (.int .i64 y3_2), (.int .i64 y3_3), (.int .i64 y3_4)])] → x3 z2g z2f z2k (some q3) z7p z7n z7c z10 z11 w) (i6 : ∀ {z2g : FuncId} {z2f z2k : List Value} {q3 : Addr} {y3_0p : Option Addr} {y3_0n y3_0c : Nat} {y3_1 : Int} {y3_2 : Int} {y3_3 : Int} {y3_4 : Int} {z7p : Option Addr} {z7n z7c : Nat} {z8 : Int} {z10 : Int} {z11 : Int} {z16 : Int} {z17 : Int} {w : World}, s6 z2g z2f z2k q3.block y3_0p y3_0n y3_0c y3_1 y3_2 y3_3 y3_4 z7p z7n z7c z8 z10 z11 z16 z17 w → St w [(q3, [(.slice y3_0p y3_0n y3_0c), (.int .i64 y3_1), (.int .i64 y3_2), (.int .i64 y3_3), (.int .i64 y3_4)])] → x6 z2g z2f z2k (some q3) z7p z7n z7c z8 z10 z11 z16 z17 w) {z2g : FuncId} {z2f z2k : List Value} {q3 : Addr} {y3_0p : Option Addr} {y3_0n y3_0c : Nat} {y3_1 : Int} {y3_2 : Int} {y3_3 : Int} {y3_4 : Int} {z7p : Option Addr} {z7n z7c : Nat} {z10 : Int} {z11 : Int} {w : World} (h : growth_most.e3 K s3 s6 z2g z2f z2k q3.block y3_0p y3_0n y3_0c y3_1 y3_2 y3_3 y3_4 z7p z7n z7c z10 z11 w) (st : St w [(q3, [(.slice y3_0p y3_0n y3_0c), (.int .i64 y3_1), (.int .i64 y3_2), (.int .i64 y3_3), (.int .i64 y3_4)])]) : growth_most.b3 K x3 x6 z2g z2f z2k (some q3) z7p z7n z7c z10 z11 w := by
  unfold growth_most.b3
  unfold growth_most.e3 at h
  refine br_mono (fun h => ?_) (fun h => ?_) h
  · refine CallF.mono h (fun v1 w2 h => ?_)
    obtain ⟨hK, h⟩ := h
    replace st := st.stay hK
    obtain ⟨i3, h⟩ := h
    refine ⟨i3, ?_⟩
    refine And.imp_right (fun h => ?_) h
    exact i6 h (st.pick [0] (by decide))
  · refine CallF.mono h (fun v4 w5 h => ?_)
    obtain ⟨hK, h⟩ := h
    replace st := st.stay hK
    exact h
theorem growth_most.b6_s {K : Value → World → Prop} {x3 : FuncId → List Value → List Value → Option Addr → Option Addr → Nat → Nat → Int → Int → World → Prop} {x6 : FuncId → List Value → List Value → Option Addr → Option Addr → Nat → Nat → Int → Int → Int → Int → Int → World → Prop} {s3 : FuncId → List Value → List Value → Nat → Option Addr → Nat → Nat → Int → Int → Int → Int → Option Addr → Nat → Nat → Int → Int → World → Prop} {s6 : FuncId → List Value → List Value → Nat → Option Addr → Nat → Nat → Int → Int → Int → Int → Option Addr → Nat → Nat → Int → Int → Int → Int → Int → World → Prop} (i3 : ∀ {z2g : FuncId} {z2f z2k : List Value} {q3 : Addr} {y3_0p : Option Addr} {y3_0n y3_0c : Nat} {y3_1 : Int} {y3_2 : Int} {y3_3 : Int} {y3_4 : Int} {z7p : Option Addr} {z7n z7c : Nat} {z10 : Int} {z11 : Int} {w : World}, s3 z2g z2f z2k q3.block y3_0p y3_0n y3_0c y3_1 y3_2 y3_3 y3_4 z7p z7n z7c z10 z11 w → St w [(q3, [(.slice y3_0p y3_0n y3_0c), (.int .i64 y3_1), (.int .i64 y3_2), (.int .i64 y3_3), (.int .i64 y3_4)])] → x3 z2g z2f z2k (some q3) z7p z7n z7c z10 z11 w) (i6 : ∀ {z2g : FuncId} {z2f z2k : List Value} {q3 : Addr} {y3_0p : Option Addr} {y3_0n y3_0c : Nat} {y3_1 : Int} {y3_2 : Int} {y3_3 : Int} {y3_4 : Int} {z7p : Option Addr} {z7n z7c : Nat} {z8 : Int} {z10 : Int} {z11 : Int} {z16 : Int} {z17 : Int} {w : World}, s6 z2g z2f z2k q3.block y3_0p y3_0n y3_0c y3_1 y3_2 y3_3 y3_4 z7p z7n z7c z8 z10 z11 z16 z17 w → St w [(q3, [(.slice y3_0p y3_0n y3_0c), (.int .i64 y3_1), (.int .i64 y3_2), (.int .i64 y3_3), (.int .i64 y3_4)])] → x6 z2g z2f z2k (some q3) z7p z7n z7c z8 z10 z11 z16 z17 w) {z2g : FuncId} {z2f z2k : List Value} {q3 : Addr} {y3_0p : Option Addr} {y3_0n y3_0c : Nat} {y3_1 : Int} {y3_2 : Int} {y3_3 : Int} {y3_4 : Int} {z7p : Option Addr} {z7n z7c : Nat} {z8 : Int} {z10 : Int} {z11 : Int} {z16 : Int} {z17 : Int} {w : World} (h : growth_most.e6 K s3 s6 z2g z2f z2k q3.block y3_0p y3_0n y3_0c y3_1 y3_2 y3_3 y3_4 z7p z7n z7c z8 z10 z11 z16 z17 w) (st : St w [(q3, [(.slice y3_0p y3_0n y3_0c), (.int .i64 y3_1), (.int .i64 y3_2), (.int .i64 y3_3), (.int .i64 y3_4)])]) : growth_most.b6 K x3 x6 z2g z2f z2k (some q3) z7p z7n z7c z8 z10 z11 z16 z17 w := by
  unfold growth_most.b6
  unfold growth_most.e6 at h
  refine br_mono (fun h => ?_) (fun h => ?_) h
  · refine ptrSome_intro rfl ?_
    refine rd_l_i64_i64_i64_i64.bx 0 0 st rfl rfl rfl rfl rfl rfl rfl ?_
    refine CallF.mono h (fun v9 w10 h => ?_)
    obtain ⟨hK, h⟩ := h
    replace st := st.stay hK
    obtain ⟨x11, h⟩ := h
    refine ⟨x11, ?_⟩
    refine And.imp_right (fun h => ?_) h
    refine CallF.mono h (fun v12 w13 h => ?_)
    obtain ⟨hK, h⟩ := h
    replace st := st.stay hK
    obtain ⟨x14, h⟩ := h
    refine ⟨x14, ?_⟩
    refine And.imp_right (fun h => ?_) h
    refine newB_mono st h (fun q15 w16 st h => ?_)
    refine Raw.mono h (fun v17 w18 h => ?_)
    obtain ⟨hK, h⟩ := h
    replace st := st.stay hK
    obtain ⟨a19, n20, c21, h⟩ := h
    refine ⟨a19, n20, c21, ?_⟩
    refine And.imp_right (fun h => ?_) h
    exact i6 h (st.pick [0] (by decide))
  · exact i3 h (st.pick [0] (by decide))
theorem growth_most.H_s {K : Value → World → Prop} (fu : Nat) : (∀ {z2g : FuncId} {z2f z2k : List Value} {q3 : Addr} {y3_0p : Option Addr} {y3_0n y3_0c : Nat} {y3_1 : Int} {y3_2 : Int} {y3_3 : Int} {y3_4 : Int} {z7p : Option Addr} {z7n z7c : Nat} {z10 : Int} {z11 : Int} {w : World}, (growth_most.I K fu).1 z2g z2f z2k q3.block y3_0p y3_0n y3_0c y3_1 y3_2 y3_3 y3_4 z7p z7n z7c z10 z11 w → St w [(q3, [(.slice y3_0p y3_0n y3_0c), (.int .i64 y3_1), (.int .i64 y3_2), (.int .i64 y3_3), (.int .i64 y3_4)])] → (growth_most.H K fu).1 z2g z2f z2k (some q3) z7p z7n z7c z10 z11 w) ∧ (∀ {z2g : FuncId} {z2f z2k : List Value} {q3 : Addr} {y3_0p : Option Addr} {y3_0n y3_0c : Nat} {y3_1 : Int} {y3_2 : Int} {y3_3 : Int} {y3_4 : Int} {z7p : Option Addr} {z7n z7c : Nat} {z8 : Int} {z10 : Int} {z11 : Int} {z16 : Int} {z17 : Int} {w : World}, (growth_most.I K fu).2 z2g z2f z2k q3.block y3_0p y3_0n y3_0c y3_1 y3_2 y3_3 y3_4 z7p z7n z7c z8 z10 z11 z16 z17 w → St w [(q3, [(.slice y3_0p y3_0n y3_0c), (.int .i64 y3_1), (.int .i64 y3_2), (.int .i64 y3_3), (.int .i64 y3_4)])] → (growth_most.H K fu).2 z2g z2f z2k (some q3) z7p z7n z7c z8 z10 z11 z16 z17 w) := by
  induction fu with
  | zero => exact ⟨fun h _ => False.elim h, fun h _ => False.elim h⟩
  | succ fu ih => exact ⟨fun h st => growth_most.b3_s (K := K) (x3 := (growth_most.H K fu).1) (s3 := (growth_most.I K fu).1) (x6 := (growth_most.H K fu).2) (s6 := (growth_most.I K fu).2) ih.1 ih.2 h st, fun h st => growth_most.b6_s (K := K) (x3 := (growth_most.H K fu).1) (s3 := (growth_most.I K fu).1) (x6 := (growth_most.H K fu).2) (s6 := (growth_most.I K fu).2) ih.1 ih.2 h st⟩
theorem growth_most.os (fu : Nat) {A0_0p : Option Addr} {A0_0n A0_0c : Nat} {A0_1 : Int} {A0_2 : Int} {A0_3 : Int} {A0_4 : Int} {A1 : Int} {A2g : FuncId} {A2f A2k : List Value} {w : World} {K : Value → World → Prop} (h : growth_most.s fu A0_0p A0_0n A0_0c A0_1 A0_2 A0_3 A0_4 A1 A2g A2f A2k w K) : growth_most.call [(.agg ⟨[(.slice A0_0p A0_0n A0_0c), (.int .i64 A0_1), (.int .i64 A0_2), (.int .i64 A0_3), (.int .i64 A0_4)]⟩), (.int .i64 A1), (.func (.func A2g) ⟨A2f⟩ ⟨A2k⟩)] w K := by
  refine growth_most.ok fu ?_
  have st := St.nil w
  unfold growth_most.x
  unfold growth_most.s at h
  refine St.new (St.nil _) (fun q1 w2 hk hlt he st => ?_)
  replace h := h q1.block w2 hk hlt he
  exact (growth_most.H_s fu).1 h (st.pick [0] (by decide))

/-! ### (straightedge/growth.pair).upTo$1: function 71 -/
def growth_pair_upTo_1.x (A0 : Int) (fv0 : Option Addr) (w : World) (K : Value → World → Prop) : Prop := ptrSome fv0 fun q1 => rd_i64 w ((q1.add 6).add 2) fun i2 => K (.int .i64 i2) w
theorem growth_pair_upTo_1.ok {A0 : Int} {fv0 : Option Addr} {w : World} {K : Value → World → Prop} (h : growth_pair_upTo_1.x A0 fv0 w K) : growth_pair_upTo_1.call [(.int .i64 A0), (.pointer fv0)] w K :=
  callF_of_ex0 (f := Try.f71) Try.func71 rfl mixed (by kernel_rfl) (Eq.mp (by kernel_rfl) h)

end Go.Proofs.Ytgdkahbnepafgaa

/-! ### AGref19 -/
/- The explicit forms of the functions of one package, and that the calls do what they say. Written by wip/tools/wk2.py. -/
set_option maxHeartbeats 4000000
set_option maxRecDepth 100000
set_option linter.unusedVariables false
namespace Go.Proofs.Ytgdkahbnepafgaa
open Go Go.Wk

/-! ### straightedge/straightedgeref19.Most: function 18 -/
def straightedgeref19_Most.b3 (K : Value → World → Prop) (h3 : Int → Bool → Option Addr → Option Addr → Nat → Nat → Int → World → Prop) (h6 : Int → Bool → Option Addr → Option Addr → Nat → Nat → Int → Int → World → Prop) (z1 : Int) (z2 : Bool) (z3 : Option Addr) (z7p : Option Addr) (z7n z7c : Nat) (z8 : Int) (w : World) : Prop := br (decide (z8 < z1)) (h6 z1 z2 z3 z7p z7n z7c z8 0 w) (straightedgeref05_Greatest.call [(.slice z7p z7n z7c)] w fun v1 w2 => ∃ x3 : Nat, v1 = (.float .f64 x3) ∧ K (.float .f64 x3) w2)
def straightedgeref19_Most.b6 (K : Value → World → Prop) (h3 : Int → Bool → Option Addr → Option Addr → Nat → Nat → Int → World → Prop) (h6 : Int → Bool → Option Addr → Option Addr → Nat → Nat → Int → Int → World → Prop) (z1 : Int) (z2 : Bool) (z3 : Option Addr) (z7p : Option Addr) (z7n z7c : Nat) (z8 : Int) (z9 : Int) (w : World) : Prop := ptrSome z3 fun q1 => rd_i64 w q1 fun i2 => br (decide (z9 < i2)) (br (!z2) (ptrSome z3 fun q3 => rd_i64_i64_l w q3 fun i4 i5 a6 n7 c8 => straightedgeref03_M_At.call [(.agg ⟨[(.int .i64 i4), (.int .i64 i5), (.slice a6 n7 c8)]⟩), (.int .i64 z9), (.int .i64 z8)] w fun v9 w10 => ∃ x11 : Nat, v9 = (.float .f64 x11) ∧ straightedgeref01_Abs.call [(.float .f64 x11)] w10 fun v12 w13 => ∃ x14 : Nat, v12 = (.float .f64 x14) ∧ newB [(.float .f64 x14)] 38 w13 fun q15 w16 => Raw prog (Builtin.append_ #[22, 22] 22 ⟨[(.slice z7p z7n z7c), (.slice (some q15) 1 1)]⟩) w16 fun v17 w18 => ∃ (a19 : Option Addr) (n20 c21 : Nat), v17 = .slice a19 n20 c21 ∧ h6 z1 z2 z3 a19 n20 c21 z8 (IntKind.i64.wrap (z9 + 1)) w18) (br (decide (z9 ≤ z8)) (ptrSome z3 fun q22 => rd_i64_i64_l w q22 fun i23 i24 a25 n26 c27 => straightedgeref03_M_At.call [(.agg ⟨[(.int .i64 i23), (.int .i64 i24), (.slice a25 n26 c27)]⟩), (.int .i64 z9), (.int .i64 z8)] w fun v28 w29 => ∃ x30 : Nat, v28 = (.float .f64 x30) ∧ straightedgeref01_Abs.call [(.float .f64 x30)] w29 fun v31 w32 => ∃ x33 : Nat, v31 = (.float .f64 x33) ∧ newB [(.float .f64 x33)] 38 w32 fun q34 w35 => Raw prog (Builtin.append_ #[22, 22] 22 ⟨[(.slice z7p z7n z7c), (.slice (some q34) 1 1)]⟩) w35 fun v36 w37 => ∃ (a38 : Option Addr) (n39 c40 : Nat), v36 = .slice a38 n39 c40 ∧ h6 z1 z2 z3 a38 n39 c40 z8 (IntKind.i64.wrap (z9 + 1)) w37) (h3 z1 z2 z3 z7p z7n z7c (IntKind.i64.wrap (z8 + 1)) w))) (h3 z1 z2 z3 z7p z7n z7c (IntKind.i64.wrap (z8 + 1)) w)
def straightedgeref19_Most.H (K : Value → World → Prop) : Nat → (Int → Bool → Option Addr → Option Addr → Nat → Nat → Int → World → Prop) × (Int → Bool → Option Addr → Option Addr → Nat → Nat → Int → Int → World → Prop)
  | 0 => (fun _ _ _ _ _ _ _ _ => False, fun _ _ _ _ _ _ _ _ _ => False)
  | fu + 1 => (straightedgeref19_Most.b3 K (straightedgeref19_Most.H K fu).1 (straightedgeref19_Most.H K fu).2, straightedgeref19_Most.b6 K (straightedgeref19_Most.H K fu).1 (straightedgeref19_Most.H K fu).2)
def straightedgeref19_Most.x (fu : Nat) (A0_0 : Int) (A0_1 : Int) (A0_2p : Option Addr) (A0_2n A0_2c : Nat) (A1 : Int) (A2 : Bool) (w : World) (K : Value → World → Prop) : Prop := newB [(.int .i64 A0_0), (.int .i64 A0_1), (.slice A0_2p A0_2n A0_2c)] 29 w fun q1 w2 => (straightedgeref19_Most.H K fu).1 A1 A2 (some q1) none 0 0 0 w2
def straightedgeref19_Most.hd (K : Value → World → Prop) (n id : Nat) (t : List Value) (w : World) : Prop :=
  match id with
  | 3 => asI .i64 (t.getD 1 undef) fun z1 => asB (t.getD 2 undef) fun z2 => asP (t.getD 3 undef) fun z3 => asL (t.getD 7 undef) fun z7p z7n z7c => asI .i64 (t.getD 8 undef) fun z8 => (straightedgeref19_Most.H K n).1 z1 z2 z3 z7p z7n z7c z8 w
  | 6 => asI .i64 (t.getD 1 undef) fun z1 => asB (t.getD 2 undef) fun z2 => asP (t.getD 3 undef) fun z3 => asL (t.getD 7 undef) fun z7p z7n z7c => asI .i64 (t.getD 8 undef) fun z8 => asI .i64 (t.getD 9 undef) fun z9 => (straightedgeref19_Most.H K n).2 z1 z2 z3 z7p z7n z7c z8 z9 w
  | _ => False
theorem straightedgeref19_Most.t3 (K : Value → World → Prop) (n : Nat) (z1 : Int) (z2 : Bool) (z3 : Option Addr) (z7p : Option Addr) (z7n z7c : Nat) (z8 : Int) (u : Nat → Value) (w : World) (h : (straightedgeref19_Most.H K (n + 1)).1 z1 z2 z3 z7p z7n z7c z8 w) :
    exT prog [3, 6] (straightedgeref19_Most.hd K n) Try.f18 3 40 [(1, (.int .i64 z1)), (2, (.bool z2)), (3, (.pointer z3)), (7, (.slice z7p z7n z7c)), (8, (.int .i64 z8))] u w K := Eq.mp (by kernel_rfl) h
theorem straightedgeref19_Most.t6 (K : Value → World → Prop) (n : Nat) (z1 : Int) (z2 : Bool) (z3 : Option Addr) (z7p : Option Addr) (z7n z7c : Nat) (z8 : Int) (z9 : Int) (u : Nat → Value) (w : World) (h : (straightedgeref19_Most.H K (n + 1)).2 z1 z2 z3 z7p z7n z7c z8 z9 w) :
    exT prog [3, 6] (straightedgeref19_Most.hd K n) Try.f18 6 40 [(1, (.int .i64 z1)), (2, (.bool z2)), (3, (.pointer z3)), (7, (.slice z7p z7n z7c)), (8, (.int .i64 z8)), (9, (.int .i64 z9))] u w K := Eq.mp (by kernel_rfl) h
theorem straightedgeref19_Most.ok (fu : Nat) {A0_0 : Int} {A0_1 : Int} {A0_2p : Option Addr} {A0_2n A0_2c : Nat} {A1 : Int} {A2 : Bool} {w : World} {K : Value → World → Prop} (h : straightedgeref19_Most.x fu A0_0 A0_1 A0_2p A0_2n A0_2c A1 A2 w K) : straightedgeref19_Most.call [(.agg ⟨[(.int .i64 A0_0), (.int .i64 A0_1), (.slice A0_2p A0_2n A0_2c)]⟩), (.int .i64 A1), (.bool A2)] w K := by
  refine callF_of_ex (cuts := [3, 6]) (H := straightedgeref19_Most.hd K) (N := 40) Try.func18 rfl mixed (by kernel_rfl) ?_ ?_ ?_ rfl (n := fu) (Eq.mp (by kernel_rfl) h)
  · intro id hid; simp only [List.mem_cons, List.not_mem_nil, or_false] at hid; rcases hid with rfl | rfl
    · exact (by kernel_rfl : (stacks (bodyOf Try.f18) []).filter (headIs 3) = [at_ (bodyOf Try.f18) 3])
    · exact (by kernel_rfl : (stacks (bodyOf Try.f18) []).filter (headIs 6) = [at_ (bodyOf Try.f18) 6])
  · intro id t w h
    unfold straightedgeref19_Most.hd at h
    split at h
    · obtain ⟨z1, _, h⟩ := asI_elim h
      obtain ⟨z2, _, h⟩ := asB_elim h
      obtain ⟨z3, _, h⟩ := asP_elim h
      obtain ⟨z7p, z7n, z7c, _, h⟩ := asL_elim h
      obtain ⟨z8, _, h⟩ := asI_elim h
      exact h
    · obtain ⟨z1, _, h⟩ := asI_elim h
      obtain ⟨z2, _, h⟩ := asB_elim h
      obtain ⟨z3, _, h⟩ := asP_elim h
      obtain ⟨z7p, z7n, z7c, _, h⟩ := asL_elim h
      obtain ⟨z8, _, h⟩ := asI_elim h
      obtain ⟨z9, _, h⟩ := asI_elim h
      exact h
    · exact h
  · intro n id hid t w hl h; simp only [List.mem_cons, List.not_mem_nil, or_false] at hid; rcases hid with rfl | rfl
    · replace h : asI .i64 (t.getD 1 undef) fun z1 => asB (t.getD 2 undef) fun z2 => asP (t.getD 3 undef) fun z3 => asL (t.getD 7 undef) fun z7p z7n z7c => asI .i64 (t.getD 8 undef) fun z8 => (straightedgeref19_Most.H K (n + 1)).1 z1 z2 z3 z7p z7n z7c z8 w := h
      obtain ⟨z1, e1, h⟩ := asI_elim h
      obtain ⟨z2, e2, h⟩ := asB_elim h
      obtain ⟨z3, e3, h⟩ := asP_elim h
      obtain ⟨z7p, z7n, z7c, e7, h⟩ := asL_elim h
      obtain ⟨z8, e8, h⟩ := asI_elim h
      rw [mk_of hl [(1, (.int .i64 z1)), (2, (.bool z2)), (3, (.pointer z3)), (7, (.slice z7p z7n z7c)), (8, (.int .i64 z8))] (by simp only [List.forall_mem_cons, List.not_mem_nil, false_implies, implies_true, and_true]; exact ⟨e1, e2, e3, e7, e8⟩)]
      exact straightedgeref19_Most.t3 K n z1 z2 z3 z7p z7n z7c z8 _ w h
    · replace h : asI .i64 (t.getD 1 undef) fun z1 => asB (t.getD 2 undef) fun z2 => asP (t.getD 3 undef) fun z3 => asL (t.getD 7 undef) fun z7p z7n z7c => asI .i64 (t.getD 8 undef) fun z8 => asI .i64 (t.getD 9 undef) fun z9 => (straightedgeref19_Most.H K (n + 1)).2 z1 z2 z3 z7p z7n z7c z8 z9 w := h
      obtain ⟨z1, e1, h⟩ := asI_elim h
      obtain ⟨z2, e2, h⟩ := asB_elim h
      obtain ⟨z3, e3, h⟩ := asP_elim h
      obtain ⟨z7p, z7n, z7c, e7, h⟩ := asL_elim h
      obtain ⟨z8, e8, h⟩ := asI_elim h
      obtain ⟨z9, e9, h⟩ := asI_elim h
      rw [mk_of hl [(1, (.int .i64 z1)), (2, (.bool z2)), (3, (.pointer z3)), (7, (.slice z7p z7n z7c)), (8, (.int .i64 z8)), (9, (.int .i64 z9))] (by simp only [List.forall_mem_cons, List.not_mem_nil, false_implies, implies_true, and_true]; exact ⟨e1, e2, e3, e7, e8, e9⟩)]
      exact straightedgeref19_Most.t6 K n z1 z2 z3 z7p z7n z7c z8 z9 _ w h
/-! the same, the local variables taken out -/
def straightedgeref19_Most.e3 (K : Value → World → Prop) (h3 : Int → Bool → Nat → Int → Int → Option Addr → Nat → Nat → Option Addr → Nat → Nat → Int → World → Prop) (h6 : Int → Bool → Nat → Int → Int → Option Addr → Nat → Nat → Option Addr → Nat → Nat → Int → Int → World → Prop) (z1 : Int) (z2 : Bool) (k3 : Nat) (y3_0 : Int) (y3_1 : Int) (y3_2p : Option Addr) (y3_2n y3_2c : Nat) (z7p : Option Addr) (z7n z7c : Nat) (z8 : Int) (w : World) : Prop := br (decide (z8 < z1)) (h6 z1 z2 k3 y3_0 y3_1 y3_2p y3_2n y3_2c z7p z7n z7c z8 0 w) (straightedgeref05_Greatest.call [(.slice z7p z7n z7c)] w fun v1 w2 => Stay [k3] w w2 ∧ ∃ x3 : Nat, v1 = (.float .f64 x3) ∧ K (.float .f64 x3) w2)
def straightedgeref19_Most.e6 (K : Value → World → Prop) (h3 : Int → Bool → Nat → Int → Int → Option Addr → Nat → Nat → Option Addr → Nat → Nat → Int → World → Prop) (h6 : Int → Bool → Nat → Int → Int → Option Addr → Nat → Nat → Option Addr → Nat → Nat → Int → Int → World → Prop) (z1 : Int) (z2 : Bool) (k3 : Nat) (y3_0 : Int) (y3_1 : Int) (y3_2p : Option Addr) (y3_2n y3_2c : Nat) (z7p : Option Addr) (z7n z7c : Nat) (z8 : Int) (z9 : Int) (w : World) : Prop := br (decide (z9 < y3_0)) (br (!z2) (straightedgeref03_M_At.call [(.agg ⟨[(.int .i64 y3_0), (.int .i64 y3_1), (.slice y3_2p y3_2n y3_2c)]⟩), (.int .i64 z9), (.int .i64 z8)] w fun v9 w10 => Stay [k3] w w10 ∧ ∃ x11 : Nat, v9 = (.float .f64 x11) ∧ straightedgeref01_Abs.call [(.float .f64 x11)] w10 fun v12 w13 => Stay [k3] w10 w13 ∧ ∃ x14 : Nat, v12 = (.float .f64 x14) ∧ newB [(.float .f64 x14)] 38 w13 fun q15 w16 => Raw prog (Builtin.append_ #[22, 22] 22 ⟨[(.slice z7p z7n z7c), (.slice (some q15) 1 1)]⟩) w16 fun v17 w18 => Stay [k3] w16 w18 ∧ ∃ (a19 : Option Addr) (n20 c21 : Nat), v17 = .slice a19 n20 c21 ∧ h6 z1 z2 k3 y3_0 y3_1 y3_2p y3_2n y3_2c a19 n20 c21 z8 (IntKind.i64.wrap (z9 + 1)) w18) (br (decide (z9 ≤ z8)) (straightedgeref03_M_At.call [(.agg ⟨[(.int .i64 y3_0), (.int .i64 y3_1), (.slice y3_2p y3_2n y3_2c)]⟩), (.int .i64 z9), (.int .i64 z8)] w fun v28 w29 => Stay [k3] w w29 ∧ ∃ x30 : Nat, v28 = (.float .f64 x30) ∧ straightedgeref01_Abs.call [(.float .f64 x30)] w29 fun v31 w32 => Stay [k3] w29 w32 ∧ ∃ x33 : Nat, v31 = (.float .f64 x33) ∧ newB [(.float .f64 x33)] 38 w32 fun q34 w35 => Raw prog (Builtin.append_ #[22, 22] 22 ⟨[(.slice z7p z7n z7c), (.slice (some q34) 1 1)]⟩) w35 fun v36 w37 => Stay [k3] w35 w37 ∧ ∃ (a38 : Option Addr) (n39 c40 : Nat), v36 = .slice a38 n39 c40 ∧ h6 z1 z2 k3 y3_0 y3_1 y3_2p y3_2n y3_2c a38 n39 c40 z8 (IntKind.i64.wrap (z9 + 1)) w37) (h3 z1 z2 k3 y3_0 y3_1 y3_2p y3_2n y3_2c z7p z7n z7c (IntKind.i64.wrap (z8 + 1)) w))) (h3 z1 z2 k3 y3_0 y3_1 y3_2p y3_2n y3_2c z7p z7n z7c (IntKind.i64.wrap (z8 + 1)) w)
def straightedgeref19_Most.I (K : Value → World → Prop) : Nat → (Int → Bool → Nat → Int → Int → Option Addr → Nat → Nat → Option Addr → Nat → Nat → Int → World → Prop) × (Int → Bool → Nat → Int → Int → Option Addr → Nat → Nat → Option Addr → Nat → Nat → Int → Int → World → Prop)
  | 0 => (fun _ _ _ _ _ _ _ _ _ _ _ _ _ => False, fun _ _ _ _ _ _ _ _ _ _ _ _ _ _ => False)
  | fu + 1 => (straightedgeref19_Most.e3 K (straightedgeref19_Most.I K fu).1 (straightedgeref19_Most.I K fu).2, straightedgeref19_Most.e6 K (straightedgeref19_Most.I K fu).1 (straightedgeref19_Most.I K fu).2)
def straightedgeref19_Most.s (fu : Nat) (A0_0 : Int) (A0_1 : Int) (A0_2p : Option Addr) (A0_2n A0_2c : Nat) (A1 : Int) (A2 : Bool) (w : World) (K : Value → World → Prop) : Prop := ∀ (k3 : Nat) (w2 : World), k3 = w.heap.size → k3 < w2.heap.size → Ext w w2 → (straightedgeref19_Most.I K fu).1 A1 A2 k3 A0_0 A0_1 A0_2p A0_2n A0_2c none 0 0 0 w2
theorem straightedgeref19_Most.b3_s {K : Value → World → Prop} {x3 : Int → Bool → Option Addr → Option Addr → Nat → Nat → Int → World → Prop} {x6 : Int → Bool → Option Addr → Option Addr → Nat → Nat → Int → Int → World → Prop} {s3 : Int → Bool → Nat → Int → Int → Option Addr → Nat → Nat → Option Addr → Nat → Nat → Int → World → Prop} {s6 : Int → Bool → Nat → Int → Int → Option Addr → Nat → Nat → Option Addr → Nat → Nat → Int → Int → World → Prop} (i3 : ∀ {z1 : Int} {z2 : Bool} {q3 : Addr} {y3_0 : Int} {y3_1 : Int} {y3_2p : Option Addr} {y3_2n y3_2c : Nat} {z7p : Option Addr} {z7n z7c : Nat} {z8 : Int} {w : World}, s3 z1 z2 q3.block y3_0 y3_1 y3_2p y3_2n y3_2c z7p z7n z7c z8 w → St w [(q3, [(.int .i64 y3_0), (.int .i64 y3_1), (.slice y3_2p y3_2n y3_2c)])] → x3 z1 z2 (some q3) z7p z7n z7c z8 w) (i6 : ∀ {z1 : Int} {z2 : Bool} {q3 : Addr} {y3_0 : Int} {y3_1 : Int} {y3_2p : Option Addr} {y3_2n y3_2c : Nat} {z7p : Option Addr} {z7n z7c : Nat} {z8 : Int} {z9 : Int} {w : World}, s6 z1 z2 q3.block y3_0 y3_1 y3_2p y3_2n y3_2c z7p z7n z7c z8 z9 w → St w [(q3, [(.int .i64 y3_0), (.int .i64 y3_1), (.slice y3_2p y3_2n y3_2c)])] → x6 z1 z2 (some q3) z7p z7n z7c z8 z9 w) {z1 : Int} {z2 : Bool} {q3 : Addr} {y3_0 : Int} {y3_1 : Int} {y3_2p : Option Addr} {y3_2n y3_2c : Nat} {z7p : Option Addr} {z7n z7c : Nat} {z8 : Int} {w : World} (h : straightedgeref19_Most.e3 K s3 s6 z1 z2 q3.block y3_0 y3_1 y3_2p y3_2n y3_2c z7p z7n z7c z8 w) (st : St w [(q3, [(.int .i64 y3_0), (.int .i64 y3_1), (.slice y3_2p y3_2n y3_2c)])]) : straightedgeref19_Most.b3 K x3 x6 z1 z2 (some q3) z7p z7n z7c z8 w := by
  unfold straightedgeref19_Most.b3
  unfold straightedgeref19_Most.e3 at h
  refine br_mono (fun h => ?_) (fun h => ?_) h
  · exact i6 h (st.pick [0] (by decide))
  · refine CallF.mono h (fun v1 w2 h => ?_)
    obtain ⟨hK, h⟩ := h
    replace st := st.stay hK
    exact h
theorem straightedgeref19_Most.b6_s {K : Value → World → Prop} {x3 : Int → Bool → Option Addr → Option Addr → Nat → Nat → Int → World → Prop} {x6 : Int → Bool → Option Addr → Option Addr → Nat → Nat → Int → Int → World → Prop} {s3 : Int → Bool → Nat → Int → Int → Option Addr → Nat → Nat → Option Addr → Nat → Nat → Int → World → Prop} {s6 : Int → Bool → Nat → Int → Int → Option Addr → Nat → Nat → Option Addr → Nat → Nat → Int → Int → World → Prop} (i3 : ∀ {z1 : Int} {z2 : Bool} {q3 : Addr} {y3_0 : Int} {y3_1 : Int} {y3_2p : Option Addr} {y3_2n y3_2c : Nat} {z7p : Option Addr} {z7n z7c : Nat} {z8 : Int} {w : World}, s3 z1 z2 q3.block y3_0 y3_1 y3_2p y3_2n y3_2c z7p z7n z7c z8 w → St w [(q3, [(.int .i64 y3_0), (.int .i64 y3_1), (.slice y3_2p y3_2n y3_2c)])] → x3 z1 z2 (some q3) z7p z7n z7c z8 w) (i6 : ∀ {z1 : Int} {z2 : Bool} {q3 : Addr} {y3_0 : Int} {y3_1 : Int} {y3_2p : Option Addr} {y3_2n y3_2c : Nat} {z7p : Option Addr} {z7n z7c : Nat} {z8 : Int} {z9 : Int} {w : World}, s6 z1 z2 q3.block y3_0 y3_1 y3_2p y3_2n y3_2c z7p z7n z7c z8 z9 w → St w [(q3, [(.int .i64 y3_0), (.int .i64 y3_1), (.slice y3_2p y3_2n y3_2c)])] → x6 z1 z2 (some q3) z7p z7n z7c z8 z9 w) {z1 : Int} {z2 : Bool} {q3 : Addr} {y3_0 : Int} {y3_1 : Int} {y3_2p : Option Addr} {y3_2n y3_2c : Nat} {z7p : Option Addr} {z7n z7c : Nat} {z8 : Int} {z9 : Int} {w : World} (h : straightedgeref19_Most.e6 K s3 s6 z1 z2 q3.block y3_0 y3_1 y3_2p y3_2n y3_2c z7p z7n z7c z8 z9 w) (st : St w [(q3, [(.int .i64 y3_0), (.int .i64 y3_1), (.slice y3_2p y3_2n y3_2c)])]) : straightedgeref19_Most.b6 K x3 x6 z1 z2 (some q3) z7p z7n z7c z8 z9 w := by
  unfold straightedgeref19_Most.b6
  unfold straightedgeref19_Most.e6 at h
  refine ptrSome_intro rfl ?_
  refine rd_i64.bx 0 0 st rfl rfl rfl ?_
  refine br_mono (fun h => ?_) (fun h => ?_) h
  · refine br_mono (fun h => ?_) (fun h => ?_) h
    · refine ptrSome_intro rfl ?_
      refine rd_i64_i64_l.bx 0 0 st rfl rfl rfl rfl rfl ?_
      refine CallF.mono h (fun v9 w10 h => ?_)
      obtain ⟨hK, h⟩ := h
      replace st := st.stay hK
      obtain ⟨x11, h⟩ := h
      refine ⟨x11, ?_⟩
      refine And.imp_right (fun h => ?_) h
      refine CallF.mono h (fun v12 w13 h => ?_)
      obtain ⟨hK, h⟩ := h
      replace st := st.stay hK
      obtain ⟨x14, h⟩ := h
      refine ⟨x14, ?_⟩
      refine And.imp_right (fun h => ?_) h
      refine newB_mono st h (fun q15 w16 st h => ?_)
      refine Raw.mono h (fun v17 w18 h => ?_)
      obtain ⟨hK, h⟩ := h
      replace st := st.stay hK
      obtain ⟨a19, n20, c21, h⟩ := h
      refine ⟨a19, n20, c21, ?_⟩
      refine And.imp_right (fun h => ?_) h
      exact i6 h (st.pick [0] (by decide))
    · refine br_mono (fun h => ?_) (fun h => ?_) h
      · refine ptrSome_intro rfl ?_
        refine rd_i64_i64_l.bx 0 0 st rfl rfl rfl rfl rfl ?_
        refine CallF.mono h (fun v28 w29 h => ?_)
        obtain ⟨hK, h⟩ := h
        replace st := st.stay hK
        obtain ⟨x30, h⟩ := h
        refine ⟨x30, ?_⟩
        refine And.imp_right (fun h => ?_) h
        refine CallF.mono h (fun v31 w32 h => ?_)
        obtain ⟨hK, h⟩ := h
        replace st := st.stay hK
        obtain ⟨x33, h⟩ := h
        refine ⟨x33, ?_⟩
        refine And.imp_right (fun h => ?_) h
        refine newB_mono st h (fun q34 w35 st h => ?_)
        refine Raw.mono h (fun v36 w37 h => ?_)
        obtain ⟨hK, h⟩ := h
        replace st := st.stay hK
        obtain ⟨a38, n39, c40, h⟩ := h
        refine ⟨a38, n39, c40, ?_⟩
        refine And.imp_right (fun h => ?_) h
        exact i6 h (st.pick [0] (by decide))
      · exact i3 h (st.pick [0] (by decide))
  · exact i3 h (st.pick [0] (by decide))
theorem straightedgeref19_Most.H_s {K : Value → World → Prop} (fu : Nat) : (∀ {z1 : Int} {z2 : Bool} {q3 : Addr} {y3_0 : Int} {y3_1 : Int} {y3_2p : Option Addr} {y3_2n y3_2c : Nat} {z7p : Option Addr} {z7n z7c : Nat} {z8 : Int} {w : World}, (straightedgeref19_Most.I K fu).1 z1 z2 q3.block y3_0 y3_1 y3_2p y3_2n y3_2c z7p z7n z7c z8 w → St w [(q3, [(.int .i64 y3_0), (.int .i64 y3_1), (.slice y3_2p y3_2n y3_2c)])] → (straightedgeref19_Most.H K fu).1 z1 z2 (some q3) z7p z7n z7c z8 w) ∧ (∀ {z1 : Int} {z2 : Bool} {q3 : Addr} {y3_0 : Int} {y3_1 : Int} {y3_2p : Option Addr} {y3_2n y3_2c : Nat} {z7p : Option Addr} {z7n z7c : Nat} {z8 : Int} {z9 : Int} {w : World}, (straightedgeref19_Most.I K fu).2 z1 z2 q3.block y3_0 y3_1 y3_2p y3_2n y3_2c z7p z7n z7c z8 z9 w → St w [(q3, [(.int .i64 y3_0), (.int .i64 y3_1), (.slice y3_2p y3_2n y3_2c)])] → (straightedgeref19_Most.H K fu).2 z1 z2 (some q3) z7p z7n z7c z8 z9 w) := by
  induction fu with
  | zero => exact ⟨fun h _ => False.elim h, fun h _ => False.elim h⟩
  | succ fu ih => exact ⟨fun h st => straightedgeref19_Most.b3_s (K := K) (x3 := (straightedgeref19_Most.H K fu).1) (s3 := (straightedgeref19_Most.I K fu).1) (x6 := (straightedgeref19_Most.H K fu).2) (s6 := (straightedgeref19_Most.I K fu).2) ih.1 ih.2 h st, fun h st => straightedgeref19_Most.b6_s (K := K) (x3 := (straightedgeref19_Most.H K fu).1) (s3 := (straightedgeref19_Most.I K fu).1) (x6 := (straightedgeref19_Most.H K fu).2) (s6 := (straightedgeref19_Most.I K fu).2) ih.1 ih.2 h st⟩
theorem straightedgeref19_Most.os (fu : Nat) {A0_0 : Int} {A0_1 : Int} {A0_2p : Option Addr} {A0_2n A0_2c : Nat} {A1 : Int} {A2 : Bool} {w : World} {K : Value → World → Prop} (h : straightedgeref19_Most.s fu A0_0 A0_1 A0_2p A0_2n A0_2c A1 A2 w K) : straightedgeref19_Most.call [(.agg ⟨[(.int .i64 A0_0), (.int .i64 A0_1), (.slice A0_2p A0_2n A0_2c)]⟩), (.int .i64 A1), (.bool A2)] w K := by
  refine straightedgeref19_Most.ok fu ?_
  have st := St.nil w
  unfold straightedgeref19_Most.x
  unfold straightedgeref19_Most.s at h
  refine St.new (St.nil _) (fun q1 w2 hk hlt he st => ?_)
  replace h := h q1.block w2 hk hlt he
  exact (straightedgeref19_Most.H_s fu).1 h (st.pick [0] (by decide))

end Go.Proofs.Ytgdkahbnepafgaa

/-! ### AGref16 -/
/- The explicit forms of the functions of one package, and that the calls do what they say. Written by wip/tools/wk2.py. -/
set_option maxHeartbeats 4000000
set_option maxRecDepth 100000
set_option linter.unusedVariables false
namespace Go.Proofs.Ytgdkahbnepafgaa
open Go Go.Wk

/-! ### straightedge/straightedgeref16.Piv: function 11 -/
def straightedgeref16_Piv.b2 (K : Value → World → Prop) (h2 : Option Addr → Nat → Nat → Int → World → Prop) (z0p : Option Addr) (z0n z0c : Nat) (z3 : Int) (w : World) : Prop := br (decide (z3 < ((z0n : Nat) : Int))) (ptrSome z0p fun q1 => (0 : Int) ≤ z3 ∧ z3 < ((z0n : Nat) : Int) ∧ rd_i64 w (q1.add (Int.toNat z3)) fun i2 => br (decide (i2 < z3)) (K (.bool false) w) (ptrSome z0p fun q3 => (0 : Int) ≤ z3 ∧ z3 < ((z0n : Nat) : Int) ∧ rd_i64 w (q3.add (Int.toNat z3)) fun i4 => br (decide (i4 ≥ ((z0n : Nat) : Int))) (K (.bool false) w) (h2 z0p z0n z0c (IntKind.i64.wrap (z3 + 1)) w))) (K (.bool true) w)
def straightedgeref16_Piv.c2 (K : Value → World → Prop) : Nat → Option Addr → Nat → Nat → Int → World → Prop
  | 0 => fun _ _ _ _ _ => False
  | fu + 1 => straightedgeref16_Piv.b2 K (straightedgeref16_Piv.c2 K fu)
def straightedgeref16_Piv.x (fu : Nat) (A0p : Option Addr) (A0n A0c : Nat) (w : World) (K : Value → World → Prop) : Prop := straightedgeref16_Piv.c2 K fu A0p A0n A0c 0 w
def straightedgeref16_Piv.hd (K : Value → World → Prop) (n id : Nat) (t : List Value) (w : World) : Prop :=
  match id with
  | 2 => asL (t.getD 0 undef) fun z0p z0n z0c => asI .i64 (t.getD 3 undef) fun z3 => straightedgeref16_Piv.c2 K n z0p z0n z0c z3 w
  | _ => False
theorem straightedgeref16_Piv.t2 (K : Value → World → Prop) (n : Nat) (z0p : Option Addr) (z0n z0c : Nat) (z3 : Int) (u : Nat → Value) (w : World) (h : straightedgeref16_Piv.c2 K (n + 1) z0p z0n z0c z3 w) :
    exT prog [2] (straightedgeref16_Piv.hd K n) Try.f11 2 25 [(0, (.slice z0p z0n z0c)), (3, (.int .i64 z3))] u w K := Eq.mp (by kernel_rfl) h
theorem straightedgeref16_Piv.ok (fu : Nat) {A0p : Option Addr} {A0n A0c : Nat} {w : World} {K : Value → World → Prop} (h : straightedgeref16_Piv.x fu A0p A0n A0c w K) : straightedgeref16_Piv.call [(.slice A0p A0n A0c)] w K := by
  refine callF_of_ex (cuts := [2]) (H := straightedgeref16_Piv.hd K) (N := 25) Try.func11 rfl mixed (by kernel_rfl) ?_ ?_ ?_ rfl (n := fu) (Eq.mp (by kernel_rfl) h)
  · intro id hid; simp only [List.mem_cons, List.not_mem_nil, or_false] at hid; subst hid
    · exact (by kernel_rfl : (stacks (bodyOf Try.f11) []).filter (headIs 2) = [at_ (bodyOf Try.f11) 2])
  · intro id t w h
    unfold straightedgeref16_Piv.hd at h
    split at h
    · obtain ⟨z0p, z0n, z0c, _, h⟩ := asL_elim h
      obtain ⟨z3, _, h⟩ := asI_elim h
      exact h
    · exact h
  · intro n id hid t w hl h; simp only [List.mem_cons, List.not_mem_nil, or_false] at hid; subst hid
    · replace h : asL (t.getD 0 undef) fun z0p z0n z0c => asI .i64 (t.getD 3 undef) fun z3 => straightedgeref16_Piv.c2 K (n + 1) z0p z0n z0c z3 w := h
      obtain ⟨z0p, z0n, z0c, e0, h⟩ := asL_elim h
      obtain ⟨z3, e3, h⟩ := asI_elim h
      rw [mk_of hl [(0, (.slice z0p z0n z0c)), (3, (.int .i64 z3))] (by simp only [List.forall_mem_cons, List.not_mem_nil, false_implies, implies_true, and_true]; exact ⟨e0, e3⟩)]
      exact straightedgeref16_Piv.t2 K n z0p z0n z0c z3 _ w h

/-! ### straightedge/straightedgeref16.Parts: function 40 -/
def straightedgeref16_Parts.b3 (K : Value → World → Prop) (h3 : Option Addr → Option Addr → Option Addr → Option Addr → Option Addr → Int → World → Prop) (h6 : Option Addr → Option Addr → Option Addr → Option Addr → Option Addr → Int → Int → World → Prop) (z1 : Option Addr) (z2 : Option Addr) (z3 : Option Addr) (z4 : Option Addr) (z5 : Option Addr) (z6 : Int) (w : World) : Prop := ptrSome z1 fun q1 => rd_i64 w q1 fun i2 => br (decide (z6 < i2)) (h6 z1 z2 z3 z4 z5 z6 0 w) (∃ S4 : Nat → Prop, ptrSome z4 fun q5 => S4 q5.block ∧ rd_i64_i64_l w.drew q5 fun i6 i7 a8 n9 c10 => ptrSome z5 fun q11 => S4 q11.block ∧ rd_i64_i64_l w.drew q11 fun i12 i13 a14 n15 c16 => ptrSome z2 fun q17 => stPT q17 0 [(.int .i64 i6), (.int .i64 i7), (.slice a8 n9 c10)] w.drew fun w18 => KeptS S4 w.drew w18 ∧ ptrSome z3 fun q19 => stPT q19 0 [(.int .i64 i12), (.int .i64 i13), (.slice a14 n15 c16)] w18 fun w20 => ptrSome z2 fun q21 => rd_i64_i64_l w20 q21 fun i22 i23 a24 n25 c26 => ptrSome z3 fun q27 => rd_i64_i64_l w20 q27 fun i28 i29 a30 n31 c32 => K (.tuple ⟨[(.agg ⟨[(.int .i64 i22), (.int .i64 i23), (.slice a24 n25 c26)]⟩), (.agg ⟨[(.int .i64 i28), (.int .i64 i29), (.slice a30 n31 c32)]⟩)]⟩) w20)
def straightedgeref16_Parts.b6 (K : Value → World → Prop) (h3 : Option Addr → Option Addr → Option Addr → Option Addr → Option Addr → Int → World → Prop) (h6 : Option Addr → Option Addr → Option Addr → Option Addr → Option Addr → Int → Int → World → Prop) (z1 : Option Addr) (z2 : Option Addr) (z3 : Option Addr) (z4 : Option Addr) (z5 : Option Addr) (z6 : Int) (z7 : Int) (w : World) : Prop := ptrSome z1 fun q1 => rd_i64 w q1 fun i2 => br (decide (z7 < i2)) (br (decide (z6 > z7)) (ptrSome z4 fun q4 => rd_i64_i64_l w.drew q4 fun i5 i6 a7 n8 c9 => ptrSome z1 fun q10 => rd_i64_i64_l w.drew q10 fun i11 i12 a13 n14 c15 => straightedgeref03_M_At.call [(.agg ⟨[(.int .i64 i11), (.int .i64 i12), (.slice a13 n14 c15)]⟩), (.int .i64 z6), (.int .i64 z7)] w.drew fun v16 w17 => ∃ x18 : Nat, v16 = (.float .f64 x18) ∧ Kept w.drew w17 ∧ straightedgeref03_M_Set.call [(.agg ⟨[(.int .i64 i5), (.int .i64 i6), (.slice a7 n8 c9)]⟩), (.int .i64 z6), (.int .i64 z7), (.float .f64 x18)] w17 fun v19 w20 => v19 = (.tuple ⟨[]⟩) ∧ h6 z1 z2 z3 z4 z5 z6 (IntKind.i64.wrap (z7 + 1)) w20) (ptrSome z5 fun q22 => rd_i64_i64_l w.drew q22 fun i23 i24 a25 n26 c27 => ptrSome z1 fun q28 => rd_i64_i64_l w.drew q28 fun i29 i30 a31 n32 c33 => straightedgeref03_M_At.call [(.agg ⟨[(.int .i64 i29), (.int .i64 i30), (.slice a31 n32 c33)]⟩), (.int .i64 z6), (.int .i64 z7)] w.drew fun v34 w35 => ∃ x36 : Nat, v34 = (.float .f64 x36) ∧ Kept w.drew w35 ∧ straightedgeref03_M_Set.call [(.agg ⟨[(.int .i64 i23), (.int .i64 i24), (.slice a25 n26 c27)]⟩), (.int .i64 z6), (.int .i64 z7), (.float .f64 x36)] w35 fun v37 w38 => v37 = (.tuple ⟨[]⟩) ∧ h6 z1 z2 z3 z4 z5 z6 (IntKind.i64.wrap (z7 + 1)) w38)) (ptrSome z4 fun q39 => rd_i64_i64_l w q39 fun i40 i41 a42 n43 c44 => straightedgeref03_M_Set.call [(.agg ⟨[(.int .i64 i40), (.int .i64 i41), (.slice a42 n43 c44)]⟩), (.int .i64 z6), (.int .i64 z6), (.float .f64 4607182418800017408)] w fun v45 w46 => v45 = (.tuple ⟨[]⟩) ∧ h3 z1 z2 z3 z4 z5 (IntKind.i64.wrap (z6 + 1)) w46)
def straightedgeref16_Parts.H (K : Value → World → Prop) : Nat → (Option Addr → Option Addr → Option Addr → Option Addr → Option Addr → Int → World → Prop) × (Option Addr → Option Addr → Option Addr → Option Addr → Option Addr → Int → Int → World → Prop)
  | 0 => (fun _ _ _ _ _ _ _ => False, fun _ _ _ _ _ _ _ _ => False)
  | fu + 1 => (straightedgeref16_Parts.b3 K (straightedgeref16_Parts.H K fu).1 (straightedgeref16_Parts.H K fu).2, straightedgeref16_Parts.b6 K (straightedgeref16_Parts.H K fu).1 (straightedgeref16_Parts.H K fu).2)
def straightedgeref16_Parts.x (fu : Nat) (A0_0 : Int) (A0_1 : Int) (A0_2p : Option Addr) (A0_2n A0_2c : Nat) (w : World) (K : Value → World → Prop) : Prop := newB [(.int .i64 A0_0), (.int .i64 A0_1), (.slice A0_2p A0_2n A0_2c)] 29 w fun q1 w2 => newB [(.int .i64 0), (.int .i64 0), (.slice none 0 0)] 29 w2 fun q3 w4 => newB [(.int .i64 0), (.int .i64 0), (.slice none 0 0)] 29 w4 fun q5 w6 => rd_i64 w6.drew q1 fun i8 => rd_i64 w6.drew q1 fun i9 => rd_i64 w6.drew q1 fun i10 => rd_i64 w6.drew q1 fun i11 => (straightedgeref03_New.call [(.int .i64 i8), (.int .i64 i9)] w6.drew fun v12 w13 => ∃ i14 : Int, ∃ i15 : Int, ∃ (a16 : Option Addr) (n17 c18 : Nat), v12 = (.agg ⟨[(.int .i64 i14), (.int .i64 i15), (.slice a16 n17 c18)]⟩) ∧ Kept w6.drew w13 ∧ (straightedgeref03_New.call [(.int .i64 i10), (.int .i64 i11)] w13 fun v19 w20 => ∃ i21 : Int, ∃ i22 : Int, ∃ (a23 : Option Addr) (n24 c25 : Nat), v19 = (.agg ⟨[(.int .i64 i21), (.int .i64 i22), (.slice a23 n24 c25)]⟩) ∧ (newB [(.int .i64 0), (.int .i64 0), (.slice none 0 0)] 29 w20 fun q26 w27 => Kept w20 w27 ∧ newB [(.int .i64 0), (.int .i64 0), (.slice none 0 0)] 29 w27 fun q28 w29 => Kept w27 w29 ∧ stPT q26 0 [(.int .i64 i14), (.int .i64 i15), (.slice a16 n17 c18)] w29 fun w30 => stPT q28 0 [(.int .i64 i21), (.int .i64 i22), (.slice a23 n24 c25)] w30 fun w31 => (straightedgeref16_Parts.H K fu).1 (some q1) (some q3) (some q5) (some q26) (some q28) 0 w31) ∧ (newB [(.int .i64 0), (.int .i64 0), (.slice none 0 0)] 29 w20 fun q32 w33 => Kept w20 w33 ∧ newB [(.int .i64 0), (.int .i64 0), (.slice none 0 0)] 29 w33 fun q34 w35 => Kept w33 w35 ∧ stPT q34 0 [(.int .i64 i14), (.int .i64 i15), (.slice a16 n17 c18)] w35 fun w36 => stPT q32 0 [(.int .i64 i21), (.int .i64 i22), (.slice a23 n24 c25)] w36 fun w37 => (straightedgeref16_Parts.H K fu).1 (some q1) (some q3) (some q5) (some q34) (some q32) 0 w37)) ∧ (newB [(.int .i64 0), (.int .i64 0), (.slice none 0 0)] 29 w13 fun q38 w39 => Kept w13 w39 ∧ (straightedgeref03_New.call [(.int .i64 i10), (.int .i64 i11)] w39 fun v40 w41 => ∃ i42 : Int, ∃ i43 : Int, ∃ (a44 : Option Addr) (n45 c46 : Nat), v40 = (.agg ⟨[(.int .i64 i42), (.int .i64 i43), (.slice a44 n45 c46)]⟩) ∧ newB [(.int .i64 0), (.int .i64 0), (.slice none 0 0)] 29 w41 fun q47 w48 => Kept w41 w48 ∧ stPT q38 0 [(.int .i64 i14), (.int .i64 i15), (.slice a16 n17 c18)] w48 fun w49 => stPT q47 0 [(.int .i64 i42), (.int .i64 i43), (.slice a44 n45 c46)] w49 fun w50 => (straightedgeref16_Parts.H K fu).1 (some q1) (some q3) (some q5) (some q38) (some q47) 0 w50) ∧ (newB [(.int .i64 0), (.int .i64 0), (.slice none 0 0)] 29 w39 fun q51 w52 => Kept w39 w52 ∧ straightedgeref03_New.call [(.int .i64 i10), (.int .i64 i11)] w52 fun v53 w54 => ∃ i55 : Int, ∃ i56 : Int, ∃ (a57 : Option Addr) (n58 c59 : Nat), v53 = (.agg ⟨[(.int .i64 i55), (.int .i64 i56), (.slice a57 n58 c59)]⟩) ∧ stPT q38 0 [(.int .i64 i14), (.int .i64 i15), (.slice a16 n17 c18)] w54 fun w60 => stPT q51 0 [(.int .i64 i55), (.int .i64 i56), (.slice a57 n58 c59)] w60 fun w61 => (straightedgeref16_Parts.H K fu).1 (some q1) (some q3) (some q5) (some q38) (some q51) 0 w61)) ∧ (newB [(.int .i64 0), (.int .i64 0), (.slice none 0 0)] 29 w13 fun q62 w63 => Kept w13 w63 ∧ (straightedgeref03_New.call [(.int .i64 i10), (.int .i64 i11)] w63 fun v64 w65 => ∃ i66 : Int, ∃ i67 : Int, ∃ (a68 : Option Addr) (n69 c70 : Nat), v64 = (.agg ⟨[(.int .i64 i66), (.int .i64 i67), (.slice a68 n69 c70)]⟩) ∧ newB [(.int .i64 0), (.int .i64 0), (.slice none 0 0)] 29 w65 fun q71 w72 => Kept w65 w72 ∧ stPT q71 0 [(.int .i64 i14), (.int .i64 i15), (.slice a16 n17 c18)] w72 fun w73 => stPT q62 0 [(.int .i64 i66), (.int .i64 i67), (.slice a68 n69 c70)] w73 fun w74 => (straightedgeref16_Parts.H K fu).1 (some q1) (some q3) (some q5) (some q71) (some q62) 0 w74) ∧ (newB [(.int .i64 0), (.int .i64 0), (.slice none 0 0)] 29 w63 fun q75 w76 => Kept w63 w76 ∧ straightedgeref03_New.call [(.int .i64 i10), (.int .i64 i11)] w76 fun v77 w78 => ∃ i79 : Int, ∃ i80 : Int, ∃ (a81 : Option Addr) (n82 c83 : Nat), v77 = (.agg ⟨[(.int .i64 i79), (.int .i64 i80), (.slice a81 n82 c83)]⟩) ∧ stPT q75 0 [(.int .i64 i14), (.int .i64 i15), (.slice a16 n17 c18)] w78 fun w84 => stPT q62 0 [(.int .i64 i79), (.int .i64 i80), (.slice a81 n82 c83)] w84 fun w85 => (straightedgeref16_Parts.H K fu).1 (some q1) (some q3) (some q5) (some q75) (some q62) 0 w85))) ∧ (newB [(.int .i64 0), (.int .i64 0), (.slice none 0 0)] 29 w6.drew fun q86 w87 => Kept w6.drew w87 ∧ (straightedgeref03_New.call [(.int .i64 i8), (.int .i64 i9)] w87 fun v88 w89 => ∃ i90 : Int, ∃ i91 : Int, ∃ (a92 : Option Addr) (n93 c94 : Nat), v88 = (.agg ⟨[(.int .i64 i90), (.int .i64 i91), (.slice a92 n93 c94)]⟩) ∧ Kept w87 w89 ∧ (straightedgeref03_New.call [(.int .i64 i10), (.int .i64 i11)] w89 fun v95 w96 => ∃ i97 : Int, ∃ i98 : Int, ∃ (a99 : Option Addr) (n100 c101 : Nat), v95 = (.agg ⟨[(.int .i64 i97), (.int .i64 i98), (.slice a99 n100 c101)]⟩) ∧ newB [(.int .i64 0), (.int .i64 0), (.slice none 0 0)] 29 w96 fun q102 w103 => Kept w96 w103 ∧ stPT q86 0 [(.int .i64 i90), (.int .i64 i91), (.slice a92 n93 c94)] w103 fun w104 => stPT q102 0 [(.int .i64 i97), (.int .i64 i98), (.slice a99 n100 c101)] w104 fun w105 => (straightedgeref16_Parts.H K fu).1 (some q1) (some q3) (some q5) (some q86) (some q102) 0 w105) ∧ (newB [(.int .i64 0), (.int .i64 0), (.slice none 0 0)] 29 w89 fun q106 w107 => Kept w89 w107 ∧ straightedgeref03_New.call [(.int .i64 i10), (.int .i64 i11)] w107 fun v108 w109 => ∃ i110 : Int, ∃ i111 : Int, ∃ (a112 : Option Addr) (n113 c114 : Nat), v108 = (.agg ⟨[(.int .i64 i110), (.int .i64 i111), (.slice a112 n113 c114)]⟩) ∧ stPT q86 0 [(.int .i64 i90), (.int .i64 i91), (.slice a92 n93 c94)] w109 fun w115 => stPT q106 0 [(.int .i64 i110), (.int .i64 i111), (.slice a112 n113 c114)] w115 fun w116 => (straightedgeref16_Parts.H K fu).1 (some q1) (some q3) (some q5) (some q86) (some q106) 0 w116)) ∧ (newB [(.int .i64 0), (.int .i64 0), (.slice none 0 0)] 29 w87 fun q117 w118 => Kept w87 w118 ∧ straightedgeref03_New.call [(.int .i64 i8), (.int .i64 i9)] w118 fun v119 w120 => ∃ i121 : Int, ∃ i122 : Int, ∃ (a123 : Option Addr) (n124 c125 : Nat), v119 = (.agg ⟨[(.int .i64 i121), (.int .i64 i122), (.slice a123 n124 c125)]⟩) ∧ Kept w118 w120 ∧ straightedgeref03_New.call [(.int .i64 i10), (.int .i64 i11)] w120 fun v126 w127 => ∃ i128 : Int, ∃ i129 : Int, ∃ (a130 : Option Addr) (n131 c132 : Nat), v126 = (.agg ⟨[(.int .i64 i128), (.int .i64 i129), (.slice a130 n131 c132)]⟩) ∧ stPT q86 0 [(.int .i64 i121), (.int .i64 i122), (.slice a123 n124 c125)] w127 fun w133 => stPT q117 0 [(.int .i64 i128), (.int .i64 i129), (.slice a130 n131 c132)] w133 fun w134 => (straightedgeref16_Parts.H K fu).1 (some q1) (some q3) (some q5) (some q86) (some q117) 0 w134)) ∧ (newB [(.int .i64 0), (.int .i64 0), (.slice none 0 0)] 29 w6.drew fun q135 w136 => Kept w6.drew w136 ∧ (straightedgeref03_New.call [(.int .i64 i8), (.int .i64 i9)] w136 fun v137 w138 => ∃ i139 : Int, ∃ i140 : Int, ∃ (a141 : Option Addr) (n142 c143 : Nat), v137 = (.agg ⟨[(.int .i64 i139), (.int .i64 i140), (.slice a141 n142 c143)]⟩) ∧ Kept w136 w138 ∧ (straightedgeref03_New.call [(.int .i64 i10), (.int .i64 i11)] w138 fun v144 w145 => ∃ i146 : Int, ∃ i147 : Int, ∃ (a148 : Option Addr) (n149 c150 : Nat), v144 = (.agg ⟨[(.int .i64 i146), (.int .i64 i147), (.slice a148 n149 c150)]⟩) ∧ newB [(.int .i64 0), (.int .i64 0), (.slice none 0 0)] 29 w145 fun q151 w152 => Kept w145 w152 ∧ stPT q151 0 [(.int .i64 i139), (.int .i64 i140), (.slice a141 n142 c143)] w152 fun w153 => stPT q135 0 [(.int .i64 i146), (.int .i64 i147), (.slice a148 n149 c150)] w153 fun w154 => (straightedgeref16_Parts.H K fu).1 (some q1) (some q3) (some q5) (some q151) (some q135) 0 w154) ∧ (newB [(.int .i64 0), (.int .i64 0), (.slice none 0 0)] 29 w138 fun q155 w156 => Kept w138 w156 ∧ straightedgeref03_New.call [(.int .i64 i10), (.int .i64 i11)] w156 fun v157 w158 => ∃ i159 : Int, ∃ i160 : Int, ∃ (a161 : Option Addr) (n162 c163 : Nat), v157 = (.agg ⟨[(.int .i64 i159), (.int .i64 i160), (.slice a161 n162 c163)]⟩) ∧ stPT q155 0 [(.int .i64 i139), (.int .i64 i140), (.slice a141 n142 c143)] w158 fun w164 => stPT q135 0 [(.int .i64 i159), (.int .i64 i160), (.slice a161 n162 c163)] w164 fun w165 => (straightedgeref16_Parts.H K fu).1 (some q1) (some q3) (some q5) (some q155) (some q135) 0 w165)) ∧ (newB [(.int .i64 0), (.int .i64 0), (.slice none 0 0)] 29 w136 fun q166 w167 => Kept w136 w167 ∧ straightedgeref03_New.call [(.int .i64 i8), (.int .i64 i9)] w167 fun v168 w169 => ∃ i170 : Int, ∃ i171 : Int, ∃ (a172 : Option Addr) (n173 c174 : Nat), v168 = (.agg ⟨[(.int .i64 i170), (.int .i64 i171), (.slice a172 n173 c174)]⟩) ∧ Kept w167 w169 ∧ straightedgeref03_New.call [(.int .i64 i10), (.int .i64 i11)] w169 fun v175 w176 => ∃ i177 : Int, ∃ i178 : Int, ∃ (a179 : Option Addr) (n180 c181 : Nat), v175 = (.agg ⟨[(.int .i64 i177), (.int .i64 i178), (.slice a179 n180 c181)]⟩) ∧ stPT q166 0 [(.int .i64 i170), (.int .i64 i171), (.slice a172 n173 c174)] w176 fun w182 => stPT q135 0 [(.int .i64 i177), (.int .i64 i178), (.slice a179 n180 c181)] w182 fun w183 => (straightedgeref16_Parts.H K fu).1 (some q1) (some q3) (some q5) (some q166) (some q135) 0 w183))
def straightedgeref16_Parts.hd (K : Value → World → Prop) (n id : Nat) (t : List Value) (w : World) : Prop :=
  match id with
  | 3 => asP (t.getD 1 undef) fun z1 => asP (t.getD 2 undef) fun z2 => asP (t.getD 3 undef) fun z3 => asP (t.getD 4 undef) fun z4 => asP (t.getD 5 undef) fun z5 => asI .i64 (t.getD 6 undef) fun z6 => (straightedgeref16_Parts.H K n).1 z1 z2 z3 z4 z5 z6 w
  | 6 => asP (t.getD 1 undef) fun z1 => asP (t.getD 2 undef) fun z2 => asP (t.getD 3 undef) fun z3 => asP (t.getD 4 undef) fun z4 => asP (t.getD 5 undef) fun z5 => asI .i64 (t.getD 6 undef) fun z6 => asI .i64 (t.getD 7 undef) fun z7 => (straightedgeref16_Parts.H K n).2 z1 z2 z3 z4 z5 z6 z7 w
  | _ => False
theorem straightedgeref16_Parts.t3 (K : Value → World → Prop) (n : Nat) (z1 : Option Addr) (z2 : Option Addr) (z3 : Option Addr) (z4 : Option Addr) (z5 : Option Addr) (z6 : Int) (u : Nat → Value) (w : World) (h : (straightedgeref16_Parts.H K (n + 1)).1 z1 z2 z3 z4 z5 z6 w) :
    exT prog [3, 6] (straightedgeref16_Parts.hd K n) Try.f40 3 55 [(1, (.pointer z1)), (2, (.pointer z2)), (3, (.pointer z3)), (4, (.pointer z4)), (5, (.pointer z5)), (6, (.int .i64 z6))] u w K := Eq.mp (by kernel_rfl) h
theorem straightedgeref16_Parts.t6 (K : Value → World → Prop) (n : Nat) (z1 : Option Addr) (z2 : Option Addr) (z3 : Option Addr) (z4 : Option Addr) (z5 : Option Addr) (z6 : Int) (z7 : Int) (u : Nat → Value) (w : World) (h : (straightedgeref16_Parts.H K (n + 1)).2 z1 z2 z3 z4 z5 z6 z7 w) :
    exT prog [3, 6] (straightedgeref16_Parts.hd K n) Try.f40 6 55 [(1, (.pointer z1)), (2, (.pointer z2)), (3, (.pointer z3)), (4, (.pointer z4)), (5, (.pointer z5)), (6, (.int .i64 z6)), (7, (.int .i64 z7))] u w K := Eq.mp (by kernel_rfl) h
theorem straightedgeref16_Parts.ok (fu : Nat) {A0_0 : Int} {A0_1 : Int} {A0_2p : Option Addr} {A0_2n A0_2c : Nat} {w : World} {K : Value → World → Prop} (h : straightedgeref16_Parts.x fu A0_0 A0_1 A0_2p A0_2n A0_2c w K) : straightedgeref16_Parts.call [(.agg ⟨[(.int .i64 A0_0), (.int .i64 A0_1), (.slice A0_2p A0_2n A0_2c)]⟩)] w K := by
  refine callF_of_ex (cuts := [3, 6]) (H := straightedgeref16_Parts.hd K) (N := 55) Try.func40 rfl mixed (by kernel_rfl) ?_ ?_ ?_ rfl (n := fu) (Eq.mp (by kernel_rfl) h)
  · intro id hid; simp only [List.mem_cons, List.not_mem_nil, or_false] at hid; rcases hid with rfl | rfl
    · exact (by kernel_rfl : (stacks (bodyOf Try.f40) []).filter (headIs 3) = [at_ (bodyOf Try.f40) 3])
    · exact (by kernel_rfl : (stacks (bodyOf Try.f40) []).filter (headIs 6) = [at_ (bodyOf Try.f40) 6])
  · intro id t w h
    unfold straightedgeref16_Parts.hd at h
    split at h
    · obtain ⟨z1, _, h⟩ := asP_elim h
      obtain ⟨z2, _, h⟩ := asP_elim h
      obtain ⟨z3, _, h⟩ := asP_elim h
      obtain ⟨z4, _, h⟩ := asP_elim h
      obtain ⟨z5, _, h⟩ := asP_elim h
      obtain ⟨z6, _, h⟩ := asI_elim h
      exact h
    · obtain ⟨z1, _, h⟩ := asP_elim h
      obtain ⟨z2, _, h⟩ := asP_elim h
      obtain ⟨z3, _, h⟩ := asP_elim h
      obtain ⟨z4, _, h⟩ := asP_elim h
      obtain ⟨z5, _, h⟩ := asP_elim h
      obtain ⟨z6, _, h⟩ := asI_elim h
      obtain ⟨z7, _, h⟩ := asI_elim h
      exact h
    · exact h
  · intro n id hid t w hl h; simp only [List.mem_cons, List.not_mem_nil, or_false] at hid; rcases hid with rfl | rfl
    · replace h : asP (t.getD 1 undef) fun z1 => asP (t.getD 2 undef) fun z2 => asP (t.getD 3 undef) fun z3 => asP (t.getD 4 undef) fun z4 => asP (t.getD 5 undef) fun z5 => asI .i64 (t.getD 6 undef) fun z6 => (straightedgeref16_Parts.H K (n + 1)).1 z1 z2 z3 z4 z5 z6 w := h
      obtain ⟨z1, e1, h⟩ := asP_elim h
      obtain ⟨z2, e2, h⟩ := asP_elim h
      obtain ⟨z3, e3, h⟩ := asP_elim h
      obtain ⟨z4, e4, h⟩ := asP_elim h
      obtain ⟨z5, e5, h⟩ := asP_elim h
      obtain ⟨z6, e6, h⟩ := asI_elim h
      rw [mk_of hl [(1, (.pointer z1)), (2, (.pointer z2)), (3, (.pointer z3)), (4, (.pointer z4)), (5, (.pointer z5)), (6, (.int .i64 z6))] (by simp only [List.forall_mem_cons, List.not_mem_nil, false_implies, implies_true, and_true]; exact ⟨e1, e2, e3, e4, e5, e6⟩)]
      exact straightedgeref16_Parts.t3 K n z1 z2 z3 z4 z5 z6 _ w h
    · replace h : asP (t.getD 1 undef) fun z1 => asP (t.getD 2 undef) fun z2 => asP (t.getD 3 undef) fun z3 => asP (t.getD 4 undef) fun z4 => asP (t.getD 5 undef) fun z5 => asI .i64 (t.getD 6 undef) fun z6 => asI .i64 (t.getD 7 undef) fun z7 => (straightedgeref16_Parts.H K (n + 1)).2 z1 z2 z3 z4 z5 z6 z7 w := h
      obtain ⟨z1, e1, h⟩ := asP_elim h
      obtain ⟨z2, e2, h⟩ := asP_elim h
      obtain ⟨z3, e3, h⟩ := asP_elim h
      obtain ⟨z4, e4, h⟩ := asP_elim h
      obtain ⟨z5, e5, h⟩ := asP_elim h
      obtain ⟨z6, e6, h⟩ := asI_elim h
      obtain ⟨z7, e7, h⟩ := asI_elim h
      rw [mk_of hl [(1, (.pointer z1)), (2, (.pointer z2)), (3, (.pointer z3)), (4, (.pointer z4)), (5, (.pointer z5)), (6, (.int .i64 z6)), (7, (.int .i64 z7))] (by simp only [List.forall_mem_cons, List.not_mem_nil, false_implies, implies_true, and_true]; exact ⟨e1, e2, e3, e4, e5, e6, e7⟩)]
      exact straightedgeref16_Parts.t6 K n z1 z2 z3 z4 z5 z6 z7 _ w h
/-! the same, the local variables taken out -/
def straightedgeref16_Parts.e3 (K : Value → World → Prop) (h3 : Nat → Int → Int → Option Addr → Nat → Nat → Nat → Int → Int → Option Addr → Nat → Nat → Nat → Int → Int → Option Addr → Nat → Nat → Nat → Int → Int → Option Addr → Nat → Nat → Nat → Int → Int → Option Addr → Nat → Nat → Int → World → Prop) (h6 : Nat → Int → Int → Option Addr → Nat → Nat → Nat → Int → Int → Option Addr → Nat → Nat → Nat → Int → Int → Option Addr → Nat → Nat → Nat → Int → Int → Option Addr → Nat → Nat → Nat → Int → Int → Option Addr → Nat → Nat → Int → Int → World → Prop) (k1 : Nat) (y1_0 : Int) (y1_1 : Int) (y1_2p : Option Addr) (y1_2n y1_2c : Nat) (k2 : Nat) (y2_0 : Int) (y2_1 : Int) (y2_2p : Option Addr) (y2_2n y2_2c : Nat) (k3 : Nat) (y3_0 : Int) (y3_1 : Int) (y3_2p : Option Addr) (y3_2n y3_2c : Nat) (k4 : Nat) (y4_0 : Int) (y4_1 : Int) (y4_2p : Option Addr) (y4_2n y4_2c : Nat) (k5 : Nat) (y5_0 : Int) (y5_1 : Int) (y5_2p : Option Addr) (y5_2n y5_2c : Nat) (z6 : Int) (w : World) : Prop := br (decide (z6 < y1_0)) (h6 k1 y1_0 y1_1 y1_2p y1_2n y1_2c k2 y2_0 y2_1 y2_2p y2_2n y2_2c k3 y3_0 y3_1 y3_2p y3_2n y3_2c k4 y4_0 y4_1 y4_2p y4_2n y4_2c k5 y5_0 y5_1 y5_2p y5_2n y5_2c z6 0 w) (∀ w18 : World, Exc k2 w.drew w18 → ∀ w20 : World, Exc k3 w18 w20 → K (.tuple ⟨[(.agg ⟨[(.int .i64 y4_0), (.int .i64 y4_1), (.slice y4_2p y4_2n y4_2c)]⟩), (.agg ⟨[(.int .i64 y5_0), (.int .i64 y5_1), (.slice y5_2p y5_2n y5_2c)]⟩)]⟩) w20)
def straightedgeref16_Parts.e6 (K : Value → World → Prop) (h3 : Nat → Int → Int → Option Addr → Nat → Nat → Nat → Int → Int → Option Addr → Nat → Nat → Nat → Int → Int → Option Addr → Nat → Nat → Nat → Int → Int → Option Addr → Nat → Nat → Nat → Int → Int → Option Addr → Nat → Nat → Int → World → Prop) (h6 : Nat → Int → Int → Option Addr → Nat → Nat → Nat → Int → Int → Option Addr → Nat → Nat → Nat → Int → Int → Option Addr → Nat → Nat → Nat → Int → Int → Option Addr → Nat → Nat → Nat → Int → Int → Option Addr → Nat → Nat → Int → Int → World → Prop) (k1 : Nat) (y1_0 : Int) (y1_1 : Int) (y1_2p : Option Addr) (y1_2n y1_2c : Nat) (k2 : Nat) (y2_0 : Int) (y2_1 : Int) (y2_2p : Option Addr) (y2_2n y2_2c : Nat) (k3 : Nat) (y3_0 : Int) (y3_1 : Int) (y3_2p : Option Addr) (y3_2n y3_2c : Nat) (k4 : Nat) (y4_0 : Int) (y4_1 : Int) (y4_2p : Option Addr) (y4_2n y4_2c : Nat) (k5 : Nat) (y5_0 : Int) (y5_1 : Int) (y5_2p : Option Addr) (y5_2n y5_2c : Nat) (z6 : Int) (z7 : Int) (w : World) : Prop := br (decide (z7 < y1_0)) (br (decide (z6 > z7)) (straightedgeref03_M_At.call [(.agg ⟨[(.int .i64 y1_0), (.int .i64 y1_1), (.slice y1_2p y1_2n y1_2c)]⟩), (.int .i64 z6), (.int .i64 z7)] w.drew fun v16 w17 => Stay [k1, k2, k3, k4, k5] w.drew w17 ∧ ∃ x18 : Nat, v16 = (.float .f64 x18) ∧ Kept w.drew w17 ∧ straightedgeref03_M_Set.call [(.agg ⟨[(.int .i64 y4_0), (.int .i64 y4_1), (.slice y4_2p y4_2n y4_2c)]⟩), (.int .i64 z6), (.int .i64 z7), (.float .f64 x18)] w17 fun v19 w20 => Stay [k1, k2, k3, k4, k5] w17 w20 ∧ v19 = (.tuple ⟨[]⟩) ∧ h6 k1 y1_0 y1_1 y1_2p y1_2n y1_2c k2 y2_0 y2_1 y2_2p y2_2n y2_2c k3 y3_0 y3_1 y3_2p y3_2n y3_2c k4 y4_0 y4_1 y4_2p y4_2n y4_2c k5 y5_0 y5_1 y5_2p y5_2n y5_2c z6 (IntKind.i64.wrap (z7 + 1)) w20) (straightedgeref03_M_At.call [(.agg ⟨[(.int .i64 y1_0), (.int .i64 y1_1), (.slice y1_2p y1_2n y1_2c)]⟩), (.int .i64 z6), (.int .i64 z7)] w.drew fun v34 w35 => Stay [k1, k2, k3, k4, k5] w.drew w35 ∧ ∃ x36 : Nat, v34 = (.float .f64 x36) ∧ Kept w.drew w35 ∧ straightedgeref03_M_Set.call [(.agg ⟨[(.int .i64 y5_0), (.int .i64 y5_1), (.slice y5_2p y5_2n y5_2c)]⟩), (.int .i64 z6), (.int .i64 z7), (.float .f64 x36)] w35 fun v37 w38 => Stay [k1, k2, k3, k4, k5] w35 w38 ∧ v37 = (.tuple ⟨[]⟩) ∧ h6 k1 y1_0 y1_1 y1_2p y1_2n y1_2c k2 y2_0 y2_1 y2_2p y2_2n y2_2c k3 y3_0 y3_1 y3_2p y3_2n y3_2c k4 y4_0 y4_1 y4_2p y4_2n y4_2c k5 y5_0 y5_1 y5_2p y5_2n y5_2c z6 (IntKind.i64.wrap (z7 + 1)) w38)) (straightedgeref03_M_Set.call [(.agg ⟨[(.int .i64 y4_0), (.int .i64 y4_1), (.slice y4_2p y4_2n y4_2c)]⟩), (.int .i64 z6), (.int .i64 z6), (.float .f64 4607182418800017408)] w fun v45 w46 => Stay [k1, k2, k3, k4, k5] w w46 ∧ v45 = (.tuple ⟨[]⟩) ∧ h3 k1 y1_0 y1_1 y1_2p y1_2n y1_2c k2 y2_0 y2_1 y2_2p y2_2n y2_2c k3 y3_0 y3_1 y3_2p y3_2n y3_2c k4 y4_0 y4_1 y4_2p y4_2n y4_2c k5 y5_0 y5_1 y5_2p y5_2n y5_2c (IntKind.i64.wrap (z6 + 1)) w46)
def straightedgeref16_Parts.I (K : Value → World → Prop) : Nat → (Nat → Int → Int → Option Addr → Nat → Nat → Nat → Int → Int → Option Addr → Nat → Nat → Nat → Int → Int → Option Addr → Nat → Nat → Nat → Int → Int → Option Addr → Nat → Nat → Nat → Int → Int → Option Addr → Nat → Nat → Int → World → Prop) × (Nat → Int → Int → Option Addr → Nat → Nat → Nat → Int → Int → Option Addr → Nat → Nat → Nat → Int → Int → Option Addr → Nat → Nat → Nat → Int → Int → Option Addr → Nat → Nat → Nat → Int → Int → Option Addr → Nat → Nat → Int → Int → World → Prop)
  | 0 => (fun _ _ _ _ _ _ _ _ _ _ _ _ _ _ _ _ _ _ _ _ _ _ _ _ _ _ _ _ _ _ _ _ => False, fun _ _ _ _ _ _ _ _ _ _ _ _ _ _ _ _ _ _ _ _ _ _ _ _ _ _ _ _ _ _ _ _ _ => False)
  | fu + 1 => (straightedgeref16_Parts.e3 K (straightedgeref16_Parts.I K fu).1 (straightedgeref16_Parts.I K fu).2, straightedgeref16_Parts.e6 K (straightedgeref16_Parts.I K fu).1 (straightedgeref16_Parts.I K fu).2)
def straightedgeref16_Parts.s (fu : Nat) (A0_0 : Int) (A0_1 : Int) (A0_2p : Option Addr) (A0_2n A0_2c : Nat) (w : World) (K : Value → World → Prop) : Prop := ∀ (k3 : Nat) (w2 : World), k3 = w.heap.size → k3 < w2.heap.size → Ext w w2 → ∀ (k7 : Nat) (w6 : World), k7 = w2.heap.size → k7 < w6.heap.size → Ext w2 w6 → ∀ (k11 : Nat) (w10 : World), k11 = w6.heap.size → k11 < w10.heap.size → Ext w6 w10 → ∀ w18 : World, Ext w10.drew w18 → straightedgeref03_New.call [(.int .i64 A0_0), (.int .i64 A0_0)] w18 fun v19 w20 => Ext w18 w20 ∧ ∃ i21 : Int, ∃ i22 : Int, ∃ (a23 : Option Addr) (n24 c25 : Nat), v19 = (.agg ⟨[(.int .i64 i21), (.int .i64 i22), (.slice a23 n24 c25)]⟩) ∧ ∀ w26 : World, Ext w20 w26 → straightedgeref03_New.call [(.int .i64 A0_0), (.int .i64 A0_0)] w26 fun v27 w28 => Ext w26 w28 ∧ ∃ i29 : Int, ∃ i30 : Int, ∃ (a31 : Option Addr) (n32 c33 : Nat), v27 = (.agg ⟨[(.int .i64 i29), (.int .i64 i30), (.slice a31 n32 c33)]⟩) ∧ ∀ w34 : World, Ext w28 w34 → ∀ k36 : Nat, w10.drew.heap.size ≤ k36 → k36 < w34.heap.size → (k36 < w18.heap.size ∨ w20.heap.size ≤ k36) → (k36 < w26.heap.size ∨ w28.heap.size ≤ k36) → ∀ k39 : Nat, w10.drew.heap.size ≤ k39 → k39 < w34.heap.size → (k39 < w18.heap.size ∨ w20.heap.size ≤ k39) → (k39 < w26.heap.size ∨ w28.heap.size ≤ k39) → k36 ≠ k39 → ∀ w41 : World, Exc k36 w34 w41 → ∀ w42 : World, Exc k39 w41 w42 → (straightedgeref16_Parts.I K fu).1 k3 A0_0 A0_1 A0_2p A0_2n A0_2c k7 0 0 none 0 0 k11 0 0 none 0 0 k36 i21 i22 a23 n24 c25 k39 i29 i30 a31 n32 c33 0 w42
theorem straightedgeref16_Parts.b3_s {K : Value → World → Prop} {x3 : Option Addr → Option Addr → Option Addr → Option Addr → Option Addr → Int → World → Prop} {x6 : Option Addr → Option Addr → Option Addr → Option Addr → Option Addr → Int → Int → World → Prop} {s3 : Nat → Int → Int → Option Addr → Nat → Nat → Nat → Int → Int → Option Addr → Nat → Nat → Nat → Int → Int → Option Addr → Nat → Nat → Nat → Int → Int → Option Addr → Nat → Nat → Nat → Int → Int → Option Addr → Nat → Nat → Int → World → Prop} {s6 : Nat → Int → Int → Option Addr → Nat → Nat → Nat → Int → Int → Option Addr → Nat → Nat → Nat → Int → Int → Option Addr → Nat → Nat → Nat → Int → Int → Option Addr → Nat → Nat → Nat → Int → Int → Option Addr → Nat → Nat → Int → Int → World → Prop} (i3 : ∀ {q1 : Addr} {y1_0 : Int} {y1_1 : Int} {y1_2p : Option Addr} {y1_2n y1_2c : Nat} {q2 : Addr} {y2_0 : Int} {y2_1 : Int} {y2_2p : Option Addr} {y2_2n y2_2c : Nat} {q3 : Addr} {y3_0 : Int} {y3_1 : Int} {y3_2p : Option Addr} {y3_2n y3_2c : Nat} {q4 : Addr} {y4_0 : Int} {y4_1 : Int} {y4_2p : Option Addr} {y4_2n y4_2c : Nat} {q5 : Addr} {y5_0 : Int} {y5_1 : Int} {y5_2p : Option Addr} {y5_2n y5_2c : Nat} {z6 : Int} {w : World}, s3 q1.block y1_0 y1_1 y1_2p y1_2n y1_2c q2.block y2_0 y2_1 y2_2p y2_2n y2_2c q3.block y3_0 y3_1 y3_2p y3_2n y3_2c q4.block y4_0 y4_1 y4_2p y4_2n y4_2c q5.block y5_0 y5_1 y5_2p y5_2n y5_2c z6 w → St w [(q1, [(.int .i64 y1_0), (.int .i64 y1_1), (.slice y1_2p y1_2n y1_2c)]), (q2, [(.int .i64 y2_0), (.int .i64 y2_1), (.slice y2_2p y2_2n y2_2c)]), (q3, [(.int .i64 y3_0), (.int .i64 y3_1), (.slice y3_2p y3_2n y3_2c)]), (q4, [(.int .i64 y4_0), (.int .i64 y4_1), (.slice y4_2p y4_2n y4_2c)]), (q5, [(.int .i64 y5_0), (.int .i64 y5_1), (.slice y5_2p y5_2n y5_2c)])] → x3 (some q1) (some q2) (some q3) (some q4) (some q5) z6 w) (i6 : ∀ {q1 : Addr} {y1_0 : Int} {y1_1 : Int} {y1_2p : Option Addr} {y1_2n y1_2c : Nat} {q2 : Addr} {y2_0 : Int} {y2_1 : Int} {y2_2p : Option Addr} {y2_2n y2_2c : Nat} {q3 : Addr} {y3_0 : Int} {y3_1 : Int} {y3_2p : Option Addr} {y3_2n y3_2c : Nat} {q4 : Addr} {y4_0 : Int} {y4_1 : Int} {y4_2p : Option Addr} {y4_2n y4_2c : Nat} {q5 : Addr} {y5_0 : Int} {y5_1 : Int} {y5_2p : Option Addr} {y5_2n y5_2c : Nat} {z6 : Int} {z7 : Int} {w : World}, s6 q1.block y1_0 y1_1 y1_2p y1_2n y1_2c q2.block y2_0 y2_1 y2_2p y2_2n y2_2c q3.block y3_0 y3_1 y3_2p y3_2n y3_2c q4.block y4_0 y4_1 y4_2p y4_2n y4_2c q5.block y5_0 y5_1 y5_2p y5_2n y5_2c z6 z7 w → St w [(q1, [(.int .i64 y1_0), (.int .i64 y1_1), (.slice y1_2p y1_2n y1_2c)]), (q2, [(.int .i64 y2_0), (.int .i64 y2_1), (.slice y2_2p y2_2n y2_2c)]), (q3, [(.int .i64 y3_0), (.int .i64 y3_1), (.slice y3_2p y3_2n y3_2c)]), (q4, [(.int .i64 y4_0), (.int .i64 y4_1), (.slice y4_2p y4_2n y4_2c)]), (q5, [(.int .i64 y5_0), (.int .i64 y5_1), (.slice y5_2p y5_2n y5_2c)])] → x6 (some q1) (some q2) (some q3) (some q4) (some q5) z6 z7 w) {q1 : Addr} {y1_0 : Int} {y1_1 : Int} {y1_2p : Option Addr} {y1_2n y1_2c : Nat} {q2 : Addr} {y2_0 : Int} {y2_1 : Int} {y2_2p : Option Addr} {y2_2n y2_2c : Nat} {q3 : Addr} {y3_0 : Int} {y3_1 : Int} {y3_2p : Option Addr} {y3_2n y3_2c : Nat} {q4 : Addr} {y4_0 : Int} {y4_1 : Int} {y4_2p : Option Addr} {y4_2n y4_2c : Nat} {q5 : Addr} {y5_0 : Int} {y5_1 : Int} {y5_2p : Option Addr} {y5_2n y5_2c : Nat} {z6 : Int} {w : World} (h : straightedgeref16_Parts.e3 K s3 s6 q1.block y1_0 y1_1 y1_2p y1_2n y1_2c q2.block y2_0 y2_1 y2_2p y2_2n y2_2c q3.block y3_0 y3_1 y3_2p y3_2n y3_2c q4.block y4_0 y4_1 y4_2p y4_2n y4_2c q5.block y5_0 y5_1 y5_2p y5_2n y5_2c z6 w) (st : St w [(q1, [(.int .i64 y1_0), (.int .i64 y1_1), (.slice y1_2p y1_2n y1_2c)]), (q2, [(.int .i64 y2_0), (.int .i64 y2_1), (.slice y2_2p y2_2n y2_2c)]), (q3, [(.int .i64 y3_0), (.int .i64 y3_1), (.slice y3_2p y3_2n y3_2c)]), (q4, [(.int .i64 y4_0), (.int .i64 y4_1), (.slice y4_2p y4_2n y4_2c)]), (q5, [(.int .i64 y5_0), (.int .i64 y5_1), (.slice y5_2p y5_2n y5_2c)])]) : straightedgeref16_Parts.b3 K x3 x6 (some q1) (some q2) (some q3) (some q4) (some q5) z6 w := by
  unfold straightedgeref16_Parts.b3
  unfold straightedgeref16_Parts.e3 at h
  refine ptrSome_intro rfl ?_
  refine rd_i64.bx 0 0 st rfl rfl rfl ?_
  refine br_mono (fun h => ?_) (fun h => ?_) h
  · exact i6 h (st.pick [0, 1, 2, 3, 4] (by decide))
  · replace st := st.drew
    have st3 := st
    refine ⟨(fun b => b ≠ q2.block), ?_⟩
    refine ptrSome_intro rfl ?_
    refine ⟨St.nb 3 1 0 st3 rfl rfl (by decide), ?_⟩
    refine rd_i64_i64_l.bx 3 0 st3 rfl rfl rfl rfl rfl ?_
    refine ptrSome_intro rfl ?_
    refine ⟨St.nb 4 1 0 st3 rfl rfl (by decide), ?_⟩
    refine rd_i64_i64_l.bx 4 0 st3 rfl rfl rfl rfl rfl ?_
    refine ptrSome_intro rfl ?_
    refine St.put 1 0 st rfl rfl rfl rfl (fun w18 he st => ?_)
    replace h := h w18 he
    refine ⟨he.keptS (fun b hb => hb), ?_⟩
    refine ptrSome_intro rfl ?_
    refine St.put 2 0 st rfl rfl rfl rfl (fun w20 he st => ?_)
    replace h := h w20 he
    refine ptrSome_intro rfl ?_
    refine rd_i64_i64_l.bx 1 0 st rfl rfl rfl rfl rfl ?_
    refine ptrSome_intro rfl ?_
    refine rd_i64_i64_l.bx 2 0 st rfl rfl rfl rfl rfl ?_
    exact h
theorem straightedgeref16_Parts.b6_s {K : Value → World → Prop} {x3 : Option Addr → Option Addr → Option Addr → Option Addr → Option Addr → Int → World → Prop} {x6 : Option Addr → Option Addr → Option Addr → Option Addr → Option Addr → Int → Int → World → Prop} {s3 : Nat → Int → Int → Option Addr → Nat → Nat → Nat → Int → Int → Option Addr → Nat → Nat → Nat → Int → Int → Option Addr → Nat → Nat → Nat → Int → Int → Option Addr → Nat → Nat → Nat → Int → Int → Option Addr → Nat → Nat → Int → World → Prop} {s6 : Nat → Int → Int → Option Addr → Nat → Nat → Nat → Int → Int → Option Addr → Nat → Nat → Nat → Int → Int → Option Addr → Nat → Nat → Nat → Int → Int → Option Addr → Nat → Nat → Nat → Int → Int → Option Addr → Nat → Nat → Int → Int → World → Prop} (i3 : ∀ {q1 : Addr} {y1_0 : Int} {y1_1 : Int} {y1_2p : Option Addr} {y1_2n y1_2c : Nat} {q2 : Addr} {y2_0 : Int} {y2_1 : Int} {y2_2p : Option Addr} {y2_2n y2_2c : Nat} {q3 : Addr} {y3_0 : Int} {y3_1 : Int} {y3_2p : Option Addr} {y3_2n y3_2c : Nat} {q4 : Addr} {y4_0 : Int} {y4_1 : Int} {y4_2p : Option Addr} {y4_2n y4_2c : Nat} {q5 : Addr} {y5_0 : Int} {y5_1 : Int} {y5_2p : Option Addr} {y5_2n y5_2c : Nat} {z6 : Int} {w : World}, s3 q1.block y1_0 y1_1 y1_2p y1_2n y1_2c q2.block y2_0 y2_1 y2_2p y2_2n y2_2c q3.block y3_0 y3_1 y3_2p y3_2n y3_2c q4.block y4_0 y4_1 y4_2p y4_2n y4_2c q5.block y5_0 y5_1 y5_2p y5_2n y5_2c z6 w → St w [(q1, [(.int .i64 y1_0), (.int .i64 y1_1), (.slice y1_2p y1_2n y1_2c)]), (q2, [(.int .i64 y2_0), (.int .i64 y2_1), (.slice y2_2p y2_2n y2_2c)]), (q3, [(.int .i64 y3_0), (.int .i64 y3_1), (.slice y3_2p y3_2n y3_2c)]), (q4, [(.int .i64 y4_0), (.int .i64 y4_1), (.slice y4_2p y4_2n y4_2c)]), (q5, [(.int .i64 y5_0), (.int .i64 y5_1), (.slice y5_2p y5_2n y5_2c)])] → x3 (some q1) (some q2) (some q3) (some q4) (some q5) z6 w) (i6 : ∀ {q1 : Addr} {y1_0 : Int} {y1_1 : Int} {y1_2p : Option Addr} {y1_2n y1_2c : Nat} {q2 : Addr} {y2_0 : Int} {y2_1 : Int} {y2_2p : Option Addr} {y2_2n y2_2c : Nat} {q3 : Addr} {y3_0 : Int} {y3_1 : Int} {y3_2p : Option Addr} {y3_2n y3_2c : Nat} {q4 : Addr} {y4_0 : Int} {y4_1 : Int} {y4_2p : Option Addr} {y4_2n y4_2c : Nat} {q5 : Addr} {y5_0 : Int} {y5_1 : Int} {y5_2p : Option Addr} {y5_2n y5_2c : Nat} {z6 : Int} {z7 : Int} {w : World}, s6 q1.block y1_0 y1_1 y1_2p y1_2n y1_2c q2.block y2_0 y2_1 y2_2p y2_2n y2_2c q3.block y3_0 y3_1 y3_2p y3_2n y3_2c q4.block y4_0 y4_1 y4_2p y4_2n y4_2c q5.block y5_0 y5_1 y5_2p y5_2n y5_2c z6 z7 w → St w [(q1, [(.int .i64 y1_0), (.int .i64 y1_1), (.slice y1_2p y1_2n y1_2c)]), (q2, [(.int .i64 y2_0), (.int .i64 y2_1), (.slice y2_2p y2_2n y2_2c)]), (q3, [(.int .i64 y3_0), (.int .i64 y3_1), (.slice y3_2p y3_2n y3_2c)]), (q4, [(.int .i64 y4_0), (.int .i64 y4_1), (.slice y4_2p y4_2n y4_2c)]), (q5, [(.int .i64 y5_0), (.int .i64 y5_1), (.slice y5_2p y5_2n y5_2c)])] → x6 (some q1) (some q2) (some q3) (some q4) (some q5) z6 z7 w) {q1 : Addr} {y1_0 : Int} {y1_1 : Int} {y1_2p : Option Addr} {y1_2n y1_2c : Nat} {q2 : Addr} {y2_0 : Int} {y2_1 : Int} {y2_2p : Option Addr} {y2_2n y2_2c : Nat} {q3 : Addr} {y3_0 : Int} {y3_1 : Int} {y3_2p : Option Addr} {y3_2n y3_2c : Nat} {q4 : Addr} {y4_0 : Int} {y4_1 : Int} {y4_2p : Option Addr} {y4_2n y4_2c : Nat} {q5 : Addr} {y5_0 : Int} {y5_1 : Int} {y5_2p : Option Addr} {y5_2n y5_2c : Nat} {z6 : Int} {z7 : Int} {w : World} (h : straightedgeref16_Parts.e6 K s3 s6 q1.block y1_0 y1_1 y1_2p y1_2n y1_2c q2.block y2_0 y2_1 y2_2p y2_2n y2_2c q3.block y3_0 y3_1 y3_2p y3_2n y3_2c q4.block y4_0 y4_1 y4_2p y4_2n y4_2c q5.block y5_0 y5_1 y5_2p y5_2n y5_2c z6 z7 w) (st : St w [(q1, [(.int .i64 y1_0), (.int .i64 y1_1), (.slice y1_2p y1_2n y1_2c)]), (q2, [(.int .i64 y2_0), (.int .i64 y2_1), (.slice y2_2p y2_2n y2_2c)]), (q3, [(.int .i64 y3_0), (.int .i64 y3_1), (.slice y3_2p y3_2n y3_2c)]), (q4, [(.int .i64 y4_0), (.int .i64 y4_1), (.slice y4_2p y4_2n y4_2c)]), (q5, [(.int .i64 y5_0), (.int .i64 y5_1), (.slice y5_2p y5_2n y5_2c)])]) : straightedgeref16_Parts.b6 K x3 x6 (some q1) (some q2) (some q3) (some q4) (some q5) z6 z7 w := by
  unfold straightedgeref16_Parts.b6
  unfold straightedgeref16_Parts.e6 at h
  refine ptrSome_intro rfl ?_
  refine rd_i64.bx 0 0 st rfl rfl rfl ?_
  refine br_mono (fun h => ?_) (fun h => ?_) h
  · refine br_mono (fun h => ?_) (fun h => ?_) h
    · replace st := st.drew
      have st3 := st
      refine ptrSome_intro rfl ?_
      refine rd_i64_i64_l.bx 3 0 st3 rfl rfl rfl rfl rfl ?_
      refine ptrSome_intro rfl ?_
      refine rd_i64_i64_l.bx 0 0 st3 rfl rfl rfl rfl rfl ?_
      refine CallF.mono h (fun v16 w17 h => ?_)
      obtain ⟨hK, h⟩ := h
      replace st := st.stay hK
      obtain ⟨x18, h⟩ := h
      refine ⟨x18, ?_⟩
      refine And.imp_right (fun h => ?_) h
      refine And.imp_right (fun h => ?_) h
      refine CallF.mono h (fun v19 w20 h => ?_)
      obtain ⟨hK, h⟩ := h
      replace st := st.stay hK
      refine And.imp_right (fun h => ?_) h
      exact i6 h (st.pick [0, 1, 2, 3, 4] (by decide))
    · replace st := st.drew
      have st21 := st
      refine ptrSome_intro rfl ?_
      refine rd_i64_i64_l.bx 4 0 st21 rfl rfl rfl rfl rfl ?_
      refine ptrSome_intro rfl ?_
      refine rd_i64_i64_l.bx 0 0 st21 rfl rfl rfl rfl rfl ?_
      refine CallF.mono h (fun v34 w35 h => ?_)
      obtain ⟨hK, h⟩ := h
      replace st := st.stay hK
      obtain ⟨x36, h⟩ := h
      refine ⟨x36, ?_⟩
      refine And.imp_right (fun h => ?_) h
      refine And.imp_right (fun h => ?_) h
      refine CallF.mono h (fun v37 w38 h => ?_)
      obtain ⟨hK, h⟩ := h
      replace st := st.stay hK
      refine And.imp_right (fun h => ?_) h
      exact i6 h (st.pick [0, 1, 2, 3, 4] (by decide))
  · refine ptrSome_intro rfl ?_
    refine rd_i64_i64_l.bx 3 0 st rfl rfl rfl rfl rfl ?_
    refine CallF.mono h (fun v45 w46 h => ?_)
    obtain ⟨hK, h⟩ := h
    replace st := st.stay hK
    refine And.imp_right (fun h => ?_) h
    exact i3 h (st.pick [0, 1, 2, 3, 4] (by decide))
theorem straightedgeref16_Parts.H_s {K : Value → World → Prop} (fu : Nat) : (∀ {q1 : Addr} {y1_0 : Int} {y1_1 : Int} {y1_2p : Option Addr} {y1_2n y1_2c : Nat} {q2 : Addr} {y2_0 : Int} {y2_1 : Int} {y2_2p : Option Addr} {y2_2n y2_2c : Nat} {q3 : Addr} {y3_0 : Int} {y3_1 : Int} {y3_2p : Option Addr} {y3_2n y3_2c : Nat} {q4 : Addr} {y4_0 : Int} {y4_1 : Int} {y4_2p : Option Addr} {y4_2n y4_2c : Nat} {q5 : Addr} {y5_0 : Int} {y5_1 : Int} {y5_2p : Option Addr} {y5_2n y5_2c : Nat} {z6 : Int} {w : World}, (straightedgeref16_Parts.I K fu).1 q1.block y1_0 y1_1 y1_2p y1_2n y1_2c q2.block y2_0 y2_1 y2_2p y2_2n y2_2c q3.block y3_0 y3_1 y3_2p y3_2n y3_2c q4.block y4_0 y4_1 y4_2p y4_2n y4_2c q5.block y5_0 y5_1 y5_2p y5_2n y5_2c z6 w → St w [(q1, [(.int .i64 y1_0), (.int .i64 y1_1), (.slice y1_2p y1_2n y1_2c)]), (q2, [(.int .i64 y2_0), (.int .i64 y2_1), (.slice y2_2p y2_2n y2_2c)]), (q3, [(.int .i64 y3_0), (.int .i64 y3_1), (.slice y3_2p y3_2n y3_2c)]), (q4, [(.int .i64 y4_0), (.int .i64 y4_1), (.slice y4_2p y4_2n y4_2c)]), (q5, [(.int .i64 y5_0), (.int .i64 y5_1), (.slice y5_2p y5_2n y5_2c)])] → (straightedgeref16_Parts.H K fu).1 (some q1) (some q2) (some q3) (some q4) (some q5) z6 w) ∧ (∀ {q1 : Addr} {y1_0 : Int} {y1_1 : Int} {y1_2p : Option Addr} {y1_2n y1_2c : Nat} {q2 : Addr} {y2_0 : Int} {y2_1 : Int} {y2_2p : Option Addr} {y2_2n y2_2c : Nat} {q3 : Addr} {y3_0 : Int} {y3_1 : Int} {y3_2p : Option Addr} {y3_2n y3_2c : Nat} {q4 : Addr} {y4_0 : Int} {y4_1 : Int} {y4_2p : Option Addr} {y4_2n y4_2c : Nat} {q5 : Addr} {y5_0 : Int} {y5_1 : Int} {y5_2p : Option Addr} {y5_2n y5_2c : Nat} {z6 : Int} {z7 : Int} {w : World}, (straightedgeref16_Parts.I K fu).2 q1.block y1_0 y1_1 y1_2p y1_2n y1_2c q2.block y2_0 y2_1 y2_2p y2_2n y2_2c q3.block y3_0 y3_1 y3_2p y3_2n y3_2c q4.block y4_0 y4_1 y4_2p y4_2n y4_2c q5.block y5_0 y5_1 y5_2p y5_2n y5_2c z6 z7 w → St w [(q1, [(.int .i64 y1_0), (.int .i64 y1_1), (.slice y1_2p y1_2n y1_2c)]), (q2, [(.int .i64 y2_0), (.int .i64 y2_1), (.slice y2_2p y2_2n y2_2c)]), (q3, [(.int .i64 y3_0), (.int .i64 y3_1), (.slice y3_2p y3_2n y3_2c)]), (q4, [(.int .i64 y4_0), (.int .i64 y4_1), (.slice y4_2p y4_2n y4_2c)]), (q5, [(.int .i64 y5_0), (.int .i64 y5_1), (.slice y5_2p y5_2n y5_2c)])] → (straightedgeref16_Parts.H K fu).2 (some q1) (some q2) (some q3) (some q4) (some q5) z6 z7 w) := by
  induction fu with
  | zero => exact ⟨fun h _ => False.elim h, fun h _ => False.elim h⟩
  | succ fu ih => exact ⟨fun h st => straightedgeref16_Parts.b3_s (K := K) (x3 := (straightedgeref16_Parts.H K fu).1) (s3 := (straightedgeref16_Parts.I K fu).1) (x6 := (straightedgeref16_Parts.H K fu).2) (s6 := (straightedgeref16_Parts.I K fu).2) ih.1 ih.2 h st, fun h st => straightedgeref16_Parts.b6_s (K := K) (x3 := (straightedgeref16_Parts.H K fu).1) (s3 := (straightedgeref16_Parts.I K fu).1) (x6 := (straightedgeref16_Parts.H K fu).2) (s6 := (straightedgeref16_Parts.I K fu).2) ih.1 ih.2 h st⟩
theorem straightedgeref16_Parts.os (fu : Nat) {A0_0 : Int} {A0_1 : Int} {A0_2p : Option Addr} {A0_2n A0_2c : Nat} {w : World} {K : Value → World → Prop} (h : straightedgeref16_Parts.s fu A0_0 A0_1 A0_2p A0_2n A0_2c w K) : straightedgeref16_Parts.call [(.agg ⟨[(.int .i64 A0_0), (.int .i64 A0_1), (.slice A0_2p A0_2n A0_2c)]⟩)] w K := by
  refine straightedgeref16_Parts.ok fu ?_
  have st := St.nil w
  unfold straightedgeref16_Parts.x
  unfold straightedgeref16_Parts.s at h
  refine St.new (St.nil _) (fun q1 w2 hk hlt he st => ?_)
  replace h := h q1.block w2 hk hlt he
  refine St.new st (fun q5 w6 hk hlt he st => ?_)
  replace h := h q5.block w6 hk hlt he
  refine St.new st (fun q9 w10 hk hlt he st => ?_)
  replace h := h q9.block w10 hk hlt he
  replace st := st.drew
  have st13 := st
  refine rd_i64.bx 2 0 st13 rfl rfl rfl ?_
  refine rd_i64.bx 2 0 st13 rfl rfl rfl ?_
  refine rd_i64.bx 2 0 st13 rfl rfl rfl ?_
  refine rd_i64.bx 2 0 st13 rfl rfl rfl ?_
  refine ⟨?_, ?_, ?_⟩
  · replace h := h _ (Ext.refl _)
    refine CallF.mono h (fun v19 w20 h => ?_)
    obtain ⟨hE4, h⟩ := h
    replace st := st.ext hE4
    obtain ⟨i21, i22, a23, n24, c25, h⟩ := h
    refine ⟨i21, i22, a23, n24, c25, ?_⟩
    refine And.imp_right (fun h => ?_) h
    refine ⟨hE4.kept, ?_⟩
    refine ⟨?_, ?_, ?_⟩
    · replace h := h _ (Ext.refl _)
      refine CallF.mono h (fun v27 w28 h => ?_)
      obtain ⟨hE9, h⟩ := h
      replace st := st.ext hE9
      obtain ⟨i29, i30, a31, n32, c33, h⟩ := h
      refine ⟨i29, i30, a31, n32, c33, ?_⟩
      refine And.imp_right (fun h => ?_) h
      refine ⟨?_, ?_⟩
      · refine St.new st (fun q37 w43 hk10 hlt10 he10 st => ?_)
        refine ⟨he10.kept, ?_⟩
        refine St.new st (fun q40 w44 hk11 hlt11 he11 st => ?_)
        refine ⟨he11.kept, ?_⟩
        replace h := h _ (Ext.trans he10 he11) q37.block (Nat.le_trans ((Ext.trans hE4 hE9)).size (Nat.le_of_eq hk10.symm)) (st.row (i := 1) rfl).lt (.inr (Nat.le_trans (hE9).size (Nat.le_of_eq hk10.symm))) (.inr (Nat.le_trans ((Ext.refl _)).size (Nat.le_of_eq hk10.symm))) q40.block (Nat.le_trans ((Ext.trans (Ext.trans hE4 hE9) he10)).size (Nat.le_of_eq hk11.symm)) (st.row (i := 0) rfl).lt (.inr (Nat.le_trans ((Ext.trans hE9 he10)).size (Nat.le_of_eq hk11.symm))) (.inr (Nat.le_trans (he10).size (Nat.le_of_eq hk11.symm))) (St.nb 1 0 0 st rfl rfl (by decide))
        replace st := st.pick [1, 0, 2, 3, 4] (by decide)
        refine St.put 0 0 st rfl rfl rfl rfl (fun w41 he st => ?_)
        replace h := h w41 he
        refine St.put 1 0 st rfl rfl rfl rfl (fun w42 he st => ?_)
        replace h := h w42 he
        exact (straightedgeref16_Parts.H_s fu).1 h (st.pick [4, 3, 2, 0, 1] (by decide))
      · refine St.new st (fun q40 w45 hk11 hlt11 he11 st => ?_)
        refine ⟨he11.kept, ?_⟩
        refine St.new st (fun q37 w46 hk10 hlt10 he10 st => ?_)
        refine ⟨he10.kept, ?_⟩
        replace h := h _ (Ext.trans he11 he10) q37.block (Nat.le_trans ((Ext.trans (Ext.trans hE4 hE9) he11)).size (Nat.le_of_eq hk10.symm)) (st.row (i := 0) rfl).lt (.inr (Nat.le_trans ((Ext.trans hE9 he11)).size (Nat.le_of_eq hk10.symm))) (.inr (Nat.le_trans (he11).size (Nat.le_of_eq hk10.symm))) q40.block (Nat.le_trans ((Ext.trans hE4 hE9)).size (Nat.le_of_eq hk11.symm)) (st.row (i := 1) rfl).lt (.inr (Nat.le_trans (hE9).size (Nat.le_of_eq hk11.symm))) (.inr (Nat.le_trans ((Ext.refl _)).size (Nat.le_of_eq hk11.symm))) (St.nb 0 1 0 st rfl rfl (by decide))
        refine St.put 0 0 st rfl rfl rfl rfl (fun w41 he st => ?_)
        replace h := h w41 he
        refine St.put 1 0 st rfl rfl rfl rfl (fun w42 he st => ?_)
        replace h := h w42 he
        exact (straightedgeref16_Parts.H_s fu).1 h (st.pick [4, 3, 2, 0, 1] (by decide))
    · refine St.new st (fun q37 w47 hk10 hlt10 he10 st => ?_)
      refine ⟨he10.kept, ?_⟩
      refine ⟨?_, ?_⟩
      · replace h := h _ he10
        refine CallF.mono h (fun v27 w28 h => ?_)
        obtain ⟨hE9, h⟩ := h
        replace st := st.ext hE9
        obtain ⟨i29, i30, a31, n32, c33, h⟩ := h
        refine ⟨i29, i30, a31, n32, c33, ?_⟩
        refine And.imp_right (fun h => ?_) h
        refine St.new st (fun q40 w48 hk11 hlt11 he11 st => ?_)
        refine ⟨he11.kept, ?_⟩
        replace h := h _ he11 q37.block (Nat.le_trans (hE4).size (Nat.le_of_eq hk10.symm)) (st.row (i := 1) rfl).lt (.inr (Nat.le_trans ((Ext.refl _)).size (Nat.le_of_eq hk10.symm))) (.inl (Nat.lt_of_lt_of_le hlt10 ((Ext.refl _)).size)) q40.block (Nat.le_trans ((Ext.trans (Ext.trans hE4 he10) hE9)).size (Nat.le_of_eq hk11.symm)) (st.row (i := 0) rfl).lt (.inr (Nat.le_trans ((Ext.trans he10 hE9)).size (Nat.le_of_eq hk11.symm))) (.inr (Nat.le_trans ((Ext.refl _)).size (Nat.le_of_eq hk11.symm))) (St.nb 1 0 0 st rfl rfl (by decide))
        replace st := st.pick [1, 0, 2, 3, 4] (by decide)
        refine St.put 0 0 st rfl rfl rfl rfl (fun w41 he st => ?_)
        replace h := h w41 he
        refine St.put 1 0 st rfl rfl rfl rfl (fun w42 he st => ?_)
        replace h := h w42 he
        exact (straightedgeref16_Parts.H_s fu).1 h (st.pick [4, 3, 2, 0, 1] (by decide))
      · refine St.new st (fun q40 w49 hk11 hlt11 he11 st => ?_)
        refine ⟨he11.kept, ?_⟩
        replace h := h _ (Ext.trans he10 he11)
        refine CallF.mono h (fun v27 w28 h => ?_)
        obtain ⟨hE9, h⟩ := h
        replace st := st.ext hE9
        obtain ⟨i29, i30, a31, n32, c33, h⟩ := h
        refine ⟨i29, i30, a31, n32, c33, ?_⟩
        refine And.imp_right (fun h => ?_) h
        replace h := h _ (Ext.refl _) q37.block (Nat.le_trans (hE4).size (Nat.le_of_eq hk10.symm)) (st.row (i := 1) rfl).lt (.inr (Nat.le_trans ((Ext.refl _)).size (Nat.le_of_eq hk10.symm))) (.inl (Nat.lt_of_lt_of_le hlt10 (he11).size)) q40.block (Nat.le_trans ((Ext.trans hE4 he10)).size (Nat.le_of_eq hk11.symm)) (st.row (i := 0) rfl).lt (.inr (Nat.le_trans (he10).size (Nat.le_of_eq hk11.symm))) (.inl (Nat.lt_of_lt_of_le hlt11 ((Ext.refl _)).size)) (St.nb 1 0 0 st rfl rfl (by decide))
        replace st := st.pick [1, 0, 2, 3, 4] (by decide)
        refine St.put 0 0 st rfl rfl rfl rfl (fun w41 he st => ?_)
        replace h := h w41 he
        refine St.put 1 0 st rfl rfl rfl rfl (fun w42 he st => ?_)
        replace h := h w42 he
        exact (straightedgeref16_Parts.H_s fu).1 h (st.pick [4, 3, 2, 0, 1] (by decide))
    · refine St.new st (fun q40 w50 hk11 hlt11 he11 st => ?_)
      refine ⟨he11.kept, ?_⟩
      refine ⟨?_, ?_⟩
      · replace h := h _ he11
        refine CallF.mono h (fun v27 w28 h => ?_)
        obtain ⟨hE9, h⟩ := h
        replace st := st.ext hE9
        obtain ⟨i29, i30, a31, n32, c33, h⟩ := h
        refine ⟨i29, i30, a31, n32, c33, ?_⟩
        refine And.imp_right (fun h => ?_) h
        refine St.new st (fun q37 w51 hk10 hlt10 he10 st => ?_)
        refine ⟨he10.kept, ?_⟩
        replace h := h _ he10 q37.block (Nat.le_trans ((Ext.trans (Ext.trans hE4 he11) hE9)).size (Nat.le_of_eq hk10.symm)) (st.row (i := 0) rfl).lt (.inr (Nat.le_trans ((Ext.trans he11 hE9)).size (Nat.le_of_eq hk10.symm))) (.inr (Nat.le_trans ((Ext.refl _)).size (Nat.le_of_eq hk10.symm))) q40.block (Nat.le_trans (hE4).size (Nat.le_of_eq hk11.symm)) (st.row (i := 1) rfl).lt (.inr (Nat.le_trans ((Ext.refl _)).size (Nat.le_of_eq hk11.symm))) (.inl (Nat.lt_of_lt_of_le hlt11 ((Ext.refl _)).size)) (St.nb 0 1 0 st rfl rfl (by decide))
        refine St.put 0 0 st rfl rfl rfl rfl (fun w41 he st => ?_)
        replace h := h w41 he
        refine St.put 1 0 st rfl rfl rfl rfl (fun w42 he st => ?_)
        replace h := h w42 he
        exact (straightedgeref16_Parts.H_s fu).1 h (st.pick [4, 3, 2, 0, 1] (by decide))
      · refine St.new st (fun q37 w52 hk10 hlt10 he10 st => ?_)
        refine ⟨he10.kept, ?_⟩
        replace h := h _ (Ext.trans he11 he10)
        refine CallF.mono h (fun v27 w28 h => ?_)
        obtain ⟨hE9, h⟩ := h
        replace st := st.ext hE9
        obtain ⟨i29, i30, a31, n32, c33, h⟩ := h
        refine ⟨i29, i30, a31, n32, c33, ?_⟩
        refine And.imp_right (fun h => ?_) h
        replace h := h _ (Ext.refl _) q37.block (Nat.le_trans ((Ext.trans hE4 he11)).size (Nat.le_of_eq hk10.symm)) (st.row (i := 0) rfl).lt (.inr (Nat.le_trans (he11).size (Nat.le_of_eq hk10.symm))) (.inl (Nat.lt_of_lt_of_le hlt10 ((Ext.refl _)).size)) q40.block (Nat.le_trans (hE4).size (Nat.le_of_eq hk11.symm)) (st.row (i := 1) rfl).lt (.inr (Nat.le_trans ((Ext.refl _)).size (Nat.le_of_eq hk11.symm))) (.inl (Nat.lt_of_lt_of_le hlt11 (he10).size)) (St.nb 0 1 0 st rfl rfl (by decide))
        refine St.put 0 0 st rfl rfl rfl rfl (fun w41 he st => ?_)
        replace h := h w41 he
        refine St.put 1 0 st rfl rfl rfl rfl (fun w42 he st => ?_)
        replace h := h w42 he
        exact (straightedgeref16_Parts.H_s fu).1 h (st.pick [4, 3, 2, 0, 1] (by decide))
  · refine St.new st (fun q37 w53 hk10 hlt10 he10 st => ?_)
    refine ⟨he10.kept, ?_⟩
    refine ⟨?_, ?_⟩
    · replace h := h _ he10
      refine CallF.mono h (fun v19 w20 h => ?_)
      obtain ⟨hE4, h⟩ := h
      replace st := st.ext hE4
      obtain ⟨i21, i22, a23, n24, c25, h⟩ := h
      refine ⟨i21, i22, a23, n24, c25, ?_⟩
      refine And.imp_right (fun h => ?_) h
      refine ⟨hE4.kept, ?_⟩
      refine ⟨?_, ?_⟩
      · replace h := h _ (Ext.refl _)
        refine CallF.mono h (fun v27 w28 h => ?_)
        obtain ⟨hE9, h⟩ := h
        replace st := st.ext hE9
        obtain ⟨i29, i30, a31, n32, c33, h⟩ := h
        refine ⟨i29, i30, a31, n32, c33, ?_⟩
        refine And.imp_right (fun h => ?_) h
        refine St.new st (fun q40 w54 hk11 hlt11 he11 st => ?_)
        refine ⟨he11.kept, ?_⟩
        replace h := h _ he11 q37.block (Nat.le_trans ((Ext.refl _)).size (Nat.le_of_eq hk10.symm)) (st.row (i := 1) rfl).lt (.inl (Nat.lt_of_lt_of_le hlt10 ((Ext.refl _)).size)) (.inl (Nat.lt_of_lt_of_le hlt10 (hE4).size)) q40.block (Nat.le_trans ((Ext.trans (Ext.trans he10 hE4) hE9)).size (Nat.le_of_eq hk11.symm)) (st.row (i := 0) rfl).lt (.inr (Nat.le_trans (hE9).size (Nat.le_of_eq hk11.symm))) (.inr (Nat.le_trans ((Ext.refl _)).size (Nat.le_of_eq hk11.symm))) (St.nb 1 0 0 st rfl rfl (by decide))
        replace st := st.pick [1, 0, 2, 3, 4] (by decide)
        refine St.put 0 0 st rfl rfl rfl rfl (fun w41 he st => ?_)
        replace h := h w41 he
        refine St.put 1 0 st rfl rfl rfl rfl (fun w42 he st => ?_)
        replace h := h w42 he
        exact (straightedgeref16_Parts.H_s fu).1 h (st.pick [4, 3, 2, 0, 1] (by decide))
      · refine St.new st (fun q40 w55 hk11 hlt11 he11 st => ?_)
        refine ⟨he11.kept, ?_⟩
        replace h := h _ he11
        refine CallF.mono h (fun v27 w28 h => ?_)
        obtain ⟨hE9, h⟩ := h
        replace st := st.ext hE9
        obtain ⟨i29, i30, a31, n32, c33, h⟩ := h
        refine ⟨i29, i30, a31, n32, c33, ?_⟩
        refine And.imp_right (fun h => ?_) h
        replace h := h _ (Ext.refl _) q37.block (Nat.le_trans ((Ext.refl _)).size (Nat.le_of_eq hk10.symm)) (st.row (i := 1) rfl).lt (.inl (Nat.lt_of_lt_of_le hlt10 ((Ext.refl _)).size)) (.inl (Nat.lt_of_lt_of_le hlt10 ((Ext.trans hE4 he11)).size)) q40.block (Nat.le_trans ((Ext.trans he10 hE4)).size (Nat.le_of_eq hk11.symm)) (st.row (i := 0) rfl).lt (.inr (Nat.le_trans ((Ext.refl _)).size (Nat.le_of_eq hk11.symm))) (.inl (Nat.lt_of_lt_of_le hlt11 ((Ext.refl _)).size)) (St.nb 1 0 0 st rfl rfl (by decide))
        replace st := st.pick [1, 0, 2, 3, 4] (by decide)
        refine St.put 0 0 st rfl rfl rfl rfl (fun w41 he st => ?_)
        replace h := h w41 he
        refine St.put 1 0 st rfl rfl rfl rfl (fun w42 he st => ?_)
        replace h := h w42 he
        exact (straightedgeref16_Parts.H_s fu).1 h (st.pick [4, 3, 2, 0, 1] (by decide))
    · refine St.new st (fun q40 w56 hk11 hlt11 he11 st => ?_)
      refine ⟨he11.kept, ?_⟩
      replace h := h _ (Ext.trans he10 he11)
      refine CallF.mono h (fun v19 w20 h => ?_)
      obtain ⟨hE4, h⟩ := h
      replace st := st.ext hE4
      obtain ⟨i21, i22, a23, n24, c25, h⟩ := h
      refine ⟨i21, i22, a23, n24, c25, ?_⟩
      refine And.imp_right (fun h => ?_) h
      refine ⟨hE4.kept, ?_⟩
      replace h := h _ (Ext.refl _)
      refine CallF.mono h (fun v27 w28 h => ?_)
      obtain ⟨hE9, h⟩ := h
      replace st := st.ext hE9
      obtain ⟨i29, i30, a31, n32, c33, h⟩ := h
      refine ⟨i29, i30, a31, n32, c33, ?_⟩
      refine And.imp_right (fun h => ?_) h
      replace h := h _ (Ext.refl _) q37.block (Nat.le_trans ((Ext.refl _)).size (Nat.le_of_eq hk10.symm)) (st.row (i := 1) rfl).lt (.inl (Nat.lt_of_lt_of_le hlt10 (he11).size)) (.inl (Nat.lt_of_lt_of_le hlt10 ((Ext.trans he11 hE4)).size)) q40.block (Nat.le_trans (he10).size (Nat.le_of_eq hk11.symm)) (st.row (i := 0) rfl).lt (.inl (Nat.lt_of_lt_of_le hlt11 ((Ext.refl _)).size)) (.inl (Nat.lt_of_lt_of_le hlt11 (hE4).size)) (St.nb 1 0 0 st rfl rfl (by decide))
      replace st := st.pick [1, 0, 2, 3, 4] (by decide)
      refine St.put 0 0 st rfl rfl rfl rfl (fun w41 he st => ?_)
      replace h := h w41 he
      refine St.put 1 0 st rfl rfl rfl rfl (fun w42 he st => ?_)
      replace h := h w42 he
      exact (straightedgeref16_Parts.H_s fu).1 h (st.pick [4, 3, 2, 0, 1] (by decide))
  · refine St.new st (fun q40 w57 hk11 hlt11 he11 st => ?_)
    refine ⟨he11.kept, ?_⟩
    refine ⟨?_, ?_⟩
    · replace h := h _ he11
      refine CallF.mono h (fun v19 w20 h => ?_)
      obtain ⟨hE4, h⟩ := h
      replace st := st.ext hE4
      obtain ⟨i21, i22, a23, n24, c25, h⟩ := h
      refine ⟨i21, i22, a23, n24, c25, ?_⟩
      refine And.imp_right (fun h => ?_) h
      refine ⟨hE4.kept, ?_⟩
      refine ⟨?_, ?_⟩
      · replace h := h _ (Ext.refl _)
        refine CallF.mono h (fun v27 w28 h => ?_)
        obtain ⟨hE9, h⟩ := h
        replace st := st.ext hE9
        obtain ⟨i29, i30, a31, n32, c33, h⟩ := h
        refine ⟨i29, i30, a31, n32, c33, ?_⟩
        refine And.imp_right (fun h => ?_) h
        refine St.new st (fun q37 w58 hk10 hlt10 he10 st => ?_)
        refine ⟨he10.kept, ?_⟩
        replace h := h _ he10 q37.block (Nat.le_trans ((Ext.trans (Ext.trans he11 hE4) hE9)).size (Nat.le_of_eq hk10.symm)) (st.row (i := 0) rfl).lt (.inr (Nat.le_trans (hE9).size (Nat.le_of_eq hk10.symm))) (.inr (Nat.le_trans ((Ext.refl _)).size (Nat.le_of_eq hk10.symm))) q40.block (Nat.le_trans ((Ext.refl _)).size (Nat.le_of_eq hk11.symm)) (st.row (i := 1) rfl).lt (.inl (Nat.lt_of_lt_of_le hlt11 ((Ext.refl _)).size)) (.inl (Nat.lt_of_lt_of_le hlt11 (hE4).size)) (St.nb 0 1 0 st rfl rfl (by decide))
        refine St.put 0 0 st rfl rfl rfl rfl (fun w41 he st => ?_)
        replace h := h w41 he
        refine St.put 1 0 st rfl rfl rfl rfl (fun w42 he st => ?_)
        replace h := h w42 he
        exact (straightedgeref16_Parts.H_s fu).1 h (st.pick [4, 3, 2, 0, 1] (by decide))
      · refine St.new st (fun q37 w59 hk10 hlt10 he10 st => ?_)
        refine ⟨he10.kept, ?_⟩
        replace h := h _ he10
        refine CallF.mono h (fun v27 w28 h => ?_)
        obtain ⟨hE9, h⟩ := h
        replace st := st.ext hE9
        obtain ⟨i29, i30, a31, n32, c33, h⟩ := h
        refine ⟨i29, i30, a31, n32, c33, ?_⟩
        refine And.imp_right (fun h => ?_) h
        replace h := h _ (Ext.refl _) q37.block (Nat.le_trans ((Ext.trans he11 hE4)).size (Nat.le_of_eq hk10.symm)) (st.row (i := 0) rfl).lt (.inr (Nat.le_trans ((Ext.refl _)).size (Nat.le_of_eq hk10.symm))) (.inl (Nat.lt_of_lt_of_le hlt10 ((Ext.refl _)).size)) q40.block (Nat.le_trans ((Ext.refl _)).size (Nat.le_of_eq hk11.symm)) (st.row (i := 1) rfl).lt (.inl (Nat.lt_of_lt_of_le hlt11 ((Ext.refl _)).size)) (.inl (Nat.lt_of_lt_of_le hlt11 ((Ext.trans hE4 he10)).size)) (St.nb 0 1 0 st rfl rfl (by decide))
        refine St.put 0 0 st rfl rfl rfl rfl (fun w41 he st => ?_)
        replace h := h w41 he
        refine St.put 1 0 st rfl rfl rfl rfl (fun w42 he st => ?_)
        replace h := h w42 he
        exact (straightedgeref16_Parts.H_s fu).1 h (st.pick [4, 3, 2, 0, 1] (by decide))
    · refine St.new st (fun q37 w60 hk10 hlt10 he10 st => ?_)
      refine ⟨he10.kept, ?_⟩
      replace h := h _ (Ext.trans he11 he10)
      refine CallF.mono h (fun v19 w20 h => ?_)
      obtain ⟨hE4, h⟩ := h
      replace st := st.ext hE4
      obtain ⟨i21, i22, a23, n24, c25, h⟩ := h
      refine ⟨i21, i22, a23, n24, c25, ?_⟩
      refine And.imp_right (fun h => ?_) h
      refine ⟨hE4.kept, ?_⟩
      replace h := h _ (Ext.refl _)
      refine CallF.mono h (fun v27 w28 h => ?_)
      obtain ⟨hE9, h⟩ := h
      replace st := st.ext hE9
      obtain ⟨i29, i30, a31, n32, c33, h⟩ := h
      refine ⟨i29, i30, a31, n32, c33, ?_⟩
      refine And.imp_right (fun h => ?_) h
      replace h := h _ (Ext.refl _) q37.block (Nat.le_trans (he11).size (Nat.le_of_eq hk10.symm)) (st.row (i := 0) rfl).lt (.inl (Nat.lt_of_lt_of_le hlt10 ((Ext.refl _)).size)) (.inl (Nat.lt_of_lt_of_le hlt10 (hE4).size)) q40.block (Nat.le_trans ((Ext.refl _)).size (Nat.le_of_eq hk11.symm)) (st.row (i := 1) rfl).lt (.inl (Nat.lt_of_lt_of_le hlt11 (he10).size)) (.inl (Nat.lt_of_lt_of_le hlt11 ((Ext.trans he10 hE4)).size)) (St.nb 0 1 0 st rfl rfl (by decide))
      refine St.put 0 0 st rfl rfl rfl rfl (fun w41 he st => ?_)
      replace h := h w41 he
      refine St.put 1 0 st rfl rfl rfl rfl (fun w42 he st => ?_)
      replace h := h w42 he
      exact (straightedgeref16_Parts.H_s fu).1 h (st.pick [4, 3, 2, 0, 1] (by decide))

/-! ### straightedge/straightedgeref16.Order: function 41 -/
def straightedgeref16_Order.b3 (K : Value → World → Prop) (h3 : Option Addr → Nat → Nat → Option Addr → Nat → Nat → Int → World → Prop) (h7 : Option Addr → Nat → Nat → Option Addr → Nat → Nat → Int → World → Prop) (z0p : Option Addr) (z0n z0c : Nat) (z3p : Option Addr) (z3n z3c : Nat) (z4 : Int) (w : World) : Prop := br (decide (z4 < ((z0n : Nat) : Int))) (newB [(.int .i64 z4)] 3 w fun q1 w2 => Raw prog (Builtin.append_ #[31, 31] 31 ⟨[(.slice z3p z3n z3c), (.slice (some q1) 1 1)]⟩) w2 fun v3 w4 => ∃ (a5 : Option Addr) (n6 c7 : Nat), v3 = .slice a5 n6 c7 ∧ h3 z0p z0n z0c a5 n6 c7 (IntKind.i64.wrap (z4 + 1)) w4) (h7 z0p z0n z0c z3p z3n z3c 0 w)
def straightedgeref16_Order.b7 (K : Value → World → Prop) (h3 : Option Addr → Nat → Nat → Option Addr → Nat → Nat → Int → World → Prop) (h7 : Option Addr → Nat → Nat → Option Addr → Nat → Nat → Int → World → Prop) (z0p : Option Addr) (z0n z0c : Nat) (z3p : Option Addr) (z3n z3c : Nat) (z5 : Int) (w : World) : Prop := br (decide (z5 < ((z0n : Nat) : Int))) (ptrSome z3p fun q2 => (0 : Int) ≤ z5 ∧ z5 < ((z3n : Nat) : Int) ∧ rd_i64 w.drew (q2.add (Int.toNat z5)) fun i3 => ptrSome z0p fun q4 => (0 : Int) ≤ z5 ∧ z5 < ((z0n : Nat) : Int) ∧ rd_i64 w.drew (q4.add (Int.toNat z5)) fun i5 => ptrSome z3p fun q6 => (0 : Int) ≤ i5 ∧ i5 < ((z3n : Nat) : Int) ∧ rd_i64 w.drew (q6.add (Int.toNat i5)) fun i7 => ptrSome z3p fun q8 => (0 : Int) ≤ z5 ∧ z5 < ((z3n : Nat) : Int) ∧ stPT (q8.add (Int.toNat z5)) 0 [(.int .i64 i7)] w.drew fun w9 => ptrSome z0p fun q10 => (0 : Int) ≤ z5 ∧ z5 < ((z0n : Nat) : Int) ∧ rd_i64 w9 (q10.add (Int.toNat z5)) fun i11 => ptrSome z3p fun q12 => (0 : Int) ≤ i11 ∧ i11 < ((z3n : Nat) : Int) ∧ stPT (q12.add (Int.toNat i11)) 0 [(.int .i64 i3)] w9 fun w13 => h7 z0p z0n z0c z3p z3n z3c (IntKind.i64.wrap (z5 + 1)) w13) (K (.slice z3p z3n z3c) w)
def straightedgeref16_Order.H (K : Value → World → Prop) : Nat → (Option Addr → Nat → Nat → Option Addr → Nat → Nat → Int → World → Prop) × (Option Addr → Nat → Nat → Option Addr → Nat → Nat → Int → World → Prop)
  | 0 => (fun _ _ _ _ _ _ _ _ => False, fun _ _ _ _ _ _ _ _ => False)
  | fu + 1 => (straightedgeref16_Order.b3 K (straightedgeref16_Order.H K fu).1 (straightedgeref16_Order.H K fu).2, straightedgeref16_Order.b7 K (straightedgeref16_Order.H K fu).1 (straightedgeref16_Order.H K fu).2)
def straightedgeref16_Order.x (fu : Nat) (A0p : Option Addr) (A0n A0c : Nat) (w : World) (K : Value → World → Prop) : Prop := (straightedgeref16_Order.H K fu).1 A0p A0n A0c none 0 0 0 w
def straightedgeref16_Order.hd (K : Value → World → Prop) (n id : Nat) (t : List Value) (w : World) : Prop :=
  match id with
  | 3 => asL (t.getD 0 undef) fun z0p z0n z0c => asL (t.getD 3 undef) fun z3p z3n z3c => asI .i64 (t.getD 4 undef) fun z4 => (straightedgeref16_Order.H K n).1 z0p z0n z0c z3p z3n z3c z4 w
  | 7 => asL (t.getD 0 undef) fun z0p z0n z0c => asL (t.getD 3 undef) fun z3p z3n z3c => asI .i64 (t.getD 5 undef) fun z5 => (straightedgeref16_Order.H K n).2 z0p z0n z0c z3p z3n z3c z5 w
  | _ => False
theorem straightedgeref16_Order.t3 (K : Value → World → Prop) (n : Nat) (z0p : Option Addr) (z0n z0c : Nat) (z3p : Option Addr) (z3n z3c : Nat) (z4 : Int) (u : Nat → Value) (w : World) (h : (straightedgeref16_Order.H K (n + 1)).1 z0p z0n z0c z3p z3n z3c z4 w) :
    exT prog [3, 7] (straightedgeref16_Order.hd K n) Try.f41 3 47 [(0, (.slice z0p z0n z0c)), (3, (.slice z3p z3n z3c)), (4, (.int .i64 z4))] u w K := Eq.mp (by kernel_rfl) h
theorem straightedgeref16_Order.t7 (K : Value → World → Prop) (n : Nat) (z0p : Option Addr) (z0n z0c : Nat) (z3p : Option Addr) (z3n z3c : Nat) (z5 : Int) (u : Nat → Value) (w : World) (h : (straightedgeref16_Order.H K (n + 1)).2 z0p z0n z0c z3p z3n z3c z5 w) :
    exT prog [3, 7] (straightedgeref16_Order.hd K n) Try.f41 7 47 [(0, (.slice z0p z0n z0c)), (3, (.slice z3p z3n z3c)), (5, (.int .i64 z5))] u w K := Eq.mp (by kernel_rfl) h
theorem straightedgeref16_Order.ok (fu : Nat) {A0p : Option Addr} {A0n A0c : Nat} {w : World} {K : Value → World → Prop} (h : straightedgeref16_Order.x fu A0p A0n A0c w K) : straightedgeref16_Order.call [(.slice A0p A0n A0c)] w K := by
  refine callF_of_ex (cuts := [3, 7]) (H := straightedgeref16_Order.hd K) (N := 47) Try.func41 rfl mixed (by kernel_rfl) ?_ ?_ ?_ rfl (n := fu) (Eq.mp (by kernel_rfl) h)
  · intro id hid; simp only [List.mem_cons, List.not_mem_nil, or_false] at hid; rcases hid with rfl | rfl
    · exact (by kernel_rfl : (stacks (bodyOf Try.f41) []).filter (headIs 3) = [at_ (bodyOf Try.f41) 3])
    · exact (by kernel_rfl : (stacks (bodyOf Try.f41) []).filter (headIs 7) = [at_ (bodyOf Try.f41) 7])
  · intro id t w h
    unfold straightedgeref16_Order.hd at h
    split at h
    · obtain ⟨z0p, z0n, z0c, _, h⟩ := asL_elim h
      obtain ⟨z3p, z3n, z3c, _, h⟩ := asL_elim h
      obtain ⟨z4, _, h⟩ := asI_elim h
      exact h
    · obtain ⟨z0p, z0n, z0c, _, h⟩ := asL_elim h
      obtain ⟨z3p, z3n, z3c, _, h⟩ := asL_elim h
      obtain ⟨z5, _, h⟩ := asI_elim h
      exact h
    · exact h
  · intro n id hid t w hl h; simp only [List.mem_cons, List.not_mem_nil, or_false] at hid; rcases hid with rfl | rfl
    · replace h : asL (t.getD 0 undef) fun z0p z0n z0c => asL (t.getD 3 undef) fun z3p z3n z3c => asI .i64 (t.getD 4 undef) fun z4 => (straightedgeref16_Order.H K (n + 1)).1 z0p z0n z0c z3p z3n z3c z4 w := h
      obtain ⟨z0p, z0n, z0c, e0, h⟩ := asL_elim h
      obtain ⟨z3p, z3n, z3c, e3, h⟩ := asL_elim h
      obtain ⟨z4, e4, h⟩ := asI_elim h
      rw [mk_of hl [(0, (.slice z0p z0n z0c)), (3, (.slice z3p z3n z3c)), (4, (.int .i64 z4))] (by simp only [List.forall_mem_cons, List.not_mem_nil, false_implies, implies_true, and_true]; exact ⟨e0, e3, e4⟩)]
      exact straightedgeref16_Order.t3 K n z0p z0n z0c z3p z3n z3c z4 _ w h
    · replace h : asL (t.getD 0 undef) fun z0p z0n z0c => asL (t.getD 3 undef) fun z3p z3n z3c => asI .i64 (t.getD 5 undef) fun z5 => (straightedgeref16_Order.H K (n + 1)).2 z0p z0n z0c z3p z3n z3c z5 w := h
      obtain ⟨z0p, z0n, z0c, e0, h⟩ := asL_elim h
      obtain ⟨z3p, z3n, z3c, e3, h⟩ := asL_elim h
      obtain ⟨z5, e5, h⟩ := asI_elim h
      rw [mk_of hl [(0, (.slice z0p z0n z0c)), (3, (.slice z3p z3n z3c)), (5, (.int .i64 z5))] (by simp only [List.forall_mem_cons, List.not_mem_nil, false_implies, implies_true, and_true]; exact ⟨e0, e3, e5⟩)]
      exact straightedgeref16_Order.t7 K n z0p z0n z0c z3p z3n z3c z5 _ w h

end Go.Proofs.Ytgdkahbnepafgaa

/-! ### AGref03 -/
/- The explicit forms of the functions of one package, and that the calls do what they say. Written by wip/tools/wk2.py. -/
set_option maxHeartbeats 4000000
set_option maxRecDepth 100000
set_option linter.unusedVariables false
namespace Go.Proofs.Ytgdkahbnepafgaa
open Go Go.Wk

/-! ### straightedge/straightedgeref03.Great: function 6 -/
def straightedgeref03_Great.x (A0_0p : Option Addr) (A0_0n A0_0c : Nat) (A0_1 : Int) (A0_2 : Int) (A0_3 : Int) (A0_4 : Int) (w : World) (K : Value → World → Prop) : Prop := newB [(.slice A0_0p A0_0n A0_0c), (.int .i64 A0_1), (.int .i64 A0_2), (.int .i64 A0_3), (.int .i64 A0_4)] 24 w fun q1 w2 => rd_l w2 q1 fun a3 n4 c5 => br (decide (((n4 : Nat) : Int) > 1000)) (K (.bool true) w2) (rd_i64 w2 (q1.add 2) fun i6 => br (decide (i6 > 20)) (K (.bool true) w2) (rd_i64 w2 (q1.add 3) fun i7 => K (.bool (decide (i7 > 20))) w2))
theorem straightedgeref03_Great.ok {A0_0p : Option Addr} {A0_0n A0_0c : Nat} {A0_1 : Int} {A0_2 : Int} {A0_3 : Int} {A0_4 : Int} {w : World} {K : Value → World → Prop} (h : straightedgeref03_Great.x A0_0p A0_0n A0_0c A0_1 A0_2 A0_3 A0_4 w K) : straightedgeref03_Great.call [(.agg ⟨[(.slice A0_0p A0_0n A0_0c), (.int .i64 A0_1), (.int .i64 A0_2), (.int .i64 A0_3), (.int .i64 A0_4)]⟩)] w K :=
  callF_of_ex0 (f := Try.f6) Try.func6 rfl mixed (by kernel_rfl) (Eq.mp (by kernel_rfl) h)
/-! the same, the local variables taken out -/
def straightedgeref03_Great.s (A0_0p : Option Addr) (A0_0n A0_0c : Nat) (A0_1 : Int) (A0_2 : Int) (A0_3 : Int) (A0_4 : Int) (w : World) (K : Value → World → Prop) : Prop := ∀ (k3 : Nat) (w2 : World), k3 = w.heap.size → k3 < w2.heap.size → Ext w w2 → br (decide (((A0_0n : Nat) : Int) > 1000)) (K (.bool true) w2) (br (decide (A0_2 > 20)) (K (.bool true) w2) (K (.bool (decide (A0_3 > 20))) w2))
theorem straightedgeref03_Great.os {A0_0p : Option Addr} {A0_0n A0_0c : Nat} {A0_1 : Int} {A0_2 : Int} {A0_3 : Int} {A0_4 : Int} {w : World} {K : Value → World → Prop} (h : straightedgeref03_Great.s A0_0p A0_0n A0_0c A0_1 A0_2 A0_3 A0_4 w K) : straightedgeref03_Great.call [(.agg ⟨[(.slice A0_0p A0_0n A0_0c), (.int .i64 A0_1), (.int .i64 A0_2), (.int .i64 A0_3), (.int .i64 A0_4)]⟩)] w K := by
  refine straightedgeref03_Great.ok ?_
  have st := St.nil w
  unfold straightedgeref03_Great.x
  unfold straightedgeref03_Great.s at h
  refine St.new (St.nil _) (fun q1 w2 hk hlt he st => ?_)
  replace h := h q1.block w2 hk hlt he
  refine rd_l.bx 0 0 st rfl rfl rfl ?_
  refine br_mono (fun h => ?_) (fun h => ?_) h
  · exact h
  · refine rd_i64.bx 0 2 st rfl rfl rfl ?_
    refine br_mono (fun h => ?_) (fun h => ?_) h
    · exact h
    · refine rd_i64.bx 0 3 st rfl rfl rfl ?_
      exact h

/-! ### straightedge/straightedgeref03.Good: function 7 -/
def straightedgeref03_Good.x (A0_0p : Option Addr) (A0_0n A0_0c : Nat) (A0_1 : Int) (A0_2 : Int) (A0_3 : Int) (A0_4 : Int) (w : World) (K : Value → World → Prop) : Prop := newB [(.slice A0_0p A0_0n A0_0c), (.int .i64 A0_1), (.int .i64 A0_2), (.int .i64 A0_3), (.int .i64 A0_4)] 24 w fun q1 w2 => rd_i64 w2 (q1.add 2) fun i3 => br (decide (i3 < 0)) (K (.bool false) w2) (rd_i64 w2 (q1.add 3) fun i4 => br (decide (i4 < 0)) (K (.bool false) w2) (rd_i64 w2 (q1.add 4) fun i5 => br (decide (i5 < 1)) (K (.bool false) w2) (rd_i64 w2 (q1.add 4) fun i6 => rd_i64 w2 (q1.add 2) fun i7 => br (decide (i6 < i7)) (K (.bool false) w2) (rd_i64 w2 (q1.add 1) fun i8 => br (decide (i8 < 0)) (K (.bool false) w2) (rd_i64 w2 (q1.add 2) fun i9 => br (i9 == 0) (K (.bool true) w2) (rd_i64 w2 (q1.add 3) fun i10 => br (i10 == 0) (K (.bool true) w2) (rd_l w2 q1 fun a11 n12 c13 => rd_i64 w2 (q1.add 1) fun i14 => rd_i64 w2 (q1.add 3) fun i15 => rd_i64 w2 (q1.add 4) fun i16 => rd_i64 w2 (q1.add 2) fun i17 => straightedgeref03_within.call [(.int .i64 ((n12 : Nat) : Int)), (.int .i64 i14), (.int .i64 (IntKind.i64.wrap (i15 - 1))), (.int .i64 i16), (.int .i64 (IntKind.i64.wrap (i17 - 1)))] w2 fun v18 w19 => ∃ b20 : Bool, v18 = (.bool b20) ∧ K (.bool b20) w19)))))))
theorem straightedgeref03_Good.ok {A0_0p : Option Addr} {A0_0n A0_0c : Nat} {A0_1 : Int} {A0_2 : Int} {A0_3 : Int} {A0_4 : Int} {w : World} {K : Value → World → Prop} (h : straightedgeref03_Good.x A0_0p A0_0n A0_0c A0_1 A0_2 A0_3 A0_4 w K) : straightedgeref03_Good.call [(.agg ⟨[(.slice A0_0p A0_0n A0_0c), (.int .i64 A0_1), (.int .i64 A0_2), (.int .i64 A0_3), (.int .i64 A0_4)]⟩)] w K :=
  callF_of_ex0 (f := Try.f7) Try.func7 rfl mixed (by kernel_rfl) (Eq.mp (by kernel_rfl) h)
/-! the same, the local variables taken out -/
def straightedgeref03_Good.s (A0_0p : Option Addr) (A0_0n A0_0c : Nat) (A0_1 : Int) (A0_2 : Int) (A0_3 : Int) (A0_4 : Int) (w : World) (K : Value → World → Prop) : Prop := ∀ (k3 : Nat) (w2 : World), k3 = w.heap.size → k3 < w2.heap.size → Ext w w2 → br (decide (A0_2 < 0)) (K (.bool false) w2) (br (decide (A0_3 < 0)) (K (.bool false) w2) (br (decide (A0_4 < 1)) (K (.bool false) w2) (br (decide (A0_4 < A0_2)) (K (.bool false) w2) (br (decide (A0_1 < 0)) (K (.bool false) w2) (br (A0_2 == 0) (K (.bool true) w2) (br (A0_3 == 0) (K (.bool true) w2) (straightedgeref03_within.call [(.int .i64 ((A0_0n : Nat) : Int)), (.int .i64 A0_1), (.int .i64 (IntKind.i64.wrap (A0_3 - 1))), (.int .i64 A0_4), (.int .i64 (IntKind.i64.wrap (A0_2 - 1)))] w2 fun v20 w21 => Stay [k3] w2 w21 ∧ ∃ b22 : Bool, v20 = (.bool b22) ∧ K (.bool b22) w21)))))))
theorem straightedgeref03_Good.os {A0_0p : Option Addr} {A0_0n A0_0c : Nat} {A0_1 : Int} {A0_2 : Int} {A0_3 : Int} {A0_4 : Int} {w : World} {K : Value → World → Prop} (h : straightedgeref03_Good.s A0_0p A0_0n A0_0c A0_1 A0_2 A0_3 A0_4 w K) : straightedgeref03_Good.call [(.agg ⟨[(.slice A0_0p A0_0n A0_0c), (.int .i64 A0_1), (.int .i64 A0_2), (.int .i64 A0_3), (.int .i64 A0_4)]⟩)] w K := by
  refine straightedgeref03_Good.ok ?_
  have st := St.nil w
  unfold straightedgeref03_Good.x
  unfold straightedgeref03_Good.s at h
  refine St.new (St.nil _) (fun q1 w2 hk hlt he st => ?_)
  replace h := h q1.block w2 hk hlt he
  refine rd_i64.bx 0 2 st rfl rfl rfl ?_
  refine br_mono (fun h => ?_) (fun h => ?_) h
  · exact h
  · refine rd_i64.bx 0 3 st rfl rfl rfl ?_
    refine br_mono (fun h => ?_) (fun h => ?_) h
    · exact h
    · refine rd_i64.bx 0 4 st rfl rfl rfl ?_
      refine br_mono (fun h => ?_) (fun h => ?_) h
      · exact h
      · refine rd_i64.bx 0 4 st rfl rfl rfl ?_
        refine rd_i64.bx 0 2 st rfl rfl rfl ?_
        refine br_mono (fun h => ?_) (fun h => ?_) h
        · exact h
        · refine rd_i64.bx 0 1 st rfl rfl rfl ?_
          refine br_mono (fun h => ?_) (fun h => ?_) h
          · exact h
          · refine rd_i64.bx 0 2 st rfl rfl rfl ?_
            refine br_mono (fun h => ?_) (fun h => ?_) h
            · exact h
            · refine rd_i64.bx 0 3 st rfl rfl rfl ?_
              refine br_mono (fun h => ?_) (fun h => ?_) h
              · exact h
              · refine rd_l.bx 0 0 st rfl rfl rfl ?_
                refine rd_i64.bx 0 1 st rfl rfl rfl ?_
                refine rd_i64.bx 0 3 st rfl rfl rfl ?_
                refine rd_i64.bx 0 4 st rfl rfl rfl ?_
                refine rd_i64.bx 0 2 st rfl rfl rfl ?_
                refine CallF.mono h (fun v20 w21 h => ?_)
                obtain ⟨hK, h⟩ := h
                replace st := st.stay hK
                exact h

/-! ### straightedge/straightedgeref03.Of: function 9 -/
def straightedgeref03_Of.b3 (K : Value → World → Prop) (h3 : Option Addr → Option Addr → Option Addr → Int → World → Prop) (h6 : Option Addr → Option Addr → Option Addr → Int → Int → World → Prop) (z1 : Option Addr) (z2 : Option Addr) (z3 : Option Addr) (z4 : Int) (w : World) : Prop := ptrSome z1 fun q1 => rd_i64 w (q1.add 2) fun i2 => br (decide (z4 < i2)) (h6 z1 z2 z3 z4 0 w) (ptrSome z3 fun q3 => rd_i64_i64_l w q3 fun i4 i5 a6 n7 c8 => ptrSome z2 fun q9 => stPT q9 0 [(.int .i64 i4), (.int .i64 i5), (.slice a6 n7 c8)] w fun w10 => ptrSome z2 fun q11 => rd_i64_i64_l w10 q11 fun i12 i13 a14 n15 c16 => K (.agg ⟨[(.int .i64 i12), (.int .i64 i13), (.slice a14 n15 c16)]⟩) w10)
def straightedgeref03_Of.b6 (K : Value → World → Prop) (h3 : Option Addr → Option Addr → Option Addr → Int → World → Prop) (h6 : Option Addr → Option Addr → Option Addr → Int → Int → World → Prop) (z1 : Option Addr) (z2 : Option Addr) (z3 : Option Addr) (z4 : Int) (z5 : Int) (w : World) : Prop := ptrSome z1 fun q1 => rd_i64 w (q1.add 3) fun i2 => br (decide (z5 < i2)) (ptrSome z3 fun q4 => rd_i64_i64_l w.drew q4 fun i5 i6 a7 n8 c9 => ptrSome z1 fun q10 => rd_l w.drew q10 fun a11 n12 c13 => ptrSome z1 fun q14 => rd_i64 w.drew (q14.add 1) fun i15 => ptrSome z1 fun q16 => rd_i64 w.drew (q16.add 4) fun i17 => ptrSome a11 fun q18 => (0 : Int) ≤ (IntKind.i64.wrap ((IntKind.i64.wrap (i15 + z4)) + (IntKind.i64.wrap (z5 * i17)))) ∧ (IntKind.i64.wrap ((IntKind.i64.wrap (i15 + z4)) + (IntKind.i64.wrap (z5 * i17)))) < ((n12 : Nat) : Int) ∧ rd_f64 w.drew (q18.add (Int.toNat (IntKind.i64.wrap ((IntKind.i64.wrap (i15 + z4)) + (IntKind.i64.wrap (z5 * i17)))))) fun x19 => straightedgeref03_M_Set.call [(.agg ⟨[(.int .i64 i5), (.int .i64 i6), (.slice a7 n8 c9)]⟩), (.int .i64 z4), (.int .i64 z5), (.float .f64 x19)] w.drew fun v20 w21 => v20 = (.tuple ⟨[]⟩) ∧ h6 z1 z2 z3 z4 (IntKind.i64.wrap (z5 + 1)) w21) (h3 z1 z2 z3 (IntKind.i64.wrap (z4 + 1)) w)
def straightedgeref03_Of.H (K : Value → World → Prop) : Nat → (Option Addr → Option Addr → Option Addr → Int → World → Prop) × (Option Addr → Option Addr → Option Addr → Int → Int → World → Prop)
  | 0 => (fun _ _ _ _ _ => False, fun _ _ _ _ _ _ => False)
  | fu + 1 => (straightedgeref03_Of.b3 K (straightedgeref03_Of.H K fu).1 (straightedgeref03_Of.H K fu).2, straightedgeref03_Of.b6 K (straightedgeref03_Of.H K fu).1 (straightedgeref03_Of.H K fu).2)
def straightedgeref03_Of.x (fu : Nat) (A0_0p : Option Addr) (A0_0n A0_0c : Nat) (A0_1 : Int) (A0_2 : Int) (A0_3 : Int) (A0_4 : Int) (w : World) (K : Value → World → Prop) : Prop := newB [(.slice A0_0p A0_0n A0_0c), (.int .i64 A0_1), (.int .i64 A0_2), (.int .i64 A0_3), (.int .i64 A0_4)] 24 w fun q1 w2 => newB [(.int .i64 0), (.int .i64 0), (.slice none 0 0)] 29 w2 fun q3 w4 => rd_i64 w4 (q1.add 2) fun i5 => rd_i64 w4 (q1.add 3) fun i6 => straightedgeref03_New.call [(.int .i64 i5), (.int .i64 i6)] w4 fun v7 w8 => ∃ i9 : Int, ∃ i10 : Int, ∃ (a11 : Option Addr) (n12 c13 : Nat), v7 = (.agg ⟨[(.int .i64 i9), (.int .i64 i10), (.slice a11 n12 c13)]⟩) ∧ newB [(.int .i64 0), (.int .i64 0), (.slice none 0 0)] 29 w8 fun q14 w15 => stPT q14 0 [(.int .i64 i9), (.int .i64 i10), (.slice a11 n12 c13)] w15 fun w16 => (straightedgeref03_Of.H K fu).1 (some q1) (some q3) (some q14) 0 w16
def straightedgeref03_Of.hd (K : Value → World → Prop) (n id : Nat) (t : List Value) (w : World) : Prop :=
  match id with
  | 3 => asP (t.getD 1 undef) fun z1 => asP (t.getD 2 undef) fun z2 => asP (t.getD 3 undef) fun z3 => asI .i64 (t.getD 4 undef) fun z4 => (straightedgeref03_Of.H K n).1 z1 z2 z3 z4 w
  | 6 => asP (t.getD 1 undef) fun z1 => asP (t.getD 2 undef) fun z2 => asP (t.getD 3 undef) fun z3 => asI .i64 (t.getD 4 undef) fun z4 => asI .i64 (t.getD 5 undef) fun z5 => (straightedgeref03_Of.H K n).2 z1 z2 z3 z4 z5 w
  | _ => False
theorem straightedgeref03_Of.t3 (K : Value → World → Prop) (n : Nat) (z1 : Option Addr) (z2 : Option Addr) (z3 : Option Addr) (z4 : Int) (u : Nat → Value) (w : World) (h : (straightedgeref03_Of.H K (n + 1)).1 z1 z2 z3 z4 w) :
    exT prog [3, 6] (straightedgeref03_Of.hd K n) Try.f9 3 41 [(1, (.pointer z1)), (2, (.pointer z2)), (3, (.pointer z3)), (4, (.int .i64 z4))] u w K := Eq.mp (by kernel_rfl) h
theorem straightedgeref03_Of.t6 (K : Value → World → Prop) (n : Nat) (z1 : Option Addr) (z2 : Option Addr) (z3 : Option Addr) (z4 : Int) (z5 : Int) (u : Nat → Value) (w : World) (h : (straightedgeref03_Of.H K (n + 1)).2 z1 z2 z3 z4 z5 w) :
    exT prog [3, 6] (straightedgeref03_Of.hd K n) Try.f9 6 41 [(1, (.pointer z1)), (2, (.pointer z2)), (3, (.pointer z3)), (4, (.int .i64 z4)), (5, (.int .i64 z5))] u w K := Eq.mp (by kernel_rfl) h
theorem straightedgeref03_Of.ok (fu : Nat) {A0_0p : Option Addr} {A0_0n A0_0c : Nat} {A0_1 : Int} {A0_2 : Int} {A0_3 : Int} {A0_4 : Int} {w : World} {K : Value → World → Prop} (h : straightedgeref03_Of.x fu A0_0p A0_0n A0_0c A0_1 A0_2 A0_3 A0_4 w K) : straightedgeref03_Of.call [(.agg ⟨[(.slice A0_0p A0_0n A0_0c), (.int .i64 A0_1), (.int .i64 A0_2), (.int .i64 A0_3), (.int .i64 A0_4)]⟩)] w K := by
  refine callF_of_ex (cuts := [3, 6]) (H := straightedgeref03_Of.hd K) (N := 41) Try.func9 rfl mixed (by kernel_rfl) ?_ ?_ ?_ rfl (n := fu) (Eq.mp (by kernel_rfl) h)
  · intro id hid; simp only [List.mem_cons, List.not_mem_nil, or_false] at hid; rcases hid with rfl | rfl
    · exact (by kernel_rfl : (stacks (bodyOf Try.f9) []).filter (headIs 3) = [at_ (bodyOf Try.f9) 3])
    · exact (by kernel_rfl : (stacks (bodyOf Try.f9) []).filter (headIs 6) = [at_ (bodyOf Try.f9) 6])
  · intro id t w h
    unfold straightedgeref03_Of.hd at h
    split at h
    · obtain ⟨z1, _, h⟩ := asP_elim h
      obtain ⟨z2, _, h⟩ := asP_elim h
      obtain ⟨z3, _, h⟩ := asP_elim h
      obtain ⟨z4, _, h⟩ := asI_elim h
      exact h
    · obtain ⟨z1, _, h⟩ := asP_elim h
      obtain ⟨z2, _, h⟩ := asP_elim h
      obtain ⟨z3, _, h⟩ := asP_elim h
      obtain ⟨z4, _, h⟩ := asI_elim h
      obtain ⟨z5, _, h⟩ := asI_elim h
      exact h
    · exact h
  · intro n id hid t w hl h; simp only [List.mem_cons, List.not_mem_nil, or_false] at hid; rcases hid with rfl | rfl
    · replace h : asP (t.getD 1 undef) fun z1 => asP (t.getD 2 undef) fun z2 => asP (t.getD 3 undef) fun z3 => asI .i64 (t.getD 4 undef) fun z4 => (straightedgeref03_Of.H K (n + 1)).1 z1 z2 z3 z4 w := h
      obtain ⟨z1, e1, h⟩ := asP_elim h
      obtain ⟨z2, e2, h⟩ := asP_elim h
      obtain ⟨z3, e3, h⟩ := asP_elim h
      obtain ⟨z4, e4, h⟩ := asI_elim h
      rw [mk_of hl [(1, (.pointer z1)), (2, (.pointer z2)), (3, (.pointer z3)), (4, (.int .i64 z4))] (by simp only [List.forall_mem_cons, List.not_mem_nil, false_implies, implies_true, and_true]; exact ⟨e1, e2, e3, e4⟩)]
      exact straightedgeref03_Of.t3 K n z1 z2 z3 z4 _ w h
    · replace h : asP (t.getD 1 undef) fun z1 => asP (t.getD 2 undef) fun z2 => asP (t.getD 3 undef) fun z3 => asI .i64 (t.getD 4 undef) fun z4 => asI .i64 (t.getD 5 undef) fun z5 => (straightedgeref03_Of.H K (n + 1)).2 z1 z2 z3 z4 z5 w := h
      obtain ⟨z1, e1, h⟩ := asP_elim h
      obtain ⟨z2, e2, h⟩ := asP_elim h
      obtain ⟨z3, e3, h⟩ := asP_elim h
      obtain ⟨z4, e4, h⟩ := asI_elim h
      obtain ⟨z5, e5, h⟩ := asI_elim h
      rw [mk_of hl [(1, (.pointer z1)), (2, (.pointer z2)), (3, (.pointer z3)), (4, (.int .i64 z4)), (5, (.int .i64 z5))] (by simp only [List.forall_mem_cons, List.not_mem_nil, false_implies, implies_true, and_true]; exact ⟨e1, e2, e3, e4, e5⟩)]
      exact straightedgeref03_Of.t6 K n z1 z2 z3 z4 z5 _ w h
/-! the same, the local variables taken out -/
def straightedgeref03_Of.e3 (K : Value → World → Prop) (h3 : Nat → Option Addr → Nat → Nat → Int → Int → Int → Int → Nat → Int → Int → Option Addr → Nat → Nat → Nat → Int → Int → Option Addr → Nat → Nat → Int → World → Prop) (h6 : Nat → Option Addr → Nat → Nat → Int → Int → Int → Int → Nat → Int → Int → Option Addr → Nat → Nat → Nat → Int → Int → Option Addr → Nat → Nat → Int → Int → World → Prop) (k1 : Nat) (y1_0p : Option Addr) (y1_0n y1_0c : Nat) (y1_1 : Int) (y1_2 : Int) (y1_3 : Int) (y1_4 : Int) (k2 : Nat) (y2_0 : Int) (y2_1 : Int) (y2_2p : Option Addr) (y2_2n y2_2c : Nat) (k3 : Nat) (y3_0 : Int) (y3_1 : Int) (y3_2p : Option Addr) (y3_2n y3_2c : Nat) (z4 : Int) (w : World) : Prop := br (decide (z4 < y1_2)) (h6 k1 y1_0p y1_0n y1_0c y1_1 y1_2 y1_3 y1_4 k2 y2_0 y2_1 y2_2p y2_2n y2_2c k3 y3_0 y3_1 y3_2p y3_2n y3_2c z4 0 w) (∀ w10 : World, Exc k2 w w10 → K (.agg ⟨[(.int .i64 y3_0), (.int .i64 y3_1), (.slice y3_2p y3_2n y3_2c)]⟩) w10)
def straightedgeref03_Of.e6 (K : Value → World → Prop) (h3 : Nat → Option Addr → Nat → Nat → Int → Int → Int → Int → Nat → Int → Int → Option Addr → Nat → Nat → Nat → Int → Int → Option Addr → Nat → Nat → Int → World → Prop) (h6 : Nat → Option Addr → Nat → Nat → Int → Int → Int → Int → Nat → Int → Int → Option Addr → Nat → Nat → Nat → Int → Int → Option Addr → Nat → Nat → Int → Int → World → Prop) (k1 : Nat) (y1_0p : Option Addr) (y1_0n y1_0c : Nat) (y1_1 : Int) (y1_2 : Int) (y1_3 : Int) (y1_4 : Int) (k2 : Nat) (y2_0 : Int) (y2_1 : Int) (y2_2p : Option Addr) (y2_2n y2_2c : Nat) (k3 : Nat) (y3_0 : Int) (y3_1 : Int) (y3_2p : Option Addr) (y3_2n y3_2c : Nat) (z4 : Int) (z5 : Int) (w : World) : Prop := br (decide (z5 < y1_3)) (ptrSome y1_0p fun q18 => (0 : Int) ≤ (IntKind.i64.wrap ((IntKind.i64.wrap (y1_1 + z4)) + (IntKind.i64.wrap (z5 * y1_4)))) ∧ (IntKind.i64.wrap ((IntKind.i64.wrap (y1_1 + z4)) + (IntKind.i64.wrap (z5 * y1_4)))) < ((y1_0n : Nat) : Int) ∧ rd_f64 w.drew (q18.add (Int.toNat (IntKind.i64.wrap ((IntKind.i64.wrap (y1_1 + z4)) + (IntKind.i64.wrap (z5 * y1_4)))))) fun x19 => straightedgeref03_M_Set.call [(.agg ⟨[(.int .i64 y3_0), (.int .i64 y3_1), (.slice y3_2p y3_2n y3_2c)]⟩), (.int .i64 z4), (.int .i64 z5), (.float .f64 x19)] w.drew fun v20 w21 => Stay [k1, k2, k3] w.drew w21 ∧ v20 = (.tuple ⟨[]⟩) ∧ h6 k1 y1_0p y1_0n y1_0c y1_1 y1_2 y1_3 y1_4 k2 y2_0 y2_1 y2_2p y2_2n y2_2c k3 y3_0 y3_1 y3_2p y3_2n y3_2c z4 (IntKind.i64.wrap (z5 + 1)) w21) (h3 k1 y1_0p y1_0n y1_0c y1_1 y1_2 y1_3 y1_4 k2 y2_0 y2_1 y2_2p y2_2n y2_2c k3 y3_0 y3_1 y3_2p y3_2n y3_2c (IntKind.i64.wrap (z4 + 1)) w)
def straightedgeref03_Of.I (K : Value → World → Prop) : Nat → (Nat → Option Addr → Nat → Nat → Int → Int → Int → Int → Nat → Int → Int → Option Addr → Nat → Nat → Nat → Int → Int → Option Addr → Nat → Nat → Int → World → Prop) × (Nat → Option Addr → Nat → Nat → Int → Int → Int → Int → Nat → Int → Int → Option Addr → Nat → Nat → Nat → Int → Int → Option Addr → Nat → Nat → Int → Int → World → Prop)
  | 0 => (fun _ _ _ _ _ _ _ _ _ _ _ _ _ _ _ _ _ _ _ _ _ _ => False, fun _ _ _ _ _ _ _ _ _ _ _ _ _ _ _ _ _ _ _ _ _ _ _ => False)
  | fu + 1 => (straightedgeref03_Of.e3 K (straightedgeref03_Of.I K fu).1 (straightedgeref03_Of.I K fu).2, straightedgeref03_Of.e6 K (straightedgeref03_Of.I K fu).1 (straightedgeref03_Of.I K fu).2)
def straightedgeref03_Of.s (fu : Nat) (A0_0p : Option Addr) (A0_0n A0_0c : Nat) (A0_1 : Int) (A0_2 : Int) (A0_3 : Int) (A0_4 : Int) (w : World) (K : Value → World → Prop) : Prop := ∀ (k3 : Nat) (w2 : World), k3 = w.heap.size → k3 < w2.heap.size → Ext w w2 → ∀ (k7 : Nat) (w6 : World), k7 = w2.heap.size → k7 < w6.heap.size → Ext w2 w6 → straightedgeref03_New.call [(.int .i64 A0_2), (.int .i64 A0_3)] w6 fun v11 w12 => Stay [k7, k3] w6 w12 ∧ ∃ i13 : Int, ∃ i14 : Int, ∃ (a15 : Option Addr) (n16 c17 : Nat), v11 = (.agg ⟨[(.int .i64 i13), (.int .i64 i14), (.slice a15 n16 c17)]⟩) ∧ ∀ (k20 : Nat) (w19 : World), k20 = w12.heap.size → k20 < w19.heap.size → Ext w12 w19 → ∀ w22 : World, Exc k20 w19 w22 → (straightedgeref03_Of.I K fu).1 k3 A0_0p A0_0n A0_0c A0_1 A0_2 A0_3 A0_4 k7 0 0 none 0 0 k20 i13 i14 a15 n16 c17 0 w22
theorem straightedgeref03_Of.b3_s {K : Value → World → Prop} {x3 : Option Addr → Option Addr → Option Addr → Int → World → Prop} {x6 : Option Addr → Option Addr → Option Addr → Int → Int → World → Prop} {s3 : Nat → Option Addr → Nat → Nat → Int → Int → Int → Int → Nat → Int → Int → Option Addr → Nat → Nat → Nat → Int → Int → Option Addr → Nat → Nat → Int → World → Prop} {s6 : Nat → Option Addr → Nat → Nat → Int → Int → Int → Int → Nat → Int → Int → Option Addr → Nat → Nat → Nat → Int → Int → Option Addr → Nat → Nat → Int → Int → World → Prop} (i3 : ∀ {q1 : Addr} {y1_0p : Option Addr} {y1_0n y1_0c : Nat} {y1_1 : Int} {y1_2 : Int} {y1_3 : Int} {y1_4 : Int} {q2 : Addr} {y2_0 : Int} {y2_1 : Int} {y2_2p : Option Addr} {y2_2n y2_2c : Nat} {q3 : Addr} {y3_0 : Int} {y3_1 : Int} {y3_2p : Option Addr} {y3_2n y3_2c : Nat} {z4 : Int} {w : World}, s3 q1.block y1_0p y1_0n y1_0c y1_1 y1_2 y1_3 y1_4 q2.block y2_0 y2_1 y2_2p y2_2n y2_2c q3.block y3_0 y3_1 y3_2p y3_2n y3_2c z4 w → St w [(q1, [(.slice y1_0p y1_0n y1_0c), (.int .i64 y1_1), (.int .i64 y1_2), (.int .i64 y1_3), (.int .i64 y1_4)]), (q2, [(.int .i64 y2_0), (.int .i64 y2_1), (.slice y2_2p y2_2n y2_2c)]), (q3, [(.int .i64 y3_0), (.int .i64 y3_1), (.slice y3_2p y3_2n y3_2c)])] → x3 (some q1) (some q2) (some q3) z4 w) (i6 : ∀ {q1 : Addr} {y1_0p : Option Addr} {y1_0n y1_0c : Nat} {y1_1 : Int} {y1_2 : Int} {y1_3 : Int} {y1_4 : Int} {q2 : Addr} {y2_0 : Int} {y2_1 : Int} {y2_2p : Option Addr} {y2_2n y2_2c : Nat} {q3 : Addr} {y3_0 : Int} {y3_1 : Int} {y3_2p : Option Addr} {y3_2n y3_2c : Nat} {z4 : Int} {z5 : Int} {w : World}, s6 q1.block y1_0p y1_0n y1_0c y1_1 y1_2 y1_3 y1_4 q2.block y2_0 y2_1 y2_2p y2_2n y2_2c q3.block y3_0 y3_1 y3_2p y3_2n y3_2c z4 z5 w → St w [(q1, [(.slice y1_0p y1_0n y1_0c), (.int .i64 y1_1), (.int .i64 y1_2), (.int .i64 y1_3), (.int .i64 y1_4)]), (q2, [(.int .i64 y2_0), (.int .i64 y2_1), (.slice y2_2p y2_2n y2_2c)]), (q3, [(.int .i64 y3_0), (.int .i64 y3_1), (.slice y3_2p y3_2n y3_2c)])] → x6 (some q1) (some q2) (some q3) z4 z5 w) {q1 : Addr} {y1_0p : Option Addr} {y1_0n y1_0c : Nat} {y1_1 : Int} {y1_2 : Int} {y1_3 : Int} {y1_4 : Int} {q2 : Addr} {y2_0 : Int} {y2_1 : Int} {y2_2p : Option Addr} {y2_2n y2_2c : Nat} {q3 : Addr} {y3_0 : Int} {y3_1 : Int} {y3_2p : Option Addr} {y3_2n y3_2c : Nat} {z4 : Int} {w : World} (h : straightedgeref03_Of.e3 K s3 s6 q1.block y1_0p y1_0n y1_0c y1_1 y1_2 y1_3 y1_4 q2.block y2_0 y2_1 y2_2p y2_2n y2_2c q3.block y3_0 y3_1 y3_2p y3_2n y3_2c z4 w) (st : St w [(q1, [(.slice y1_0p y1_0n y1_0c), (.int .i64 y1_1), (.int .i64 y1_2), (.int .i64 y1_3), (.int .i64 y1_4)]), (q2, [(.int .i64 y2_0), (.int .i64 y2_1), (.slice y2_2p y2_2n y2_2c)]), (q3, [(.int .i64 y3_0), (.int .i64 y3_1), (.slice y3_2p y3_2n y3_2c)])]) : straightedgeref03_Of.b3 K x3 x6 (some q1) (some q2) (some q3) z4 w := by
  unfold straightedgeref03_Of.b3
  unfold straightedgeref03_Of.e3 at h
  refine ptrSome_intro rfl ?_
  refine rd_i64.bx 0 2 st rfl rfl rfl ?_
  refine br_mono (fun h => ?_) (fun h => ?_) h
  · exact i6 h (st.pick [0, 1, 2] (by decide))
  · refine ptrSome_intro rfl ?_
    refine rd_i64_i64_l.bx 2 0 st rfl rfl rfl rfl rfl ?_
    refine ptrSome_intro rfl ?_
    refine St.put 1 0 st rfl rfl rfl rfl (fun w10 he st => ?_)
    replace h := h w10 he
    refine ptrSome_intro rfl ?_
    refine rd_i64_i64_l.bx 1 0 st rfl rfl rfl rfl rfl ?_
    exact h
theorem straightedgeref03_Of.b6_s {K : Value → World → Prop} {x3 : Option Addr → Option Addr → Option Addr → Int → World → Prop} {x6 : Option Addr → Option Addr → Option Addr → Int → Int → World → Prop} {s3 : Nat → Option Addr → Nat → Nat → Int → Int → Int → Int → Nat → Int → Int → Option Addr → Nat → Nat → Nat → Int → Int → Option Addr → Nat → Nat → Int → World → Prop} {s6 : Nat → Option Addr → Nat → Nat → Int → Int → Int → Int → Nat → Int → Int → Option Addr → Nat → Nat → Nat → Int → Int → Option Addr → Nat → Nat → Int → Int → World → Prop} (i3 : ∀ {q1 : Addr} {y1_0p : Option Addr} {y1_0n y1_0c : Nat} {y1_1 : Int} {y1_2 : Int} {y1_3 : Int} {y1_4 : Int} {q2 : Addr} {y2_0 : Int} {y2_1 : Int} {y2_2p : Option Addr} {y2_2n y2_2c : Nat} {q3 : Addr} {y3_0 : Int} {y3_1 : Int} {y3_2p : Option Addr} {y3_2n y3_2c : Nat} {z4 : Int} {w : World}, s3 q1.block y1_0p y1_0n y1_0c y1_1 y1_2 y1_3 y1_4 q2.block y2_0 y2_1 y2_2p y2_2n y2_2c q3.block y3_0 y3_1 y3_2p y3_2n y3_2c z4 w → St w [(q1, [(.slice y1_0p y1_0n y1_0c), (.int .i64 y1_1), (.int .i64 y1_2), (.int .i64 y1_3), (.int .i64 y1_4)]), (q2, [(.int .i64 y2_0), (.int .i64 y2_1), (.slice y2_2p y2_2n y2_2c)]), (q3, [(.int .i64 y3_0), (.int .i64 y3_1), (.slice y3_2p y3_2n y3_2c)])] → x3 (some q1) (some q2) (some q3) z4 w) (i6 : ∀ {q1 : Addr} {y1_0p : Option Addr} {y1_0n y1_0c : Nat} {y1_1 : Int} {y1_2 : Int} {y1_3 : Int} {y1_4 : Int} {q2 : Addr} {y2_0 : Int} {y2_1 : Int} {y2_2p : Option Addr} {y2_2n y2_2c : Nat} {q3 : Addr} {y3_0 : Int} {y3_1 : Int} {y3_2p : Option Addr} {y3_2n y3_2c : Nat} {z4 : Int} {z5 : Int} {w : World}, s6 q1.block y1_0p y1_0n y1_0c y1_1 y1_2 y1_3 y1_4 q2.block y2_0 y2_1 y2_2p y2_2n y2_2c q3.block y3_0 y3_1 y3_2p y3_2n y3_2c z4 z5 w → St w [(q1, [(.slice y1_0p y1_0n y1_0c), (.int .i64 y1_1), (.int .i64 y1_2), (.int .i64 y1_3), (.int .i64 y1_4)]), (q2, [(.int .i64 y2_0), (.int .i64 y2_1), (.slice y2_2p y2_2n y2_2c)]), (q3, [(.int .i64 y3_0), (.int .i64 y3_1), (.slice y3_2p y3_2n y3_2c)])] → x6 (some q1) (some q2) (some q3) z4 z5 w) {q1 : Addr} {y1_0p : Option Addr} {y1_0n y1_0c : Nat} {y1_1 : Int} {y1_2 : Int} {y1_3 : Int} {y1_4 : Int} {q2 : Addr} {y2_0 : Int} {y2_1 : Int} {y2_2p : Option Addr} {y2_2n y2_2c : Nat} {q3 : Addr} {y3_0 : Int} {y3_1 : Int} {y3_2p : Option Addr} {y3_2n y3_2c : Nat} {z4 : Int} {z5 : Int} {w : World} (h : straightedgeref03_Of.e6 K s3 s6 q1.block y1_0p y1_0n y1_0c y1_1 y1_2 y1_3 y1_4 q2.block y2_0 y2_1 y2_2p y2_2n y2_2c q3.block y3_0 y3_1 y3_2p y3_2n y3_2c z4 z5 w) (st : St w [(q1, [(.slice y1_0p y1_0n y1_0c), (.int .i64 y1_1), (.int .i64 y1_2), (.int .i64 y1_3), (.int .i64 y1_4)]), (q2, [(.int .i64 y2_0), (.int .i64 y2_1), (.slice y2_2p y2_2n y2_2c)]), (q3, [(.int .i64 y3_0), (.int .i64 y3_1), (.slice y3_2p y3_2n y3_2c)])]) : straightedgeref03_Of.b6 K x3 x6 (some q1) (some q2) (some q3) z4 z5 w := by
  unfold straightedgeref03_Of.b6
  unfold straightedgeref03_Of.e6 at h
  refine ptrSome_intro rfl ?_
  refine rd_i64.bx 0 3 st rfl rfl rfl ?_
  refine br_mono (fun h => ?_) (fun h => ?_) h
  · replace st := st.drew
    have st3 := st
    refine ptrSome_intro rfl ?_
    refine rd_i64_i64_l.bx 2 0 st3 rfl rfl rfl rfl rfl ?_
    refine ptrSome_intro rfl ?_
    refine rd_l.bx 0 0 st3 rfl rfl rfl ?_
    refine ptrSome_intro rfl ?_
    refine rd_i64.bx 0 1 st3 rfl rfl rfl ?_
    refine ptrSome_intro rfl ?_
    refine rd_i64.bx 0 4 st3 rfl rfl rfl ?_
    refine ptrSome_mono (fun q18 h => ?_) h
    refine And.imp_right (fun h => ?_) h
    refine And.imp_right (fun h => ?_) h
    refine rd_f64.mono (fun x19 h => ?_) h
    refine CallF.mono h (fun v20 w21 h => ?_)
    obtain ⟨hK, h⟩ := h
    replace st := st.stay hK
    refine And.imp_right (fun h => ?_) h
    exact i6 h (st.pick [0, 1, 2] (by decide))
  · exact i3 h (st.pick [0, 1, 2] (by decide))
theorem straightedgeref03_Of.H_s {K : Value → World → Prop} (fu : Nat) : (∀ {q1 : Addr} {y1_0p : Option Addr} {y1_0n y1_0c : Nat} {y1_1 : Int} {y1_2 : Int} {y1_3 : Int} {y1_4 : Int} {q2 : Addr} {y2_0 : Int} {y2_1 : Int} {y2_2p : Option Addr} {y2_2n y2_2c : Nat} {q3 : Addr} {y3_0 : Int} {y3_1 : Int} {y3_2p : Option Addr} {y3_2n y3_2c : Nat} {z4 : Int} {w : World}, (straightedgeref03_Of.I K fu).1 q1.block y1_0p y1_0n y1_0c y1_1 y1_2 y1_3 y1_4 q2.block y2_0 y2_1 y2_2p y2_2n y2_2c q3.block y3_0 y3_1 y3_2p y3_2n y3_2c z4 w → St w [(q1, [(.slice y1_0p y1_0n y1_0c), (.int .i64 y1_1), (.int .i64 y1_2), (.int .i64 y1_3), (.int .i64 y1_4)]), (q2, [(.int .i64 y2_0), (.int .i64 y2_1), (.slice y2_2p y2_2n y2_2c)]), (q3, [(.int .i64 y3_0), (.int .i64 y3_1), (.slice y3_2p y3_2n y3_2c)])] → (straightedgeref03_Of.H K fu).1 (some q1) (some q2) (some q3) z4 w) ∧ (∀ {q1 : Addr} {y1_0p : Option Addr} {y1_0n y1_0c : Nat} {y1_1 : Int} {y1_2 : Int} {y1_3 : Int} {y1_4 : Int} {q2 : Addr} {y2_0 : Int} {y2_1 : Int} {y2_2p : Option Addr} {y2_2n y2_2c : Nat} {q3 : Addr} {y3_0 : Int} {y3_1 : Int} {y3_2p : Option Addr} {y3_2n y3_2c : Nat} {z4 : Int} {z5 : Int} {w : World}, (straightedgeref03_Of.I K fu).2 q1.block y1_0p y1_0n y1_0c y1_1 y1_2 y1_3 y1_4 q2.block y2_0 y2_1 y2_2p y2_2n y2_2c q3.block y3_0 y3_1 y3_2p y3_2n y3_2c z4 z5 w → St w [(q1, [(.slice y1_0p y1_0n y1_0c), (.int .i64 y1_1), (.int .i64 y1_2), (.int .i64 y1_3), (.int .i64 y1_4)]), (q2, [(.int .i64 y2_0), (.int .i64 y2_1), (.slice y2_2p y2_2n y2_2c)]), (q3, [(.int .i64 y3_0), (.int .i64 y3_1), (.slice y3_2p y3_2n y3_2c)])] → (straightedgeref03_Of.H K fu).2 (some q1) (some q2) (some q3) z4 z5 w) := by
  induction fu with
  | zero => exact ⟨fun h _ => False.elim h, fun h _ => False.elim h⟩
  | succ fu ih => exact ⟨fun h st => straightedgeref03_Of.b3_s (K := K) (x3 := (straightedgeref03_Of.H K fu).1) (s3 := (straightedgeref03_Of.I K fu).1) (x6 := (straightedgeref03_Of.H K fu).2) (s6 := (straightedgeref03_Of.I K fu).2) ih.1 ih.2 h st, fun h st => straightedgeref03_Of.b6_s (K := K) (x3 := (straightedgeref03_Of.H K fu).1) (s3 := (straightedgeref03_Of.I K fu).1) (x6 := (straightedgeref03_Of.H K fu).2) (s6 := (straightedgeref03_Of.I K fu).2) ih.1 ih.2 h st⟩
theorem straightedgeref03_Of.os (fu : Nat) {A0_0p : Option Addr} {A0_0n A0_0c : Nat} {A0_1 : Int} {A0_2 : Int} {A0_3 : Int} {A0_4 : Int} {w : World} {K : Value → World → Prop} (h : straightedgeref03_Of.s fu A0_0p A0_0n A0_0c A0_1 A0_2 A0_3 A0_4 w K) : straightedgeref03_Of.call [(.agg ⟨[(.slice A0_0p A0_0n A0_0c), (.int .i64 A0_1), (.int .i64 A0_2), (.int .i64 A0_3), (.int .i64 A0_4)]⟩)] w K := by
  refine straightedgeref03_Of.ok fu ?_
  have st := St.nil w
  unfold straightedgeref03_Of.x
  unfold straightedgeref03_Of.s at h
  refine St.new (St.nil _) (fun q1 w2 hk hlt he st => ?_)
  replace h := h q1.block w2 hk hlt he
  refine St.new st (fun q5 w6 hk hlt he st => ?_)
  replace h := h q5.block w6 hk hlt he
  refine rd_i64.bx 1 2 st rfl rfl rfl ?_
  refine rd_i64.bx 1 3 st rfl rfl rfl ?_
  refine CallF.mono h (fun v11 w12 h => ?_)
  obtain ⟨hK, h⟩ := h
  replace st := st.stay hK
  obtain ⟨i13, i14, a15, n16, c17, h⟩ := h
  refine ⟨i13, i14, a15, n16, c17, ?_⟩
  refine And.imp_right (fun h => ?_) h
  refine St.new st (fun q18 w19 hk hlt he st => ?_)
  replace h := h q18.block w19 hk hlt he
  refine St.put 0 0 st rfl rfl rfl rfl (fun w22 he st => ?_)
  replace h := h w22 he
  exact (straightedgeref03_Of.H_s fu).1 h (st.pick [2, 1, 0] (by decide))

/-! ### (straightedge/straightedgeref03.M).At: function 13 -/
def straightedgeref03_M_At.x (A0_0 : Int) (A0_1 : Int) (A0_2p : Option Addr) (A0_2n A0_2c : Nat) (A1 : Int) (A2 : Int) (w : World) (K : Value → World → Prop) : Prop := newB [(.int .i64 A0_0), (.int .i64 A0_1), (.slice A0_2p A0_2n A0_2c)] 29 w fun q1 w2 => rd_l w2 (q1.add 2) fun a3 n4 c5 => rd_i64 w2 (q1.add 1) fun i6 => ptrSome a3 fun q7 => (0 : Int) ≤ (IntKind.i64.wrap ((IntKind.i64.wrap (A1 * i6)) + A2)) ∧ (IntKind.i64.wrap ((IntKind.i64.wrap (A1 * i6)) + A2)) < ((n4 : Nat) : Int) ∧ rd_f64 w2 (q7.add (Int.toNat (IntKind.i64.wrap ((IntKind.i64.wrap (A1 * i6)) + A2)))) fun x8 => K (.float .f64 x8) w2
theorem straightedgeref03_M_At.ok {A0_0 : Int} {A0_1 : Int} {A0_2p : Option Addr} {A0_2n A0_2c : Nat} {A1 : Int} {A2 : Int} {w : World} {K : Value → World → Prop} (h : straightedgeref03_M_At.x A0_0 A0_1 A0_2p A0_2n A0_2c A1 A2 w K) : straightedgeref03_M_At.call [(.agg ⟨[(.int .i64 A0_0), (.int .i64 A0_1), (.slice A0_2p A0_2n A0_2c)]⟩), (.int .i64 A1), (.int .i64 A2)] w K :=
  callF_of_ex0 (f := Try.f13) Try.func13 rfl mixed (by kernel_rfl) (Eq.mp (by kernel_rfl) h)
/-! the same, the local variables taken out -/
def straightedgeref03_M_At.s (A0_0 : Int) (A0_1 : Int) (A0_2p : Option Addr) (A0_2n A0_2c : Nat) (A1 : Int) (A2 : Int) (w : World) (K : Value → World → Prop) : Prop := ∀ (k3 : Nat) (w2 : World), k3 = w.heap.size → k3 < w2.heap.size → Ext w w2 → ptrSome A0_2p fun q9 => (0 : Int) ≤ (IntKind.i64.wrap ((IntKind.i64.wrap (A1 * A0_1)) + A2)) ∧ (IntKind.i64.wrap ((IntKind.i64.wrap (A1 * A0_1)) + A2)) < ((A0_2n : Nat) : Int) ∧ rd_f64 w2 (q9.add (Int.toNat (IntKind.i64.wrap ((IntKind.i64.wrap (A1 * A0_1)) + A2)))) fun x10 => K (.float .f64 x10) w2
theorem straightedgeref03_M_At.os {A0_0 : Int} {A0_1 : Int} {A0_2p : Option Addr} {A0_2n A0_2c : Nat} {A1 : Int} {A2 : Int} {w : World} {K : Value → World → Prop} (h : straightedgeref03_M_At.s A0_0 A0_1 A0_2p A0_2n A0_2c A1 A2 w K) : straightedgeref03_M_At.call [(.agg ⟨[(.int .i64 A0_0), (.int .i64 A0_1), (.slice A0_2p A0_2n A0_2c)]⟩), (.int .i64 A1), (.int .i64 A2)] w K := by
  refine straightedgeref03_M_At.ok ?_
  have st := St.nil w
  unfold straightedgeref03_M_At.x
  unfold straightedgeref03_M_At.s at h
  refine St.new (St.nil _) (fun q1 w2 hk hlt he st => ?_)
  replace h := h q1.block w2 hk hlt he
  refine rd_l.bx 0 2 st rfl rfl rfl ?_
  refine rd_i64.bx 0 1 st rfl rfl rfl ?_
  exact h

/-! ### straightedge/straightedgeref03.within: function 28 -/
def straightedgeref03_within.x (A0 : Int) (A1 : Int) (A2 : Int) (A3 : Int) (A4 : Int) (w : World) (K : Value → World → Prop) : Prop := br (decide (A1 ≥ A0)) (K (.bool false) w) (br (decide (A4 ≥ (IntKind.i64.wrap (A0 - A1)))) (K (.bool false) w) (br (A2 == 0) (K (.bool true) w) (br (A2 == 0) (False) (K (.bool (decide (A3 ≤ (IntKind.i64.wrap (Int.tdiv (IntKind.i64.wrap ((IntKind.i64.wrap ((IntKind.i64.wrap (A0 - A1)) - A4)) - 1)) A2))))) w))))
theorem straightedgeref03_within.ok {A0 : Int} {A1 : Int} {A2 : Int} {A3 : Int} {A4 : Int} {w : World} {K : Value → World → Prop} (h : straightedgeref03_within.x A0 A1 A2 A3 A4 w K) : straightedgeref03_within.call [(.int .i64 A0), (.int .i64 A1), (.int .i64 A2), (.int .i64 A3), (.int .i64 A4)] w K :=
  callF_of_ex0 (f := Try.f28) Try.func28 rfl mixed (by kernel_rfl) (Eq.mp (by kernel_rfl) h)

/-! ### straightedge/straightedgeref03.New: function 30 -/
def straightedgeref03_New.x (A0 : Int) (A1 : Int) (w : World) (K : Value → World → Prop) : Prop := newB [(.int .i64 0), (.int .i64 0), (.slice none 0 0)] 29 w fun q1 w2 => (0 : Int) ≤ (IntKind.i64.wrap (A0 * A1)) ∧ ((IntKind.i64.wrap (A0 * A1)) : Int) ≤ (IntKind.i64.wrap (A0 * A1)) ∧ ((8 : Nat) : Int) * (IntKind.i64.wrap (A0 * A1)) ≤ 281474976710656 ∧ (IntKind.i64.wrap (A0 * A1)) ≤ 9223372036854775807 ∧ newB ((List.range (Int.toNat (IntKind.i64.wrap (A0 * A1)))).map fun j => List.getD [(.float .f64 0)] (j % 1) default) 38 w2 fun q3 w4 => stPT q1 0 [(.int .i64 A0), (.int .i64 A1), (.slice (some q3) (Int.toNat (IntKind.i64.wrap (A0 * A1))) (Int.toNat (IntKind.i64.wrap (A0 * A1))))] w4 fun w5 => rd_i64_i64_l w5 q1 fun i6 i7 a8 n9 c10 => K (.agg ⟨[(.int .i64 i6), (.int .i64 i7), (.slice a8 n9 c10)]⟩) w5
theorem straightedgeref03_New.ok {A0 : Int} {A1 : Int} {w : World} {K : Value → World → Prop} (h : straightedgeref03_New.x A0 A1 w K) : straightedgeref03_New.call [(.int .i64 A0), (.int .i64 A1)] w K :=
  callF_of_ex0 (f := Try.f30) Try.func30 rfl mixed (by kernel_rfl) (Eq.mp (by kernel_rfl) h)
/-! the same, the local variables taken out -/
def straightedgeref03_New.s (A0 : Int) (A1 : Int) (w : World) (K : Value → World → Prop) : Prop := ∀ (k3 : Nat) (w2 : World), k3 = w.heap.size → k3 < w2.heap.size → Ext w w2 → (0 : Int) ≤ (IntKind.i64.wrap (A0 * A1)) ∧ ((IntKind.i64.wrap (A0 * A1)) : Int) ≤ (IntKind.i64.wrap (A0 * A1)) ∧ ((8 : Nat) : Int) * (IntKind.i64.wrap (A0 * A1)) ≤ 281474976710656 ∧ (IntKind.i64.wrap (A0 * A1)) ≤ 9223372036854775807 ∧ newB ((List.range (Int.toNat (IntKind.i64.wrap (A0 * A1)))).map fun j => List.getD [(.float .f64 0)] (j % 1) default) 38 w2 fun q5 w6 => ∀ w7 : World, Exc k3 w6 w7 → K (.agg ⟨[(.int .i64 A0), (.int .i64 A1), (.slice ((some q5) : Option Addr) (Int.toNat (IntKind.i64.wrap (A0 * A1))) (Int.toNat (IntKind.i64.wrap (A0 * A1))))]⟩) w7
theorem straightedgeref03_New.os {A0 : Int} {A1 : Int} {w : World} {K : Value → World → Prop} (h : straightedgeref03_New.s A0 A1 w K) : straightedgeref03_New.call [(.int .i64 A0), (.int .i64 A1)] w K := by
  refine straightedgeref03_New.ok ?_
  have st := St.nil w
  unfold straightedgeref03_New.x
  unfold straightedgeref03_New.s at h
  refine St.new (St.nil _) (fun q1 w2 hk hlt he st => ?_)
  replace h := h q1.block w2 hk hlt he
  refine And.imp_right (fun h => ?_) h
  refine And.imp_right (fun h => ?_) h
  refine And.imp_right (fun h => ?_) h
  refine And.imp_right (fun h => ?_) h
  refine newB_mono st h (fun q5 w6 st h => ?_)
  refine St.put 0 0 st rfl rfl rfl rfl (fun w7 he st => ?_)
  replace h := h w7 he
  refine rd_i64_i64_l.bx 0 0 st rfl rfl rfl rfl rfl ?_
  exact h

/-! ### (straightedge/straightedgeref03.M).Set: function 31 -/
def straightedgeref03_M_Set.x (A0_0 : Int) (A0_1 : Int) (A0_2p : Option Addr) (A0_2n A0_2c : Nat) (A1 : Int) (A2 : Int) (A3 : Nat) (w : World) (K : Value → World → Prop) : Prop := newB [(.int .i64 A0_0), (.int .i64 A0_1), (.slice A0_2p A0_2n A0_2c)] 29 w fun q1 w2 => rd_l w2 (q1.add 2) fun a3 n4 c5 => rd_i64 w2 (q1.add 1) fun i6 => ptrSome a3 fun q7 => (0 : Int) ≤ (IntKind.i64.wrap ((IntKind.i64.wrap (A1 * i6)) + A2)) ∧ (IntKind.i64.wrap ((IntKind.i64.wrap (A1 * i6)) + A2)) < ((n4 : Nat) : Int) ∧ stPT (q7.add (Int.toNat (IntKind.i64.wrap ((IntKind.i64.wrap (A1 * i6)) + A2)))) 0 [(.float .f64 A3)] w2 fun w8 => K (.tuple ⟨[]⟩) w8
theorem straightedgeref03_M_Set.ok {A0_0 : Int} {A0_1 : Int} {A0_2p : Option Addr} {A0_2n A0_2c : Nat} {A1 : Int} {A2 : Int} {A3 : Nat} {w : World} {K : Value → World → Prop} (h : straightedgeref03_M_Set.x A0_0 A0_1 A0_2p A0_2n A0_2c A1 A2 A3 w K) : straightedgeref03_M_Set.call [(.agg ⟨[(.int .i64 A0_0), (.int .i64 A0_1), (.slice A0_2p A0_2n A0_2c)]⟩), (.int .i64 A1), (.int .i64 A2), (.float .f64 A3)] w K :=
  callF_of_ex0 (f := Try.f31) Try.func31 rfl mixed (by kernel_rfl) (Eq.mp (by kernel_rfl) h)
/-! the same, the local variables taken out -/
def straightedgeref03_M_Set.s (A0_0 : Int) (A0_1 : Int) (A0_2p : Option Addr) (A0_2n A0_2c : Nat) (A1 : Int) (A2 : Int) (A3 : Nat) (w : World) (K : Value → World → Prop) : Prop := ∀ (k3 : Nat) (w2 : World), k3 = w.heap.size → k3 < w2.heap.size → Ext w w2 → ptrSome A0_2p fun q9 => (0 : Int) ≤ (IntKind.i64.wrap ((IntKind.i64.wrap (A1 * A0_1)) + A2)) ∧ (IntKind.i64.wrap ((IntKind.i64.wrap (A1 * A0_1)) + A2)) < ((A0_2n : Nat) : Int) ∧ stPT (q9.add (Int.toNat (IntKind.i64.wrap ((IntKind.i64.wrap (A1 * A0_1)) + A2)))) 0 [(.float .f64 A3)] w2 fun w10 => Keep [k3] w2 w10 ∧ K (.tuple ⟨[]⟩) w10
theorem straightedgeref03_M_Set.os {A0_0 : Int} {A0_1 : Int} {A0_2p : Option Addr} {A0_2n A0_2c : Nat} {A1 : Int} {A2 : Int} {A3 : Nat} {w : World} {K : Value → World → Prop} (h : straightedgeref03_M_Set.s A0_0 A0_1 A0_2p A0_2n A0_2c A1 A2 A3 w K) : straightedgeref03_M_Set.call [(.agg ⟨[(.int .i64 A0_0), (.int .i64 A0_1), (.slice A0_2p A0_2n A0_2c)]⟩), (.int .i64 A1), (.int .i64 A2), (.float .f64 A3)] w K := by
  refine straightedgeref03_M_Set.ok ?_
  have st := St.nil w
  unfold straightedgeref03_M_Set.x
  unfold straightedgeref03_M_Set.s at h
  refine St.new (St.nil _) (fun q1 w2 hk hlt he st => ?_)
  replace h := h q1.block w2 hk hlt he
  refine rd_l.bx 0 2 st rfl rfl rfl ?_
  refine rd_i64.bx 0 1 st rfl rfl rfl ?_
  refine ptrSome_mono (fun q9 h => ?_) h
  refine And.imp_right (fun h => ?_) h
  refine And.imp_right (fun h => ?_) h
  refine stPT_mono (fun w10 h => ?_) h
  obtain ⟨hK, h⟩ := h
  replace st := st.keep hK
  exact h

end Go.Proofs.Ytgdkahbnepafgaa

/-! ### AGref05 -/
/- The explicit forms of the functions of one package, and that the calls do what they say. Written by wip/tools/wk2.py. -/
set_option maxHeartbeats 4000000
set_option maxRecDepth 100000
set_option linter.unusedVariables false
namespace Go.Proofs.Ytgdkahbnepafgaa
open Go Go.Wk

/-! ### straightedge/straightedgeref05.Greatest: function 47 -/
def straightedgeref05_Greatest.b3 (K : Value → World → Prop) (h3 : Option Addr → Nat → Nat → Nat → Int → World → Prop) (h8 : Option Addr → Nat → Nat → Nat → Int → World → Prop) (z0p : Option Addr) (z0n z0c : Nat) (z3 : Nat) (z4 : Int) (w : World) : Prop := br (decide (z4 < ((z0n : Nat) : Int))) (ptrSome z0p fun q2 => (0 : Int) ≤ z4 ∧ z4 < ((z0n : Nat) : Int) ∧ rd_f64 w.drew (q2.add (Int.toNat z4)) fun x3 => ptrSome z0p fun q4 => (0 : Int) ≤ z4 ∧ z4 < ((z0n : Nat) : Int) ∧ rd_f64 w.drew (q4.add (Int.toNat z4)) fun x5 => br (fne .f64 x3 x5) (ptrSome z0p fun q6 => (0 : Int) ≤ z4 ∧ z4 < ((z0n : Nat) : Int) ∧ rd_f64 w.drew (q6.add (Int.toNat z4)) fun x7 => K (.float .f64 x7) w.drew) (h3 z0p z0n z0c z3 (IntKind.i64.wrap (z4 + 1)) (w.drew))) (h8 z0p z0n z0c z3 0 w)
def straightedgeref05_Greatest.b8 (K : Value → World → Prop) (h3 : Option Addr → Nat → Nat → Nat → Int → World → Prop) (h8 : Option Addr → Nat → Nat → Nat → Int → World → Prop) (z0p : Option Addr) (z0n z0c : Nat) (z3 : Nat) (z5 : Int) (w : World) : Prop := br (decide (z5 < ((z0n : Nat) : Int))) (ptrSome z0p fun q1 => (0 : Int) ≤ z5 ∧ z5 < ((z0n : Nat) : Int) ∧ rd_f64 w (q1.add (Int.toNat z5)) fun x2 => br (fgt .f64 x2 z3) (ptrSome z0p fun q3 => (0 : Int) ≤ z5 ∧ z5 < ((z0n : Nat) : Int) ∧ rd_f64 w (q3.add (Int.toNat z5)) fun x4 => h8 z0p z0n z0c x4 (IntKind.i64.wrap (z5 + 1)) w) (h8 z0p z0n z0c z3 (IntKind.i64.wrap (z5 + 1)) w)) (K (.float .f64 z3) w)
def straightedgeref05_Greatest.H (K : Value → World → Prop) : Nat → (Option Addr → Nat → Nat → Nat → Int → World → Prop) × (Option Addr → Nat → Nat → Nat → Int → World → Prop)
  | 0 => (fun _ _ _ _ _ _ => False, fun _ _ _ _ _ _ => False)
  | fu + 1 => (straightedgeref05_Greatest.b3 K (straightedgeref05_Greatest.H K fu).1 (straightedgeref05_Greatest.H K fu).2, straightedgeref05_Greatest.b8 K (straightedgeref05_Greatest.H K fu).1 (straightedgeref05_Greatest.H K fu).2)
def straightedgeref05_Greatest.x (fu : Nat) (A0p : Option Addr) (A0n A0c : Nat) (w : World) (K : Value → World → Prop) : Prop := (straightedgeref05_Greatest.H K fu).1 A0p A0n A0c 0 0 w
def straightedgeref05_Greatest.hd (K : Value → World → Prop) (n id : Nat) (t : List Value) (w : World) : Prop :=
  match id with
  | 3 => asL (t.getD 0 undef) fun z0p z0n z0c => asF .f64 (t.getD 3 undef) fun z3 => asI .i64 (t.getD 4 undef) fun z4 => (straightedgeref05_Greatest.H K n).1 z0p z0n z0c z3 z4 w
  | 8 => asL (t.getD 0 undef) fun z0p z0n z0c => asF .f64 (t.getD 3 undef) fun z3 => asI .i64 (t.getD 5 undef) fun z5 => (straightedgeref05_Greatest.H K n).2 z0p z0n z0c z3 z5 w
  | _ => False
theorem straightedgeref05_Greatest.t3 (K : Value → World → Prop) (n : Nat) (z0p : Option Addr) (z0n z0c : Nat) (z3 : Nat) (z4 : Int) (u : Nat → Value) (w : World) (h : (straightedgeref05_Greatest.H K (n + 1)).1 z0p z0n z0c z3 z4 w) :
    exT prog [3, 8] (straightedgeref05_Greatest.hd K n) Try.f47 3 42 [(0, (.slice z0p z0n z0c)), (3, (.float .f64 z3)), (4, (.int .i64 z4))] u w K := Eq.mp (by kernel_rfl) h
theorem straightedgeref05_Greatest.t8 (K : Value → World → Prop) (n : Nat) (z0p : Option Addr) (z0n z0c : Nat) (z3 : Nat) (z5 : Int) (u : Nat → Value) (w : World) (h : (straightedgeref05_Greatest.H K (n + 1)).2 z0p z0n z0c z3 z5 w) :
    exT prog [3, 8] (straightedgeref05_Greatest.hd K n) Try.f47 8 42 [(0, (.slice z0p z0n z0c)), (3, (.float .f64 z3)), (5, (.int .i64 z5))] u w K := Eq.mp (by kernel_rfl) h
theorem straightedgeref05_Greatest.ok (fu : Nat) {A0p : Option Addr} {A0n A0c : Nat} {w : World} {K : Value → World → Prop} (h : straightedgeref05_Greatest.x fu A0p A0n A0c w K) : straightedgeref05_Greatest.call [(.slice A0p A0n A0c)] w K := by
  refine callF_of_ex (cuts := [3, 8]) (H := straightedgeref05_Greatest.hd K) (N := 42) Try.func47 rfl mixed (by kernel_rfl) ?_ ?_ ?_ rfl (n := fu) (Eq.mp (by kernel_rfl) h)
  · intro id hid; simp only [List.mem_cons, List.not_mem_nil, or_false] at hid; rcases hid with rfl | rfl
    · exact (by kernel_rfl : (stacks (bodyOf Try.f47) []).filter (headIs 3) = [at_ (bodyOf Try.f47) 3])
    · exact (by kernel_rfl : (stacks (bodyOf Try.f47) []).filter (headIs 8) = [at_ (bodyOf Try.f47) 8])
  · intro id t w h
    unfold straightedgeref05_Greatest.hd at h
    split at h
    · obtain ⟨z0p, z0n, z0c, _, h⟩ := asL_elim h
      obtain ⟨z3, _, h⟩ := asF_elim h
      obtain ⟨z4, _, h⟩ := asI_elim h
      exact h
    · obtain ⟨z0p, z0n, z0c, _, h⟩ := asL_elim h
      obtain ⟨z3, _, h⟩ := asF_elim h
      obtain ⟨z5, _, h⟩ := asI_elim h
      exact h
    · exact h
  · intro n id hid t w hl h; simp only [List.mem_cons, List.not_mem_nil, or_false] at hid; rcases hid with rfl | rfl
    · replace h : asL (t.getD 0 undef) fun z0p z0n z0c => asF .f64 (t.getD 3 undef) fun z3 => asI .i64 (t.getD 4 undef) fun z4 => (straightedgeref05_Greatest.H K (n + 1)).1 z0p z0n z0c z3 z4 w := h
      obtain ⟨z0p, z0n, z0c, e0, h⟩ := asL_elim h
      obtain ⟨z3, e3, h⟩ := asF_elim h
      obtain ⟨z4, e4, h⟩ := asI_elim h
      rw [mk_of hl [(0, (.slice z0p z0n z0c)), (3, (.float .f64 z3)), (4, (.int .i64 z4))] (by simp only [List.forall_mem_cons, List.not_mem_nil, false_implies, implies_true, and_true]; exact ⟨e0, e3, e4⟩)]
      exact straightedgeref05_Greatest.t3 K n z0p z0n z0c z3 z4 _ w h
    · replace h : asL (t.getD 0 undef) fun z0p z0n z0c => asF .f64 (t.getD 3 undef) fun z3 => asI .i64 (t.getD 5 undef) fun z5 => (straightedgeref05_Greatest.H K (n + 1)).2 z0p z0n z0c z3 z5 w := h
      obtain ⟨z0p, z0n, z0c, e0, h⟩ := asL_elim h
      obtain ⟨z3, e3, h⟩ := asF_elim h
      obtain ⟨z5, e5, h⟩ := asI_elim h
      rw [mk_of hl [(0, (.slice z0p z0n z0c)), (3, (.float .f64 z3)), (5, (.int .i64 z5))] (by simp only [List.forall_mem_cons, List.not_mem_nil, false_implies, implies_true, and_true]; exact ⟨e0, e3, e5⟩)]
      exact straightedgeref05_Greatest.t8 K n z0p z0n z0c z3 z5 _ w h

end Go.Proofs.Ytgdkahbnepafgaa

/-! ### AGref10 -/
/- The explicit forms of the functions of one package, and that the calls do what they say. Written by wip/tools/wk2.py. -/
set_option maxHeartbeats 4000000
set_option maxRecDepth 100000
set_option linter.unusedVariables false
namespace Go.Proofs.Ytgdkahbnepafgaa
open Go Go.Wk

/-! ### straightedge/straightedgeref10.Max: function 42 -/
def straightedgeref10_Max.x (A0_0 : Int) (A0_1 : Int) (A0_2p : Option Addr) (A0_2n A0_2c : Nat) (w : World) (K : Value → World → Prop) : Prop := newB [(.int .i64 A0_0), (.int .i64 A0_1), (.slice A0_2p A0_2n A0_2c)] 29 w fun q1 w2 => rd_l w2 (q1.add 2) fun a3 n4 c5 => straightedgeref10_Most.call [(.slice a3 n4 c5)] w2 fun v6 w7 => ∃ x8 : Nat, v6 = (.float .f64 x8) ∧ K (.float .f64 x8) w7
theorem straightedgeref10_Max.ok {A0_0 : Int} {A0_1 : Int} {A0_2p : Option Addr} {A0_2n A0_2c : Nat} {w : World} {K : Value → World → Prop} (h : straightedgeref10_Max.x A0_0 A0_1 A0_2p A0_2n A0_2c w K) : straightedgeref10_Max.call [(.agg ⟨[(.int .i64 A0_0), (.int .i64 A0_1), (.slice A0_2p A0_2n A0_2c)]⟩)] w K :=
  callF_of_ex0 (f := Try.f42) Try.func42 rfl mixed (by kernel_rfl) (Eq.mp (by kernel_rfl) h)
/-! the same, the local variables taken out -/
def straightedgeref10_Max.s (A0_0 : Int) (A0_1 : Int) (A0_2p : Option Addr) (A0_2n A0_2c : Nat) (w : World) (K : Value → World → Prop) : Prop := ∀ (k3 : Nat) (w2 : World), k3 = w.heap.size → k3 < w2.heap.size → Ext w w2 → straightedgeref10_Most.call [(.slice A0_2p A0_2n A0_2c)] w2 fun v8 w9 => Stay [k3] w2 w9 ∧ ∃ x10 : Nat, v8 = (.float .f64 x10) ∧ K (.float .f64 x10) w9
theorem straightedgeref10_Max.os {A0_0 : Int} {A0_1 : Int} {A0_2p : Option Addr} {A0_2n A0_2c : Nat} {w : World} {K : Value → World → Prop} (h : straightedgeref10_Max.s A0_0 A0_1 A0_2p A0_2n A0_2c w K) : straightedgeref10_Max.call [(.agg ⟨[(.int .i64 A0_0), (.int .i64 A0_1), (.slice A0_2p A0_2n A0_2c)]⟩)] w K := by
  refine straightedgeref10_Max.ok ?_
  have st := St.nil w
  unfold straightedgeref10_Max.x
  unfold straightedgeref10_Max.s at h
  refine St.new (St.nil _) (fun q1 w2 hk hlt he st => ?_)
  replace h := h q1.block w2 hk hlt he
  refine rd_l.bx 0 2 st rfl rfl rfl ?_
  refine CallF.mono h (fun v8 w9 h => ?_)
  obtain ⟨hK, h⟩ := h
  replace st := st.stay hK
  exact h

/-! ### straightedge/straightedgeref10.Most: function 68 -/
def straightedgeref10_Most.b3 (K : Value → World → Prop) (h3 : Option Addr → Nat → Nat → Option Addr → Nat → Nat → Int → World → Prop) (z0p : Option Addr) (z0n z0c : Nat) (z3p : Option Addr) (z3n z3c : Nat) (z4 : Int) (w : World) : Prop := br (decide (z4 < ((z0n : Nat) : Int))) (ptrSome z0p fun q1 => (0 : Int) ≤ z4 ∧ z4 < ((z0n : Nat) : Int) ∧ rd_f64 w (q1.add (Int.toNat z4)) fun x2 => straightedgeref01_Abs.call [(.float .f64 x2)] w fun v3 w4 => ∃ x5 : Nat, v3 = (.float .f64 x5) ∧ newB [(.float .f64 x5)] 38 w4 fun q6 w7 => Raw prog (Builtin.append_ #[22, 22] 22 ⟨[(.slice z3p z3n z3c), (.slice (some q6) 1 1)]⟩) w7 fun v8 w9 => ∃ (a10 : Option Addr) (n11 c12 : Nat), v8 = .slice a10 n11 c12 ∧ h3 z0p z0n z0c a10 n11 c12 (IntKind.i64.wrap (z4 + 1)) w9) (straightedgeref05_Greatest.call [(.slice z3p z3n z3c)] w fun v13 w14 => ∃ x15 : Nat, v13 = (.float .f64 x15) ∧ K (.float .f64 x15) w14)
def straightedgeref10_Most.c3 (K : Value → World → Prop) : Nat → Option Addr → Nat → Nat → Option Addr → Nat → Nat → Int → World → Prop
  | 0 => fun _ _ _ _ _ _ _ _ => False
  | fu + 1 => straightedgeref10_Most.b3 K (straightedgeref10_Most.c3 K fu)
def straightedgeref10_Most.x (fu : Nat) (A0p : Option Addr) (A0n A0c : Nat) (w : World) (K : Value → World → Prop) : Prop := straightedgeref10_Most.c3 K fu A0p A0n A0c none 0 0 0 w
def straightedgeref10_Most.hd (K : Value → World → Prop) (n id : Nat) (t : List Value) (w : World) : Prop :=
  match id with
  | 3 => asL (t.getD 0 undef) fun z0p z0n z0c => asL (t.getD 3 undef) fun z3p z3n z3c => asI .i64 (t.getD 4 undef) fun z4 => straightedgeref10_Most.c3 K n z0p z0n z0c z3p z3n z3c z4 w
  | _ => False
theorem straightedgeref10_Most.t3 (K : Value → World → Prop) (n : Nat) (z0p : Option Addr) (z0n z0c : Nat) (z3p : Option Addr) (z3n z3c : Nat) (z4 : Int) (u : Nat → Value) (w : World) (h : straightedgeref10_Most.c3 K (n + 1) z0p z0n z0c z3p z3n z3c z4 w) :
    exT prog [3] (straightedgeref10_Most.hd K n) Try.f68 3 21 [(0, (.slice z0p z0n z0c)), (3, (.slice z3p z3n z3c)), (4, (.int .i64 z4))] u w K := Eq.mp (by kernel_rfl) h
theorem straightedgeref10_Most.ok (fu : Nat) {A0p : Option Addr} {A0n A0c : Nat} {w : World} {K : Value → World → Prop} (h : straightedgeref10_Most.x fu A0p A0n A0c w K) : straightedgeref10_Most.call [(.slice A0p A0n A0c)] w K := by
  refine callF_of_ex (cuts := [3]) (H := straightedgeref10_Most.hd K) (N := 21) Try.func68 rfl mixed (by kernel_rfl) ?_ ?_ ?_ rfl (n := fu) (Eq.mp (by kernel_rfl) h)
  · intro id hid; simp only [List.mem_cons, List.not_mem_nil, or_false] at hid; subst hid
    · exact (by kernel_rfl : (stacks (bodyOf Try.f68) []).filter (headIs 3) = [at_ (bodyOf Try.f68) 3])
  · intro id t w h
    unfold straightedgeref10_Most.hd at h
    split at h
    · obtain ⟨z0p, z0n, z0c, _, h⟩ := asL_elim h
      obtain ⟨z3p, z3n, z3c, _, h⟩ := asL_elim h
      obtain ⟨z4, _, h⟩ := asI_elim h
      exact h
    · exact h
  · intro n id hid t w hl h; simp only [List.mem_cons, List.not_mem_nil, or_false] at hid; subst hid
    · replace h : asL (t.getD 0 undef) fun z0p z0n z0c => asL (t.getD 3 undef) fun z3p z3n z3c => asI .i64 (t.getD 4 undef) fun z4 => straightedgeref10_Most.c3 K (n + 1) z0p z0n z0c z3p z3n z3c z4 w := h
      obtain ⟨z0p, z0n, z0c, e0, h⟩ := asL_elim h
      obtain ⟨z3p, z3n, z3c, e3, h⟩ := asL_elim h
      obtain ⟨z4, e4, h⟩ := asI_elim h
      rw [mk_of hl [(0, (.slice z0p z0n z0c)), (3, (.slice z3p z3n z3c)), (4, (.int .i64 z4))] (by simp only [List.forall_mem_cons, List.not_mem_nil, false_implies, implies_true, and_true]; exact ⟨e0, e3, e4⟩)]
      exact straightedgeref10_Most.t3 K n z0p z0n z0c z3p z3n z3c z4 _ w h

end Go.Proofs.Ytgdkahbnepafgaa

/-! ### AGmath -/
/- The explicit forms of the functions of one package, and that the calls do what they say. Written by wip/tools/wk.py. -/
set_option maxRecDepth 100000
set_option linter.unusedVariables false
namespace Go.Proofs.Ytgdkahbnepafgaa
open Go Go.Wk

/-! ### math.Abs: function 75 -/
def math_Abs.x (A0 : Nat) (w : World) (K : Value → World → Prop) : Prop := math_Float64bits.call [(.float .f64 A0)] w fun v1 w2 => ∃ i3 : Int, v1 = (.int .u64 i3) ∧ math_Float64frombits.call [(.int .u64 (bits .andNot .u64 i3 9223372036854775808))] w2 fun v4 w5 => ∃ x6 : Nat, v4 = (.float .f64 x6) ∧ K (.float .f64 x6) w5
theorem math_Abs.ok {A0 : Nat} {w : World} {K : Value → World → Prop} (h : math_Abs.x A0 w K) : math_Abs.call [(.float .f64 A0)] w K :=
  callF_of_ex0 (f := Try.f75) Try.func75 rfl mixed (by kernel_rfl) (Eq.mp (by kernel_rfl) h)

end Go.Proofs.Ytgdkahbnepafgaa

/-! ### AGref01 -/
/- The explicit forms of the functions of one package, and that the calls do what they say. Written by wip/tools/wk.py. -/
set_option maxRecDepth 100000
set_option linter.unusedVariables false
namespace Go.Proofs.Ytgdkahbnepafgaa
open Go Go.Wk

/-! ### straightedge/straightedgeref01.Finite: function 8 -/
def straightedgeref01_Finite.c2 (K : Value → World → Prop) : Nat → Option Addr → Nat → Nat → Int → World → Prop
  | 0, _, _, _, _, _ => False
  | fu + 1, z0p, z0n, z0c, z3, w => br (decide (z3 < ((z0n : Nat) : Int))) (ptrSome z0p fun q1 => (0 : Int) ≤ z3 ∧ z3 < ((z0n : Nat) : Int) ∧ ∃ x2 : Nat, w.cell? (q1.add (Int.toNat z3)) = some (.float .f64 x2) ∧ straightedgeref01_Parts.call [(.float .f64 x2)] w fun v3 w4 => ∃ b5 : Bool, ∃ i6 : Int, ∃ i7 : Int, ∃ i8 : Int, v3 = (.tuple ⟨[(.bool b5), (.int .u64 i6), (.int .i64 i7), (.int .i64 i8)]⟩) ∧ br (i8 != 0) (K (.bool false) w4) (straightedgeref01_Finite.c2 K fu z0p z0n z0c (IntKind.i64.wrap (z3 + 1)) w4)) (K (.bool true) w)
def straightedgeref01_Finite.x (fu : Nat) (A0p : Option Addr) (A0n A0c : Nat) (w : World) (K : Value → World → Prop) : Prop := straightedgeref01_Finite.c2 K fu A0p A0n A0c 0 w
def straightedgeref01_Finite.hd (K : Value → World → Prop) (n id : Nat) (t : List Value) (w : World) : Prop :=
  match id with
  | 2 => asL (t.getD 0 undef) fun z0p z0n z0c => asI .i64 (t.getD 3 undef) fun z3 => straightedgeref01_Finite.c2 K n z0p z0n z0c z3 w
  | _ => False
theorem straightedgeref01_Finite.t2 (K : Value → World → Prop) (n : Nat) (z0p : Option Addr) (z0n z0c : Nat) (z3 : Int) (u : Nat → Value) (w : World) (h : straightedgeref01_Finite.c2 K (n + 1) z0p z0n z0c z3 w) :
    exT prog [2] (straightedgeref01_Finite.hd K n) Try.f8 2 26 [(0, (.slice z0p z0n z0c)), (3, (.int .i64 z3))] u w K := Eq.mp (by kernel_rfl) h
theorem straightedgeref01_Finite.ok (fu : Nat) {A0p : Option Addr} {A0n A0c : Nat} {w : World} {K : Value → World → Prop} (h : straightedgeref01_Finite.x fu A0p A0n A0c w K) : straightedgeref01_Finite.call [(.slice A0p A0n A0c)] w K := by
  refine callF_of_ex (cuts := [2]) (H := straightedgeref01_Finite.hd K) (N := 26) Try.func8 rfl mixed (by kernel_rfl) ?_ ?_ ?_ rfl (n := fu) (Eq.mp (by kernel_rfl) h)
  · intro id hid; simp only [List.mem_cons, List.not_mem_nil, or_false] at hid; subst hid
    · exact (by kernel_rfl : (stacks (bodyOf Try.f8) []).filter (headIs 2) = [at_ (bodyOf Try.f8) 2])
  · intro id t w h
    unfold straightedgeref01_Finite.hd at h
    split at h
    · obtain ⟨z0p, z0n, z0c, _, h⟩ := asL_elim h
      obtain ⟨z3, _, h⟩ := asI_elim h
      exact h
    · exact h
  · intro n id hid t w hl h; simp only [List.mem_cons, List.not_mem_nil, or_false] at hid; subst hid
    · replace h : asL (t.getD 0 undef) fun z0p z0n z0c => asI .i64 (t.getD 3 undef) fun z3 => straightedgeref01_Finite.c2 K (n + 1) z0p z0n z0c z3 w := h
      obtain ⟨z0p, z0n, z0c, e0, h⟩ := asL_elim h
      obtain ⟨z3, e3, h⟩ := asI_elim h
      rw [mk_of hl [(0, (.slice z0p z0n z0c)), (3, (.int .i64 z3))] (by simp only [List.forall_mem_cons, List.not_mem_nil, false_implies, implies_true, and_true]; exact ⟨e0, e3⟩)]
      exact straightedgeref01_Finite.t2 K n z0p z0n z0c z3 _ w h

/-! ### straightedge/straightedgeref01.Abs: function 12 -/
def straightedgeref01_Abs.x (A0 : Nat) (w : World) (K : Value → World → Prop) : Prop := math_Float64bits.call [(.float .f64 A0)] w fun v1 w2 => ∃ i3 : Int, v1 = (.int .u64 i3) ∧ math_Float64frombits.call [(.int .u64 (Int.tmod i3 9223372036854775808))] w2 fun v4 w5 => ∃ x6 : Nat, v4 = (.float .f64 x6) ∧ K (.float .f64 x6) w5
theorem straightedgeref01_Abs.ok {A0 : Nat} {w : World} {K : Value → World → Prop} (h : straightedgeref01_Abs.x A0 w K) : straightedgeref01_Abs.call [(.float .f64 A0)] w K :=
  callF_of_ex0 (f := Try.f12) Try.func12 rfl mixed (by kernel_rfl) (Eq.mp (by kernel_rfl) h)

/-! ### straightedge/straightedgeref01.All: function 27 -/
def straightedgeref01_All.c4 (K : Value → World → Prop) : Nat → Option Addr → Nat → Nat → Option Addr → Nat → Nat → Int → World → Prop
  | 0, _, _, _, _, _, _, _, _ => False
  | fu + 1, z0p, z0n, z0c, z1p, z1n, z1c, z5, w => br (decide (z5 < ((z0n : Nat) : Int))) (ptrSome z0p fun q1 => (0 : Int) ≤ z5 ∧ z5 < ((z0n : Nat) : Int) ∧ ∃ x2 : Nat, w.drew.cell? (q1.add (Int.toNat z5)) = some (.float .f64 x2) ∧ ptrSome z1p fun q3 => (0 : Int) ≤ z5 ∧ z5 < ((z1n : Nat) : Int) ∧ ∃ x4 : Nat, w.drew.cell? (q3.add (Int.toNat z5)) = some (.float .f64 x4) ∧ straightedgeref01_Same.call [(.float .f64 x2), (.float .f64 x4)] w.drew fun v5 w6 => ∃ b7 : Bool, v5 = (.bool b7) ∧ br (!b7) (K (.bool false) w6) (straightedgeref01_All.c4 K fu z0p z0n z0c z1p z1n z1c (IntKind.i64.wrap (z5 + 1)) w6)) (K (.bool true) w)
def straightedgeref01_All.x (fu : Nat) (A0p : Option Addr) (A0n A0c : Nat) (A1p : Option Addr) (A1n A1c : Nat) (w : World) (K : Value → World → Prop) : Prop := br (((A0n : Nat) : Int) != ((A1n : Nat) : Int)) (K (.bool false) w) (straightedgeref01_All.c4 K fu A0p A0n A0c A1p A1n A1c 0 w)
def straightedgeref01_All.hd (K : Value → World → Prop) (n id : Nat) (t : List Value) (w : World) : Prop :=
  match id with
  | 4 => asL (t.getD 0 undef) fun z0p z0n z0c => asL (t.getD 1 undef) fun z1p z1n z1c => asI .i64 (t.getD 5 undef) fun z5 => straightedgeref01_All.c4 K n z0p z0n z0c z1p z1n z1c z5 w
  | _ => False
theorem straightedgeref01_All.t4 (K : Value → World → Prop) (n : Nat) (z0p : Option Addr) (z0n z0c : Nat) (z1p : Option Addr) (z1n z1c : Nat) (z5 : Int) (u : Nat → Value) (w : World) (h : straightedgeref01_All.c4 K (n + 1) z0p z0n z0c z1p z1n z1c z5 w) :
    exT prog [4] (straightedgeref01_All.hd K n) Try.f27 4 27 [(0, (.slice z0p z0n z0c)), (1, (.slice z1p z1n z1c)), (5, (.int .i64 z5))] u w K := Eq.mp (by kernel_rfl) h
theorem straightedgeref01_All.ok (fu : Nat) {A0p : Option Addr} {A0n A0c : Nat} {A1p : Option Addr} {A1n A1c : Nat} {w : World} {K : Value → World → Prop} (h : straightedgeref01_All.x fu A0p A0n A0c A1p A1n A1c w K) : straightedgeref01_All.call [(.slice A0p A0n A0c), (.slice A1p A1n A1c)] w K := by
  refine callF_of_ex (cuts := [4]) (H := straightedgeref01_All.hd K) (N := 27) Try.func27 rfl mixed (by kernel_rfl) ?_ ?_ ?_ rfl (n := fu) (Eq.mp (by kernel_rfl) h)
  · intro id hid; simp only [List.mem_cons, List.not_mem_nil, or_false] at hid; subst hid
    · exact (by kernel_rfl : (stacks (bodyOf Try.f27) []).filter (headIs 4) = [at_ (bodyOf Try.f27) 4])
  · intro id t w h
    unfold straightedgeref01_All.hd at h
    split at h
    · obtain ⟨z0p, z0n, z0c, _, h⟩ := asL_elim h
      obtain ⟨z1p, z1n, z1c, _, h⟩ := asL_elim h
      obtain ⟨z5, _, h⟩ := asI_elim h
      exact h
    · exact h
  · intro n id hid t w hl h; simp only [List.mem_cons, List.not_mem_nil, or_false] at hid; subst hid
    · replace h : asL (t.getD 0 undef) fun z0p z0n z0c => asL (t.getD 1 undef) fun z1p z1n z1c => asI .i64 (t.getD 5 undef) fun z5 => straightedgeref01_All.c4 K (n + 1) z0p z0n z0c z1p z1n z1c z5 w := h
      obtain ⟨z0p, z0n, z0c, e0, h⟩ := asL_elim h
      obtain ⟨z1p, z1n, z1c, e1, h⟩ := asL_elim h
      obtain ⟨z5, e5, h⟩ := asI_elim h
      rw [mk_of hl [(0, (.slice z0p z0n z0c)), (1, (.slice z1p z1n z1c)), (5, (.int .i64 z5))] (by simp only [List.forall_mem_cons, List.not_mem_nil, false_implies, implies_true, and_true]; exact ⟨e0, e1, e5⟩)]
      exact straightedgeref01_All.t4 K n z0p z0n z0c z1p z1n z1c z5 _ w h

/-! ### straightedge/straightedgeref01.Parts: function 29 -/
def straightedgeref01_Parts.x (A0 : Nat) (w : World) (K : Value → World → Prop) : Prop := math_Float64bits.call [(.float .f64 A0)] w fun v1 w2 => ∃ i3 : Int, v1 = (.int .u64 i3) ∧ br ((Int.tmod (IntKind.i64.wrap ((Int.fdiv i3 (2 ^ (shiftN .u64 52))))) 2048) == 2047) (br ((Int.tmod i3 4503599627370496) == 0) (K (.tuple ⟨[(.bool ((Int.fdiv i3 (2 ^ (shiftN .u64 63))) == 1)), (.int .u64 0), (.int .i64 0), (.int .i64 1)]⟩) w2) (br ((Int.tmod (IntKind.i64.wrap ((Int.fdiv i3 (2 ^ (shiftN .u64 52))))) 2048) == 2047) (K (.tuple ⟨[(.bool ((Int.fdiv i3 (2 ^ (shiftN .u64 63))) == 1)), (.int .u64 0), (.int .i64 0), (.int .i64 2)]⟩) w2) (br ((Int.tmod (IntKind.i64.wrap ((Int.fdiv i3 (2 ^ (shiftN .u64 52))))) 2048) == 0) (K (.tuple ⟨[(.bool ((Int.fdiv i3 (2 ^ (shiftN .u64 63))) == 1)), (.int .u64 (Int.tmod i3 4503599627370496)), (.int .i64 (-1074)), (.int .i64 0)]⟩) w2) (K (.tuple ⟨[(.bool ((Int.fdiv i3 (2 ^ (shiftN .u64 63))) == 1)), (.int .u64 (IntKind.u64.wrap ((Int.tmod i3 4503599627370496) + 4503599627370496))), (.int .i64 (IntKind.i64.wrap ((Int.tmod (IntKind.i64.wrap ((Int.fdiv i3 (2 ^ (shiftN .u64 52))))) 2048) - 1075))), (.int .i64 0)]⟩) w2)))) (br ((Int.tmod (IntKind.i64.wrap ((Int.fdiv i3 (2 ^ (shiftN .u64 52))))) 2048) == 2047) (K (.tuple ⟨[(.bool ((Int.fdiv i3 (2 ^ (shiftN .u64 63))) == 1)), (.int .u64 0), (.int .i64 0), (.int .i64 2)]⟩) w2) (br ((Int.tmod (IntKind.i64.wrap ((Int.fdiv i3 (2 ^ (shiftN .u64 52))))) 2048) == 0) (K (.tuple ⟨[(.bool ((Int.fdiv i3 (2 ^ (shiftN .u64 63))) == 1)), (.int .u64 (Int.tmod i3 4503599627370496)), (.int .i64 (-1074)), (.int .i64 0)]⟩) w2) (K (.tuple ⟨[(.bool ((Int.fdiv i3 (2 ^ (shiftN .u64 63))) == 1)), (.int .u64 (IntKind.u64.wrap ((Int.tmod i3 4503599627370496) + 4503599627370496))), (.int .i64 (IntKind.i64.wrap ((Int.tmod (IntKind.i64.wrap ((Int.fdiv i3 (2 ^ (shiftN .u64 52))))) 2048) - 1075))), (.int .i64 0)]⟩) w2)))
theorem straightedgeref01_Parts.ok {A0 : Nat} {w : World} {K : Value → World → Prop} (h : straightedgeref01_Parts.x A0 w K) : straightedgeref01_Parts.call [(.float .f64 A0)] w K :=
  callF_of_ex0 (f := Try.f29) Try.func29 rfl mixed (by kernel_rfl) (Eq.mp (by kernel_rfl) h)

/-! ### straightedge/straightedgeref01.Same: function 56 -/
def straightedgeref01_Same.x (A0 : Nat) (A1 : Nat) (w : World) (K : Value → World → Prop) : Prop := straightedgeref01_Parts.call [(.float .f64 A0)] w fun v1 w2 => ∃ b3 : Bool, ∃ i4 : Int, ∃ i5 : Int, ∃ i6 : Int, v1 = (.tuple ⟨[(.bool b3), (.int .u64 i4), (.int .i64 i5), (.int .i64 i6)]⟩) ∧ straightedgeref01_Parts.call [(.float .f64 A1)] w2 fun v7 w8 => ∃ b9 : Bool, ∃ i10 : Int, ∃ i11 : Int, ∃ i12 : Int, v7 = (.tuple ⟨[(.bool b9), (.int .u64 i10), (.int .i64 i11), (.int .i64 i12)]⟩) ∧ math_Float64bits.call [(.float .f64 A0)] w8 fun v13 w14 => ∃ i15 : Int, v13 = (.int .u64 i15) ∧ math_Float64bits.call [(.float .f64 A1)] w14 fun v16 w17 => ∃ i18 : Int, v16 = (.int .u64 i18) ∧ br (i15 == i18) (K (.bool true) w17) (br (i6 == 2) (K (.bool (i12 == 2)) w17) (K (.bool false) w17))
theorem straightedgeref01_Same.ok {A0 : Nat} {A1 : Nat} {w : World} {K : Value → World → Prop} (h : straightedgeref01_Same.x A0 A1 w K) : straightedgeref01_Same.call [(.float .f64 A0), (.float .f64 A1)] w K :=
  callF_of_ex0 (f := Try.f56) Try.func56 rfl mixed (by kernel_rfl) (Eq.mp (by kernel_rfl) h)

end Go.Proofs.Ytgdkahbnepafgaa
