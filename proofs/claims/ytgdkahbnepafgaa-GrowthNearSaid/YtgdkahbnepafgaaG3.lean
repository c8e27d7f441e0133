/- A part of the proof. -/
import Derived.Test.YtgdkahbnepafgaaG0
set_option linter.unusedVariables false

/-! ### AGview -/
/- The explicit forms of the functions of one package, and that the calls do what they say. Written by wip/tools/wk2.py. -/
set_option maxHeartbeats 4000000
set_option maxRecDepth 100000
set_option linter.unusedVariables false
namespace Go.Proofs.Ytgdkahbnepafgaa
open Go Go.Wk

/-! ### straightedge/view.Dense: function 25 -/
def view_Dense.b5 (K : Value → World → Prop) (h5 : Int → Option Addr → Option Addr → Option Addr → Nat → Nat → Int → Int → World → Prop) (z1 : Int) (z6 : Option Addr) (z7 : Option Addr) (z41p : Option Addr) (z41n z41c : Nat) (z42 : Int) (z43 : Int) (w : World) : Prop := br (decide (z43 < z42)) (ptrSome z41p fun q1 => (0 : Int) ≤ z43 ∧ z43 < ((z41n : Nat) : Int) ∧ rd_f64 w (q1.add (Int.toNat z43)) fun x2 => ptrSome z7 fun q4 => rd_l w.drew q4 fun a5 n6 c7 => br (z1 == 0) (False) (br (z1 == 0) (False) (ptrSome z7 fun q8 => rd_i64 w.drew (q8.add 4) fun i9 => ptrSome a5 fun q10 => (0 : Int) ≤ (IntKind.i64.wrap ((IntKind.i64.wrap (Int.tdiv z43 z1)) + (IntKind.i64.wrap ((Int.tmod z43 z1) * i9)))) ∧ (IntKind.i64.wrap ((IntKind.i64.wrap (Int.tdiv z43 z1)) + (IntKind.i64.wrap ((Int.tmod z43 z1) * i9)))) < ((n6 : Nat) : Int) ∧ stPT (q10.add (Int.toNat (IntKind.i64.wrap ((IntKind.i64.wrap (Int.tdiv z43 z1)) + (IntKind.i64.wrap ((Int.tmod z43 z1) * i9)))))) 0 [(.float .f64 x2)] w.drew fun w11 => h5 z1 z6 z7 z41p z41n z41c z42 (IntKind.i64.wrap (z43 + 1)) w11))) (ptrSome z7 fun q12 => rd_l_i64_i64_i64_i64 w q12 fun a13 n14 c15 i16 i17 i18 i19 => ptrSome z6 fun q20 => stPT q20 0 [(.slice a13 n14 c15), (.int .i64 i16), (.int .i64 i17), (.int .i64 i18), (.int .i64 i19)] w fun w21 => ptrSome z6 fun q22 => rd_l_i64_i64_i64_i64 w21 q22 fun a23 n24 c25 i26 i27 i28 i29 => K (.agg ⟨[(.slice a23 n24 c25), (.int .i64 i26), (.int .i64 i27), (.int .i64 i28), (.int .i64 i29)]⟩) w21)
def view_Dense.c5 (K : Value → World → Prop) : Nat → Int → Option Addr → Option Addr → Option Addr → Nat → Nat → Int → Int → World → Prop
  | 0 => fun _ _ _ _ _ _ _ _ _ => False
  | fu + 1 => view_Dense.b5 K (view_Dense.c5 K fu)
def view_Dense.x (fu : Nat) (A0 : Int) (A1 : Int) (A2p : Option Addr) (A2n A2c : Nat) (w : World) (K : Value → World → Prop) : Prop := newB [(.slice none 0 0), (.int .i64 0), (.int .i64 0), (.int .i64 0), (.int .i64 0)] 24 w fun q1 w2 => br (decide (A0 < 0)) (stPT q1 0 [(.slice none 0 0), (.int .i64 0), (.int .i64 0), (.int .i64 0), (.int .i64 0)] w2 fun w3 => rd_l_i64_i64_i64_i64 w3 q1 fun a4 n5 c6 i7 i8 i9 i10 => K (.agg ⟨[(.slice a4 n5 c6), (.int .i64 i7), (.int .i64 i8), (.int .i64 i9), (.int .i64 i10)]⟩) w3) (br (decide (A1 < 0)) (stPT q1 0 [(.slice none 0 0), (.int .i64 0), (.int .i64 0), (.int .i64 0), (.int .i64 0)] w2 fun w11 => rd_l_i64_i64_i64_i64 w11 q1 fun a12 n13 c14 i15 i16 i17 i18 => K (.agg ⟨[(.slice a12 n13 c14), (.int .i64 i15), (.int .i64 i16), (.int .i64 i17), (.int .i64 i18)]⟩) w11) (br (decide (A0 > 64)) (stPT q1 0 [(.slice none 0 0), (.int .i64 0), (.int .i64 0), (.int .i64 0), (.int .i64 0)] w2 fun w19 => rd_l_i64_i64_i64_i64 w19 q1 fun a20 n21 c22 i23 i24 i25 i26 => K (.agg ⟨[(.slice a20 n21 c22), (.int .i64 i23), (.int .i64 i24), (.int .i64 i25), (.int .i64 i26)]⟩) w19) (br (decide (A1 > 64)) (stPT q1 0 [(.slice none 0 0), (.int .i64 0), (.int .i64 0), (.int .i64 0), (.int .i64 0)] w2 fun w27 => rd_l_i64_i64_i64_i64 w27 q1 fun a28 n29 c30 i31 i32 i33 i34 => K (.agg ⟨[(.slice a28 n29 c30), (.int .i64 i31), (.int .i64 i32), (.int .i64 i33), (.int .i64 i34)]⟩) w27) ((0 : Int) ≤ (IntKind.i64.wrap (A0 * A1)) ∧ ((IntKind.i64.wrap (A0 * A1)) : Int) ≤ (IntKind.i64.wrap (A0 * A1)) ∧ ((8 : Nat) : Int) * (IntKind.i64.wrap (A0 * A1)) ≤ 281474976710656 ∧ (IntKind.i64.wrap (A0 * A1)) ≤ 9223372036854775807 ∧ newB ((List.range (Int.toNat (IntKind.i64.wrap (A0 * A1)))).map fun j => List.getD [(.float .f64 0)] (j % 1) default) 38 w2 fun q35 w36 => newB [(.slice none 0 0), (.int .i64 0), (.int .i64 0), (.int .i64 0), (.int .i64 0)] 24 w36 fun q37 w38 => stPT q37 0 [(.slice (some q35) (Int.toNat (IntKind.i64.wrap (A0 * A1))) (Int.toNat (IntKind.i64.wrap (A0 * A1)))), (.int .i64 0), (.int .i64 A0), (.int .i64 A1), (.int .i64 (if 1 > A0 then 1 else A0))] w38 fun w39 => (0 : Int) ≤ (if (IntKind.i64.wrap (A0 * A1)) < ((A2n : Nat) : Int) then (IntKind.i64.wrap (A0 * A1)) else ((A2n : Nat) : Int)) ∧ (if (IntKind.i64.wrap (A0 * A1)) < ((A2n : Nat) : Int) then (IntKind.i64.wrap (A0 * A1)) else ((A2n : Nat) : Int)) ≤ ((A2c : Nat) : Int) ∧ view_Dense.c5 K fu A1 (some q1) (some q37) (if A2c = 0 then A2p else A2p.map (·.add (0 * 1))) ((Int.toNat (if (IntKind.i64.wrap (A0 * A1)) < ((A2n : Nat) : Int) then (IntKind.i64.wrap (A0 * A1)) else ((A2n : Nat) : Int))) - 0) (A2c - 0) ((((Int.toNat (if (IntKind.i64.wrap (A0 * A1)) < ((A2n : Nat) : Int) then (IntKind.i64.wrap (A0 * A1)) else ((A2n : Nat) : Int))) - 0) : Nat) : Int) 0 w39))))
def view_Dense.hd (K : Value → World → Prop) (n id : Nat) (t : List Value) (w : World) : Prop :=
  match id with
  | 5 => asI .i64 (t.getD 1 undef) fun z1 => asP (t.getD 6 undef) fun z6 => asP (t.getD 7 undef) fun z7 => asL (t.getD 41 undef) fun z41p z41n z41c => asI .i64 (t.getD 42 undef) fun z42 => asI .i64 (t.getD 43 undef) fun z43 => view_Dense.c5 K n z1 z6 z7 z41p z41n z41c z42 z43 w
  | _ => False
theorem view_Dense.t5 (K : Value → World → Prop) (n : Nat) (z1 : Int) (z6 : Option Addr) (z7 : Option Addr) (z41p : Option Addr) (z41n z41c : Nat) (z42 : Int) (z43 : Int) (u : Nat → Value) (w : World) (h : view_Dense.c5 K (n + 1) z1 z6 z7 z41p z41n z41c z42 z43 w) :
    exT prog [5] (view_Dense.hd K n) Try.f25 5 64 [(1, (.int .i64 z1)), (6, (.pointer z6)), (7, (.pointer z7)), (41, (.slice z41p z41n z41c)), (42, (.int .i64 z42)), (43, (.int .i64 z43))] u w K := Eq.mp (by kernel_rfl) h
theorem view_Dense.ok (fu : Nat) {A0 : Int} {A1 : Int} {A2p : Option Addr} {A2n A2c : Nat} {w : World} {K : Value → World → Prop} (h : view_Dense.x fu A0 A1 A2p A2n A2c w K) : view_Dense.call [(.int .i64 A0), (.int .i64 A1), (.slice A2p A2n A2c)] w K := by
  refine callF_of_ex (cuts := [5]) (H := view_Dense.hd K) (N := 64) Try.func25 rfl mixed (by kernel_rfl) ?_ ?_ ?_ rfl (n := fu) (Eq.mp (by kernel_rfl) h)
  · intro id hid; simp only [List.mem_cons, List.not_mem_nil, or_false] at hid; subst hid
    · exact (by kernel_rfl : (stacks (bodyOf Try.f25) []).filter (headIs 5) = [at_ (bodyOf Try.f25) 5])
  · intro id t w h
    unfold view_Dense.hd at h
    split at h
    · obtain ⟨z1, _, h⟩ := asI_elim h
      obtain ⟨z6, _, h⟩ := asP_elim h
      obtain ⟨z7, _, h⟩ := asP_elim h
      obtain ⟨z41p, z41n, z41c, _, h⟩ := asL_elim h
      obtain ⟨z42, _, h⟩ := asI_elim h
      obtain ⟨z43, _, h⟩ := asI_elim h
      exact h
    · exact h
  · intro n id hid t w hl h; simp only [List.mem_cons, List.not_mem_nil, or_false] at hid; subst hid
    · replace h : asI .i64 (t.getD 1 undef) fun z1 => asP (t.getD 6 undef) fun z6 => asP (t.getD 7 undef) fun z7 => asL (t.getD 41 undef) fun z41p z41n z41c => asI .i64 (t.getD 42 undef) fun z42 => asI .i64 (t.getD 43 undef) fun z43 => view_Dense.c5 K (n + 1) z1 z6 z7 z41p z41n z41c z42 z43 w := h
      obtain ⟨z1, e1, h⟩ := asI_elim h
      obtain ⟨z6, e6, h⟩ := asP_elim h
      obtain ⟨z7, e7, h⟩ := asP_elim h
      obtain ⟨z41p, z41n, z41c, e41, h⟩ := asL_elim h
      obtain ⟨z42, e42, h⟩ := asI_elim h
      obtain ⟨z43, e43, h⟩ := asI_elim h
      rw [mk_of hl [(1, (.int .i64 z1)), (6, (.pointer z6)), (7, (.pointer z7)), (41, (.slice z41p z41n z41c)), (42, (.int .i64 z42)), (43, (.int .i64 z43))] (by simp only [List.forall_mem_cons, List.not_mem_nil, false_implies, implies_true, and_true]; exact ⟨e1, e6, e7, e41, e42, e43⟩)]
      exact view_Dense.t5 K n z1 z6 z7 z41p z41n z41c z42 z43 _ w h
/-! the same, the local variables taken out -/
def view_Dense.e5 (K : Value → World → Prop) (h5 : Int → Nat → Option Addr → Nat → Nat → Int → Int → Int → Int → Nat → Option Addr → Nat → Nat → Int → Int → Int → Int → Option Addr → Nat → Nat → Int → Int → World → Prop) (z1 : Int) (k6 : Nat) (y6_0p : Option Addr) (y6_0n y6_0c : Nat) (y6_1 : Int) (y6_2 : Int) (y6_3 : Int) (y6_4 : Int) (k7 : Nat) (y7_0p : Option Addr) (y7_0n y7_0c : Nat) (y7_1 : Int) (y7_2 : Int) (y7_3 : Int) (y7_4 : Int) (z41p : Option Addr) (z41n z41c : Nat) (z42 : Int) (z43 : Int) (w : World) : Prop := br (decide (z43 < z42)) (ptrSome z41p fun q1 => (0 : Int) ≤ z43 ∧ z43 < ((z41n : Nat) : Int) ∧ rd_f64 w (q1.add (Int.toNat z43)) fun x2 => br (z1 == 0) (False) (br (z1 == 0) (False) (ptrSome y7_0p fun q10 => (0 : Int) ≤ (IntKind.i64.wrap ((IntKind.i64.wrap (Int.tdiv z43 z1)) + (IntKind.i64.wrap ((Int.tmod z43 z1) * y7_4)))) ∧ (IntKind.i64.wrap ((IntKind.i64.wrap (Int.tdiv z43 z1)) + (IntKind.i64.wrap ((Int.tmod z43 z1) * y7_4)))) < ((y7_0n : Nat) : Int) ∧ stPT (q10.add (Int.toNat (IntKind.i64.wrap ((IntKind.i64.wrap (Int.tdiv z43 z1)) + (IntKind.i64.wrap ((Int.tmod z43 z1) * y7_4)))))) 0 [(.float .f64 x2)] w.drew fun w11 => Keep [k6, k7] w.drew w11 ∧ h5 z1 k6 y6_0p y6_0n y6_0c y6_1 y6_2 y6_3 y6_4 k7 y7_0p y7_0n y7_0c y7_1 y7_2 y7_3 y7_4 z41p z41n z41c z42 (IntKind.i64.wrap (z43 + 1)) w11))) (∀ w21 : World, Exc k6 w w21 → K (.agg ⟨[(.slice y7_0p y7_0n y7_0c), (.int .i64 y7_1), (.int .i64 y7_2), (.int .i64 y7_3), (.int .i64 y7_4)]⟩) w21)
def view_Dense.d5 (K : Value → World → Prop) : Nat → Int → Nat → Option Addr → Nat → Nat → Int → Int → Int → Int → Nat → Option Addr → Nat → Nat → Int → Int → Int → Int → Option Addr → Nat → Nat → Int → Int → World → Prop
  | 0 => fun _ _ _ _ _ _ _ _ _ _ _ _ _ _ _ _ _ _ _ _ _ _ _ => False
  | fu + 1 => view_Dense.e5 K (view_Dense.d5 K fu)
def view_Dense.s (fu : Nat) (A0 : Int) (A1 : Int) (A2p : Option Addr) (A2n A2c : Nat) (w : World) (K : Value → World → Prop) : Prop := ∀ (k3 : Nat) (w2 : World), k3 = w.heap.size → k3 < w2.heap.size → Ext w w2 → br (decide (A0 < 0)) (∀ w5 : World, Exc k3 w2 w5 → K (.agg ⟨[(.slice (none : Option Addr) (0 : Nat) (0 : Nat)), (.int .i64 (0 : Int)), (.int .i64 (0 : Int)), (.int .i64 (0 : Int)), (.int .i64 (0 : Int))]⟩) w5) (br (decide (A1 < 0)) (∀ w13 : World, Exc k3 w2 w13 → K (.agg ⟨[(.slice (none : Option Addr) (0 : Nat) (0 : Nat)), (.int .i64 (0 : Int)), (.int .i64 (0 : Int)), (.int .i64 (0 : Int)), (.int .i64 (0 : Int))]⟩) w13) (br (decide (A0 > 64)) (∀ w21 : World, Exc k3 w2 w21 → K (.agg ⟨[(.slice (none : Option Addr) (0 : Nat) (0 : Nat)), (.int .i64 (0 : Int)), (.int .i64 (0 : Int)), (.int .i64 (0 : Int)), (.int .i64 (0 : Int))]⟩) w21) (br (decide (A1 > 64)) (∀ w29 : World, Exc k3 w2 w29 → K (.agg ⟨[(.slice (none : Option Addr) (0 : Nat) (0 : Nat)), (.int .i64 (0 : Int)), (.int .i64 (0 : Int)), (.int .i64 (0 : Int)), (.int .i64 (0 : Int))]⟩) w29) ((0 : Int) ≤ (IntKind.i64.wrap (A0 * A1)) ∧ ((IntKind.i64.wrap (A0 * A1)) : Int) ≤ (IntKind.i64.wrap (A0 * A1)) ∧ ((8 : Nat) : Int) * (IntKind.i64.wrap (A0 * A1)) ≤ 281474976710656 ∧ (IntKind.i64.wrap (A0 * A1)) ≤ 9223372036854775807 ∧ newB ((List.range (Int.toNat (IntKind.i64.wrap (A0 * A1)))).map fun j => List.getD [(.float .f64 0)] (j % 1) default) 38 w2 fun q37 w38 => ∀ (k41 : Nat) (w40 : World), k41 = w38.heap.size → k41 < w40.heap.size → Ext w38 w40 → ∀ w43 : World, Exc k41 w40 w43 → (0 : Int) ≤ (if (IntKind.i64.wrap (A0 * A1)) < ((A2n : Nat) : Int) then (IntKind.i64.wrap (A0 * A1)) else ((A2n : Nat) : Int)) ∧ (if (IntKind.i64.wrap (A0 * A1)) < ((A2n : Nat) : Int) then (IntKind.i64.wrap (A0 * A1)) else ((A2n : Nat) : Int)) ≤ ((A2c : Nat) : Int) ∧ view_Dense.d5 K fu A1 k3 none 0 0 0 0 0 0 k41 (some q37) (Int.toNat (IntKind.i64.wrap (A0 * A1))) (Int.toNat (IntKind.i64.wrap (A0 * A1))) 0 A0 A1 (if 1 > A0 then 1 else A0) (if A2c = 0 then A2p else A2p.map (·.add (0 * 1))) ((Int.toNat (if (IntKind.i64.wrap (A0 * A1)) < ((A2n : Nat) : Int) then (IntKind.i64.wrap (A0 * A1)) else ((A2n : Nat) : Int))) - 0) (A2c - 0) ((((Int.toNat (if (IntKind.i64.wrap (A0 * A1)) < ((A2n : Nat) : Int) then (IntKind.i64.wrap (A0 * A1)) else ((A2n : Nat) : Int))) - 0) : Nat) : Int) 0 w43))))
theorem view_Dense.b5_s {K : Value → World → Prop} {x5 : Int → Option Addr → Option Addr → Option Addr → Nat → Nat → Int → Int → World → Prop} {s5 : Int → Nat → Option Addr → Nat → Nat → Int → Int → Int → Int → Nat → Option Addr → Nat → Nat → Int → Int → Int → Int → Option Addr → Nat → Nat → Int → Int → World → Prop} (i5 : ∀ {z1 : Int} {q6 : Addr} {y6_0p : Option Addr} {y6_0n y6_0c : Nat} {y6_1 : Int} {y6_2 : Int} {y6_3 : Int} {y6_4 : Int} {q7 : Addr} {y7_0p : Option Addr} {y7_0n y7_0c : Nat} {y7_1 : Int} {y7_2 : Int} {y7_3 : Int} {y7_4 : Int} {z41p : Option Addr} {z41n z41c : Nat} {z42 : Int} {z43 : Int} {w : World}, s5 z1 q6.block y6_0p y6_0n y6_0c y6_1 y6_2 y6_3 y6_4 q7.block y7_0p y7_0n y7_0c y7_1 y7_2 y7_3 y7_4 z41p z41n z41c z42 z43 w → St w [(q6, [(.slice y6_0p y6_0n y6_0c), (.int .i64 y6_1), (.int .i64 y6_2), (.int .i64 y6_3), (.int .i64 y6_4)]), (q7, [(.slice y7_0p y7_0n y7_0c), (.int .i64 y7_1), (.int .i64 y7_2), (.int .i64 y7_3), (.int .i64 y7_4)])] → x5 z1 (some q6) (some q7) z41p z41n z41c z42 z43 w) {z1 : Int} {q6 : Addr} {y6_0p : Option Addr} {y6_0n y6_0c : Nat} {y6_1 : Int} {y6_2 : Int} {y6_3 : Int} {y6_4 : Int} {q7 : Addr} {y7_0p : Option Addr} {y7_0n y7_0c : Nat} {y7_1 : Int} {y7_2 : Int} {y7_3 : Int} {y7_4 : Int} {z41p : Option Addr} {z41n z41c : Nat} {z42 : Int} {z43 : Int} {w : World} (h : view_Dense.e5 K s5 z1 q6.block y6_0p y6_0n y6_0c y6_1 y6_2 y6_3 y6_4 q7.block y7_0p y7_0n y7_0c y7_1 y7_2 y7_3 y7_4 z41p z41n z41c z42 z43 w) (st : St w [(q6, [(.slice y6_0p y6_0n y6_0c), (.int .i64 y6_1), (.int .i64 y6_2), (.int .i64 y6_3), (.int .i64 y6_4)]), (q7, [(.slice y7_0p y7_0n y7_0c), (.int .i64 y7_1), (.int .i64 y7_2), (.int .i64 y7_3), (.int .i64 y7_4)])]) : view_Dense.b5 K x5 z1 (some q6) (some q7) z41p z41n z41c z42 z43 w := by
  unfold view_Dense.b5
  unfold view_Dense.e5 at h
  refine br_mono (fun h => ?_) (fun h => ?_) h
  · refine ptrSome_mono (fun q1 h => ?_) h
    refine And.imp_right (fun h => ?_) h
    refine And.imp_right (fun h => ?_) h
    refine rd_f64.mono (fun x2 h => ?_) h
    replace st := st.drew
    have st3 := st
    refine ptrSome_intro rfl ?_
    refine rd_l.bx 1 0 st3 rfl rfl rfl ?_
    refine br_mono (fun h => ?_) (fun h => ?_) h
    · exact h
    · refine br_mono (fun h => ?_) (fun h => ?_) h
      · exact h
      · refine ptrSome_intro rfl ?_
        refine rd_i64.bx 1 4 st3 rfl rfl rfl ?_
        refine ptrSome_mono (fun q10 h => ?_) h
        refine And.imp_right (fun h => ?_) h
        refine And.imp_right (fun h => ?_) h
        refine stPT_mono (fun w11 h => ?_) h
        obtain ⟨hK, h⟩ := h
        replace st := st.keep hK
        exact i5 h (st.pick [0, 1] (by decide))
  · refine ptrSome_intro rfl ?_
    refine rd_l_i64_i64_i64_i64.bx 1 0 st rfl rfl rfl rfl rfl rfl rfl ?_
    refine ptrSome_intro rfl ?_
    refine St.put 0 0 st rfl rfl rfl rfl (fun w21 he st => ?_)
    replace h := h w21 he
    refine ptrSome_intro rfl ?_
    refine rd_l_i64_i64_i64_i64.bx 0 0 st rfl rfl rfl rfl rfl rfl rfl ?_
    exact h
theorem view_Dense.c5_s {K : Value → World → Prop} (fu : Nat) : ∀ {z1 : Int} {q6 : Addr} {y6_0p : Option Addr} {y6_0n y6_0c : Nat} {y6_1 : Int} {y6_2 : Int} {y6_3 : Int} {y6_4 : Int} {q7 : Addr} {y7_0p : Option Addr} {y7_0n y7_0c : Nat} {y7_1 : Int} {y7_2 : Int} {y7_3 : Int} {y7_4 : Int} {z41p : Option Addr} {z41n z41c : Nat} {z42 : Int} {z43 : Int} {w : World}, view_Dense.d5 K fu z1 q6.block y6_0p y6_0n y6_0c y6_1 y6_2 y6_3 y6_4 q7.block y7_0p y7_0n y7_0c y7_1 y7_2 y7_3 y7_4 z41p z41n z41c z42 z43 w → St w [(q6, [(.slice y6_0p y6_0n y6_0c), (.int .i64 y6_1), (.int .i64 y6_2), (.int .i64 y6_3), (.int .i64 y6_4)]), (q7, [(.slice y7_0p y7_0n y7_0c), (.int .i64 y7_1), (.int .i64 y7_2), (.int .i64 y7_3), (.int .i64 y7_4)])] → view_Dense.c5 K fu z1 (some q6) (some q7) z41p z41n z41c z42 z43 w := by
  induction fu with
  | zero => exact fun h _ => False.elim h
  | succ fu ih => exact fun h st => view_Dense.b5_s (K := K) (x5 := view_Dense.c5 K fu) (s5 := view_Dense.d5 K fu) ih h st
theorem view_Dense.os (fu : Nat) {A0 : Int} {A1 : Int} {A2p : Option Addr} {A2n A2c : Nat} {w : World} {K : Value → World → Prop} (h : view_Dense.s fu A0 A1 A2p A2n A2c w K) : view_Dense.call [(.int .i64 A0), (.int .i64 A1), (.slice A2p A2n A2c)] w K := by
  refine view_Dense.ok fu ?_
  have st := St.nil w
  unfold view_Dense.x
  unfold view_Dense.s at h
  refine St.new (St.nil _) (fun q1 w2 hk hlt he st => ?_)
  replace h := h q1.block w2 hk hlt he
  refine br_mono (fun h => ?_) (fun h => ?_) h
  · refine St.put 0 0 st rfl rfl rfl rfl (fun w5 he st => ?_)
    replace h := h w5 he
    refine rd_l_i64_i64_i64_i64.bx 0 0 st rfl rfl rfl rfl rfl rfl rfl ?_
    exact h
  · refine br_mono (fun h => ?_) (fun h => ?_) h
    · refine St.put 0 0 st rfl rfl rfl rfl (fun w13 he st => ?_)
      replace h := h w13 he
      refine rd_l_i64_i64_i64_i64.bx 0 0 st rfl rfl rfl rfl rfl rfl rfl ?_
      exact h
    · refine br_mono (fun h => ?_) (fun h => ?_) h
      · refine St.put 0 0 st rfl rfl rfl rfl (fun w21 he st => ?_)
        replace h := h w21 he
        refine rd_l_i64_i64_i64_i64.bx 0 0 st rfl rfl rfl rfl rfl rfl rfl ?_
        exact h
      · refine br_mono (fun h => ?_) (fun h => ?_) h
        · refine St.put 0 0 st rfl rfl rfl rfl (fun w29 he st => ?_)
          replace h := h w29 he
          refine rd_l_i64_i64_i64_i64.bx 0 0 st rfl rfl rfl rfl rfl rfl rfl ?_
          exact h
        · refine And.imp_right (fun h => ?_) h
          refine And.imp_right (fun h => ?_) h
          refine And.imp_right (fun h => ?_) h
          refine And.imp_right (fun h => ?_) h
          refine newB_mono st h (fun q37 w38 st h => ?_)
          refine St.new st (fun q39 w40 hk hlt he st => ?_)
          replace h := h q39.block w40 hk hlt he
          refine St.put 0 0 st rfl rfl rfl rfl (fun w43 he st => ?_)
          replace h := h w43 he
          refine And.imp_right (fun h => ?_) h
          refine And.imp_right (fun h => ?_) h
          exact view_Dense.c5_s fu h (st.pick [1, 0] (by decide))

/-! ### straightedge/view.At: function 35 -/
def view_At.x (A0_0p : Option Addr) (A0_0n A0_0c : Nat) (A0_1 : Int) (A0_2 : Int) (A0_3 : Int) (A0_4 : Int) (A1 : Int) (A2 : Int) (w : World) (K : Value → World → Prop) : Prop := newB [(.slice A0_0p A0_0n A0_0c), (.int .i64 A0_1), (.int .i64 A0_2), (.int .i64 A0_3), (.int .i64 A0_4)] 24 w fun q1 w2 => rd_l_i64_i64_i64_i64 w2 q1 fun a3 n4 c5 i6 i7 i8 i9 => view_place.call [(.agg ⟨[(.slice a3 n4 c5), (.int .i64 i6), (.int .i64 i7), (.int .i64 i8), (.int .i64 i9)]⟩), (.int .i64 A1), (.int .i64 A2)] w2 fun v10 w11 => ∃ i12 : Int, v10 = (.int .i64 i12) ∧ br (decide (i12 ≥ 0)) (rd_l w11 q1 fun a13 n14 c15 => ptrSome a13 fun q16 => (0 : Int) ≤ i12 ∧ i12 < ((n14 : Nat) : Int) ∧ rd_f64 w11 (q16.add (Int.toNat i12)) fun x17 => K (.float .f64 x17) w11) (K (.float .f64 0) w11)
theorem view_At.ok {A0_0p : Option Addr} {A0_0n A0_0c : Nat} {A0_1 : Int} {A0_2 : Int} {A0_3 : Int} {A0_4 : Int} {A1 : Int} {A2 : Int} {w : World} {K : Value → World → Prop} (h : view_At.x A0_0p A0_0n A0_0c A0_1 A0_2 A0_3 A0_4 A1 A2 w K) : view_At.call [(.agg ⟨[(.slice A0_0p A0_0n A0_0c), (.int .i64 A0_1), (.int .i64 A0_2), (.int .i64 A0_3), (.int .i64 A0_4)]⟩), (.int .i64 A1), (.int .i64 A2)] w K :=
  callF_of_ex0 (f := Try.f35) Try.func35 rfl mixed (by kernel_rfl) (Eq.mp (by kernel_rfl) h)
/-! the same, the local variables taken out -/
def view_At.s (A0_0p : Option Addr) (A0_0n A0_0c : Nat) (A0_1 : Int) (A0_2 : Int) (A0_3 : Int) (A0_4 : Int) (A1 : Int) (A2 : Int) (w : World) (K : Value → World → Prop) : Prop := ∀ (k3 : Nat) (w2 : World), k3 = w.heap.size → k3 < w2.heap.size → Ext w w2 → view_place.call [(.agg ⟨[(.slice A0_0p A0_0n A0_0c), (.int .i64 A0_1), (.int .i64 A0_2), (.int .i64 A0_3), (.int .i64 A0_4)]⟩), (.int .i64 A1), (.int .i64 A2)] w2 fun v12 w13 => Stay [k3] w2 w13 ∧ ∃ i14 : Int, v12 = (.int .i64 i14) ∧ br (decide (i14 ≥ 0)) (ptrSome A0_0p fun q18 => (0 : Int) ≤ i14 ∧ i14 < ((A0_0n : Nat) : Int) ∧ rd_f64 w13 (q18.add (Int.toNat i14)) fun x19 => K (.float .f64 x19) w13) (K (.float .f64 0) w13)
theorem view_At.os {A0_0p : Option Addr} {A0_0n A0_0c : Nat} {A0_1 : Int} {A0_2 : Int} {A0_3 : Int} {A0_4 : Int} {A1 : Int} {A2 : Int} {w : World} {K : Value → World → Prop} (h : view_At.s A0_0p A0_0n A0_0c A0_1 A0_2 A0_3 A0_4 A1 A2 w K) : view_At.call [(.agg ⟨[(.slice A0_0p A0_0n A0_0c), (.int .i64 A0_1), (.int .i64 A0_2), (.int .i64 A0_3), (.int .i64 A0_4)]⟩), (.int .i64 A1), (.int .i64 A2)] w K := by
  refine view_At.ok ?_
  have st := St.nil w
  unfold view_At.x
  unfold view_At.s at h
  refine St.new (St.nil _) (fun q1 w2 hk hlt he st => ?_)
  replace h := h q1.block w2 hk hlt he
  refine rd_l_i64_i64_i64_i64.bx 0 0 st rfl rfl rfl rfl rfl rfl rfl ?_
  refine CallF.mono h (fun v12 w13 h => ?_)
  obtain ⟨hK, h⟩ := h
  replace st := st.stay hK
  obtain ⟨i14, h⟩ := h
  refine ⟨i14, ?_⟩
  refine And.imp_right (fun h => ?_) h
  refine br_mono (fun h => ?_) (fun h => ?_) h
  · refine rd_l.bx 0 0 st rfl rfl rfl ?_
    exact h
  · exact h

/-! ### straightedge/view.Part: function 37 -/
def view_Part.x (A0_0p : Option Addr) (A0_0n A0_0c : Nat) (A0_1 : Int) (A0_2 : Int) (A0_3 : Int) (A0_4 : Int) (A1 : Int) (A2 : Int) (A3 : Int) (A4 : Int) (w : World) (K : Value → World → Prop) : Prop := newB [(.slice A0_0p A0_0n A0_0c), (.int .i64 A0_1), (.int .i64 A0_2), (.int .i64 A0_3), (.int .i64 A0_4)] 24 w fun q1 w2 => newB [(.slice none 0 0), (.int .i64 0), (.int .i64 0), (.int .i64 0), (.int .i64 0)] 24 w2 fun q3 w4 => rd_l_i64_i64_i64_i64 w4 q1 fun a5 n6 c7 i8 i9 i10 i11 => view_Good.call [(.agg ⟨[(.slice a5 n6 c7), (.int .i64 i8), (.int .i64 i9), (.int .i64 i10), (.int .i64 i11)]⟩)] w4 fun v12 w13 => ∃ b14 : Bool, v12 = (.bool b14) ∧ br (!b14) (stPT q3 0 [(.slice none 0 0), (.int .i64 0), (.int .i64 0), (.int .i64 0), (.int .i64 0)] w13 fun w15 => rd_l_i64_i64_i64_i64 w15 q3 fun a16 n17 c18 i19 i20 i21 i22 => K (.agg ⟨[(.slice a16 n17 c18), (.int .i64 i19), (.int .i64 i20), (.int .i64 i21), (.int .i64 i22)]⟩) w15) (br (decide (A1 < 0)) (stPT q3 0 [(.slice none 0 0), (.int .i64 0), (.int .i64 0), (.int .i64 0), (.int .i64 0)] w13 fun w23 => rd_l_i64_i64_i64_i64 w23 q3 fun a24 n25 c26 i27 i28 i29 i30 => K (.agg ⟨[(.slice a24 n25 c26), (.int .i64 i27), (.int .i64 i28), (.int .i64 i29), (.int .i64 i30)]⟩) w23) (br (decide (A2 < 0)) (stPT q3 0 [(.slice none 0 0), (.int .i64 0), (.int .i64 0), (.int .i64 0), (.int .i64 0)] w13 fun w31 => rd_l_i64_i64_i64_i64 w31 q3 fun a32 n33 c34 i35 i36 i37 i38 => K (.agg ⟨[(.slice a32 n33 c34), (.int .i64 i35), (.int .i64 i36), (.int .i64 i37), (.int .i64 i38)]⟩) w31) (br (decide (A3 < 0)) (stPT q3 0 [(.slice none 0 0), (.int .i64 0), (.int .i64 0), (.int .i64 0), (.int .i64 0)] w13 fun w39 => rd_l_i64_i64_i64_i64 w39 q3 fun a40 n41 c42 i43 i44 i45 i46 => K (.agg ⟨[(.slice a40 n41 c42), (.int .i64 i43), (.int .i64 i44), (.int .i64 i45), (.int .i64 i46)]⟩) w39) (br (decide (A4 < 0)) (stPT q3 0 [(.slice none 0 0), (.int .i64 0), (.int .i64 0), (.int .i64 0), (.int .i64 0)] w13 fun w47 => rd_l_i64_i64_i64_i64 w47 q3 fun a48 n49 c50 i51 i52 i53 i54 => K (.agg ⟨[(.slice a48 n49 c50), (.int .i64 i51), (.int .i64 i52), (.int .i64 i53), (.int .i64 i54)]⟩) w47) (rd_i64 w13 (q1.add 2) fun i55 => br (decide (A3 > (IntKind.i64.wrap (i55 - A1)))) (stPT q3 0 [(.slice none 0 0), (.int .i64 0), (.int .i64 0), (.int .i64 0), (.int .i64 0)] w13 fun w56 => rd_l_i64_i64_i64_i64 w56 q3 fun a57 n58 c59 i60 i61 i62 i63 => K (.agg ⟨[(.slice a57 n58 c59), (.int .i64 i60), (.int .i64 i61), (.int .i64 i62), (.int .i64 i63)]⟩) w56) (rd_i64 w13 (q1.add 3) fun i64 => br (decide (A4 > (IntKind.i64.wrap (i64 - A2)))) (stPT q3 0 [(.slice none 0 0), (.int .i64 0), (.int .i64 0), (.int .i64 0), (.int .i64 0)] w13 fun w65 => rd_l_i64_i64_i64_i64 w65 q3 fun a66 n67 c68 i69 i70 i71 i72 => K (.agg ⟨[(.slice a66 n67 c68), (.int .i64 i69), (.int .i64 i70), (.int .i64 i71), (.int .i64 i72)]⟩) w65) (rd_l w13 q1 fun a73 n74 c75 => rd_i64 w13 (q1.add 1) fun i76 => rd_i64 w13 (q1.add 4) fun i77 => newB [(.slice none 0 0), (.int .i64 0), (.int .i64 0), (.int .i64 0), (.int .i64 0)] 24 w13 fun q78 w79 => stPT q78 0 [(.slice a73 n74 c75), (.int .i64 i76), (.int .i64 A3), (.int .i64 A4), (.int .i64 i77)] w79 fun w80 => br (decide (A3 > 0)) (br (decide (A4 > 0)) (rd_i64 w80 (q78.add 1) fun i81 => rd_i64 w80 (q1.add 4) fun i82 => stPT (q78.add 1) 0 [(.int .i64 (IntKind.i64.wrap (i81 + (IntKind.i64.wrap (A1 + (IntKind.i64.wrap (A2 * i82)))))))] w80 fun w83 => rd_l_i64_i64_i64_i64 w83 q78 fun a84 n85 c86 i87 i88 i89 i90 => stPT q3 0 [(.slice a84 n85 c86), (.int .i64 i87), (.int .i64 i88), (.int .i64 i89), (.int .i64 i90)] w83 fun w91 => rd_l_i64_i64_i64_i64 w91 q3 fun a92 n93 c94 i95 i96 i97 i98 => K (.agg ⟨[(.slice a92 n93 c94), (.int .i64 i95), (.int .i64 i96), (.int .i64 i97), (.int .i64 i98)]⟩) w91) (rd_l_i64_i64_i64_i64 w80 q78 fun a99 n100 c101 i102 i103 i104 i105 => stPT q3 0 [(.slice a99 n100 c101), (.int .i64 i102), (.int .i64 i103), (.int .i64 i104), (.int .i64 i105)] w80 fun w106 => rd_l_i64_i64_i64_i64 w106 q3 fun a107 n108 c109 i110 i111 i112 i113 => K (.agg ⟨[(.slice a107 n108 c109), (.int .i64 i110), (.int .i64 i111), (.int .i64 i112), (.int .i64 i113)]⟩) w106)) (rd_l_i64_i64_i64_i64 w80 q78 fun a114 n115 c116 i117 i118 i119 i120 => stPT q3 0 [(.slice a114 n115 c116), (.int .i64 i117), (.int .i64 i118), (.int .i64 i119), (.int .i64 i120)] w80 fun w121 => rd_l_i64_i64_i64_i64 w121 q3 fun a122 n123 c124 i125 i126 i127 i128 => K (.agg ⟨[(.slice a122 n123 c124), (.int .i64 i125), (.int .i64 i126), (.int .i64 i127), (.int .i64 i128)]⟩) w121))))))))
theorem view_Part.ok {A0_0p : Option Addr} {A0_0n A0_0c : Nat} {A0_1 : Int} {A0_2 : Int} {A0_3 : Int} {A0_4 : Int} {A1 : Int} {A2 : Int} {A3 : Int} {A4 : Int} {w : World} {K : Value → World → Prop} (h : view_Part.x A0_0p A0_0n A0_0c A0_1 A0_2 A0_3 A0_4 A1 A2 A3 A4 w K) : view_Part.call [(.agg ⟨[(.slice A0_0p A0_0n A0_0c), (.int .i64 A0_1), (.int .i64 A0_2), (.int .i64 A0_3), (.int .i64 A0_4)]⟩), (.int .i64 A1), (.int .i64 A2), (.int .i64 A3), (.int .i64 A4)] w K :=
  callF_of_ex0 (f := Try.f37) Try.func37 rfl mixed (by kernel_rfl) (Eq.mp (by kernel_rfl) h)
/-! the same, the local variables taken out -/
def view_Part.s (A0_0p : Option Addr) (A0_0n A0_0c : Nat) (A0_1 : Int) (A0_2 : Int) (A0_3 : Int) (A0_4 : Int) (A1 : Int) (A2 : Int) (A3 : Int) (A4 : Int) (w : World) (K : Value → World → Prop) : Prop := ∀ (k3 : Nat) (w2 : World), k3 = w.heap.size → k3 < w2.heap.size → Ext w w2 → ∀ (k7 : Nat) (w6 : World), k7 = w2.heap.size → k7 < w6.heap.size → Ext w2 w6 → view_Good.call [(.agg ⟨[(.slice A0_0p A0_0n A0_0c), (.int .i64 A0_1), (.int .i64 A0_2), (.int .i64 A0_3), (.int .i64 A0_4)]⟩)] w6 fun v16 w17 => Stay [k7, k3] w6 w17 ∧ ∃ b18 : Bool, v16 = (.bool b18) ∧ br (!b18) (∀ w19 : World, Exc k7 w17 w19 → K (.agg ⟨[(.slice (none : Option Addr) (0 : Nat) (0 : Nat)), (.int .i64 (0 : Int)), (.int .i64 (0 : Int)), (.int .i64 (0 : Int)), (.int .i64 (0 : Int))]⟩) w19) (br (decide (A1 < 0)) (∀ w27 : World, Exc k7 w17 w27 → K (.agg ⟨[(.slice (none : Option Addr) (0 : Nat) (0 : Nat)), (.int .i64 (0 : Int)), (.int .i64 (0 : Int)), (.int .i64 (0 : Int)), (.int .i64 (0 : Int))]⟩) w27) (br (decide (A2 < 0)) (∀ w35 : World, Exc k7 w17 w35 → K (.agg ⟨[(.slice (none : Option Addr) (0 : Nat) (0 : Nat)), (.int .i64 (0 : Int)), (.int .i64 (0 : Int)), (.int .i64 (0 : Int)), (.int .i64 (0 : Int))]⟩) w35) (br (decide (A3 < 0)) (∀ w43 : World, Exc k7 w17 w43 → K (.agg ⟨[(.slice (none : Option Addr) (0 : Nat) (0 : Nat)), (.int .i64 (0 : Int)), (.int .i64 (0 : Int)), (.int .i64 (0 : Int)), (.int .i64 (0 : Int))]⟩) w43) (br (decide (A4 < 0)) (∀ w51 : World, Exc k7 w17 w51 → K (.agg ⟨[(.slice (none : Option Addr) (0 : Nat) (0 : Nat)), (.int .i64 (0 : Int)), (.int .i64 (0 : Int)), (.int .i64 (0 : Int)), (.int .i64 (0 : Int))]⟩) w51) (br (decide (A3 > (IntKind.i64.wrap (A0_2 - A1)))) (∀ w60 : World, Exc k7 w17 w60 → K (.agg ⟨[(.slice (none : Option Addr) (0 : Nat) (0 : Nat)), (.int .i64 (0 : Int)), (.int .i64 (0 : Int)), (.int .i64 (0 : Int)), (.int .i64 (0 : Int))]⟩) w60) (br (decide (A4 > (IntKind.i64.wrap (A0_3 - A2)))) (∀ w69 : World, Exc k7 w17 w69 → K (.agg ⟨[(.slice (none : Option Addr) (0 : Nat) (0 : Nat)), (.int .i64 (0 : Int)), (.int .i64 (0 : Int)), (.int .i64 (0 : Int)), (.int .i64 (0 : Int))]⟩) w69) (∀ (k84 : Nat) (w83 : World), k84 = w17.heap.size → k84 < w83.heap.size → Ext w17 w83 → ∀ w86 : World, Exc k84 w83 w86 → br (decide (A3 > 0)) (br (decide (A4 > 0)) (∀ w89 : World, Exc k84 w86 w89 → ∀ w97 : World, Exc k7 w89 w97 → K (.agg ⟨[(.slice A0_0p A0_0n A0_0c), (.int .i64 (IntKind.i64.wrap (A0_1 + (IntKind.i64.wrap (A1 + (IntKind.i64.wrap (A2 * A0_4))))))), (.int .i64 A3), (.int .i64 A4), (.int .i64 A0_4)]⟩) w97) (∀ w112 : World, Exc k7 w86 w112 → K (.agg ⟨[(.slice A0_0p A0_0n A0_0c), (.int .i64 A0_1), (.int .i64 A3), (.int .i64 A4), (.int .i64 A0_4)]⟩) w112)) (∀ w127 : World, Exc k7 w86 w127 → K (.agg ⟨[(.slice A0_0p A0_0n A0_0c), (.int .i64 A0_1), (.int .i64 A3), (.int .i64 A4), (.int .i64 A0_4)]⟩) w127))))))))
theorem view_Part.os {A0_0p : Option Addr} {A0_0n A0_0c : Nat} {A0_1 : Int} {A0_2 : Int} {A0_3 : Int} {A0_4 : Int} {A1 : Int} {A2 : Int} {A3 : Int} {A4 : Int} {w : World} {K : Value → World → Prop} (h : view_Part.s A0_0p A0_0n A0_0c A0_1 A0_2 A0_3 A0_4 A1 A2 A3 A4 w K) : view_Part.call [(.agg ⟨[(.slice A0_0p A0_0n A0_0c), (.int .i64 A0_1), (.int .i64 A0_2), (.int .i64 A0_3), (.int .i64 A0_4)]⟩), (.int .i64 A1), (.int .i64 A2), (.int .i64 A3), (.int .i64 A4)] w K := by
  refine view_Part.ok ?_
  have st := St.nil w
  unfold view_Part.x
  unfold view_Part.s at h
  refine St.new (St.nil _) (fun q1 w2 hk hlt he st => ?_)
  replace h := h q1.block w2 hk hlt he
  refine St.new st (fun q5 w6 hk hlt he st => ?_)
  replace h := h q5.block w6 hk hlt he
  refine rd_l_i64_i64_i64_i64.bx 1 0 st rfl rfl rfl rfl rfl rfl rfl ?_
  refine CallF.mono h (fun v16 w17 h => ?_)
  obtain ⟨hK, h⟩ := h
  replace st := st.stay hK
  obtain ⟨b18, h⟩ := h
  refine ⟨b18, ?_⟩
  refine And.imp_right (fun h => ?_) h
  refine br_mono (fun h => ?_) (fun h => ?_) h
  · refine St.put 0 0 st rfl rfl rfl rfl (fun w19 he st => ?_)
    replace h := h w19 he
    refine rd_l_i64_i64_i64_i64.bx 0 0 st rfl rfl rfl rfl rfl rfl rfl ?_
    exact h
  · refine br_mono (fun h => ?_) (fun h => ?_) h
    · refine St.put 0 0 st rfl rfl rfl rfl (fun w27 he st => ?_)
      replace h := h w27 he
      refine rd_l_i64_i64_i64_i64.bx 0 0 st rfl rfl rfl rfl rfl rfl rfl ?_
      exact h
    · refine br_mono (fun h => ?_) (fun h => ?_) h
      · refine St.put 0 0 st rfl rfl rfl rfl (fun w35 he st => ?_)
        replace h := h w35 he
        refine rd_l_i64_i64_i64_i64.bx 0 0 st rfl rfl rfl rfl rfl rfl rfl ?_
        exact h
      · refine br_mono (fun h => ?_) (fun h => ?_) h
        · refine St.put 0 0 st rfl rfl rfl rfl (fun w43 he st => ?_)
          replace h := h w43 he
          refine rd_l_i64_i64_i64_i64.bx 0 0 st rfl rfl rfl rfl rfl rfl rfl ?_
          exact h
        · refine br_mono (fun h => ?_) (fun h => ?_) h
          · refine St.put 0 0 st rfl rfl rfl rfl (fun w51 he st => ?_)
            replace h := h w51 he
            refine rd_l_i64_i64_i64_i64.bx 0 0 st rfl rfl rfl rfl rfl rfl rfl ?_
            exact h
          · refine rd_i64.bx 1 2 st rfl rfl rfl ?_
            refine br_mono (fun h => ?_) (fun h => ?_) h
            · refine St.put 0 0 st rfl rfl rfl rfl (fun w60 he st => ?_)
              replace h := h w60 he
              refine rd_l_i64_i64_i64_i64.bx 0 0 st rfl rfl rfl rfl rfl rfl rfl ?_
              exact h
            · refine rd_i64.bx 1 3 st rfl rfl rfl ?_
              refine br_mono (fun h => ?_) (fun h => ?_) h
              · refine St.put 0 0 st rfl rfl rfl rfl (fun w69 he st => ?_)
                replace h := h w69 he
                refine rd_l_i64_i64_i64_i64.bx 0 0 st rfl rfl rfl rfl rfl rfl rfl ?_
                exact h
              · refine rd_l.bx 1 0 st rfl rfl rfl ?_
                refine rd_i64.bx 1 1 st rfl rfl rfl ?_
                refine rd_i64.bx 1 4 st rfl rfl rfl ?_
                refine St.new st (fun q82 w83 hk hlt he st => ?_)
                replace h := h q82.block w83 hk hlt he
                refine St.put 0 0 st rfl rfl rfl rfl (fun w86 he st => ?_)
                replace h := h w86 he
                refine br_mono (fun h => ?_) (fun h => ?_) h
                · refine br_mono (fun h => ?_) (fun h => ?_) h
                  · refine rd_i64.bx 0 1 st rfl rfl rfl ?_
                    refine rd_i64.bx 2 4 st rfl rfl rfl ?_
                    refine St.put 0 1 st rfl rfl rfl rfl (fun w89 he st => ?_)
                    replace h := h w89 he
                    refine rd_l_i64_i64_i64_i64.bx 0 0 st rfl rfl rfl rfl rfl rfl rfl ?_
                    refine St.put 1 0 st rfl rfl rfl rfl (fun w97 he st => ?_)
                    replace h := h w97 he
                    refine rd_l_i64_i64_i64_i64.bx 1 0 st rfl rfl rfl rfl rfl rfl rfl ?_
                    exact h
                  · refine rd_l_i64_i64_i64_i64.bx 0 0 st rfl rfl rfl rfl rfl rfl rfl ?_
                    refine St.put 1 0 st rfl rfl rfl rfl (fun w112 he st => ?_)
                    replace h := h w112 he
                    refine rd_l_i64_i64_i64_i64.bx 1 0 st rfl rfl rfl rfl rfl rfl rfl ?_
                    exact h
                · refine rd_l_i64_i64_i64_i64.bx 0 0 st rfl rfl rfl rfl rfl rfl rfl ?_
                  refine St.put 1 0 st rfl rfl rfl rfl (fun w127 he st => ?_)
                  replace h := h w127 he
                  refine rd_l_i64_i64_i64_i64.bx 1 0 st rfl rfl rfl rfl rfl rfl rfl ?_
                  exact h

/-! ### straightedge/view.Good: function 57 -/
def view_Good.x (A0_0p : Option Addr) (A0_0n A0_0c : Nat) (A0_1 : Int) (A0_2 : Int) (A0_3 : Int) (A0_4 : Int) (w : World) (K : Value → World → Prop) : Prop := newB [(.slice A0_0p A0_0n A0_0c), (.int .i64 A0_1), (.int .i64 A0_2), (.int .i64 A0_3), (.int .i64 A0_4)] 24 w fun q1 w2 => rd_i64 w2 (q1.add 2) fun i3 => br (decide (i3 < 0)) (K (.bool false) w2) (rd_i64 w2 (q1.add 3) fun i4 => br (decide (i4 < 0)) (K (.bool false) w2) (rd_i64 w2 (q1.add 1) fun i5 => br (decide (i5 < 0)) (K (.bool false) w2) (rd_i64 w2 (q1.add 4) fun i6 => br (decide (i6 < 1)) (K (.bool false) w2) (rd_i64 w2 (q1.add 4) fun i7 => rd_i64 w2 (q1.add 2) fun i8 => br (decide (i7 < i8)) (K (.bool false) w2) (rd_i64 w2 (q1.add 2) fun i9 => br (i9 == 0) (K (.bool true) w2) (rd_i64 w2 (q1.add 3) fun i10 => br (i10 == 0) (K (.bool true) w2) (rd_l w2 q1 fun a11 n12 c13 => rd_i64 w2 (q1.add 1) fun i14 => rd_i64 w2 (q1.add 3) fun i15 => rd_i64 w2 (q1.add 4) fun i16 => rd_i64 w2 (q1.add 2) fun i17 => view_fits.call [(.int .i64 ((n12 : Nat) : Int)), (.int .i64 i14), (.int .i64 (IntKind.i64.wrap (i15 - 1))), (.int .i64 i16), (.int .i64 (IntKind.i64.wrap (i17 - 1)))] w2 fun v18 w19 => ∃ b20 : Bool, v18 = (.bool b20) ∧ K (.bool b20) w19)))))))
theorem view_Good.ok {A0_0p : Option Addr} {A0_0n A0_0c : Nat} {A0_1 : Int} {A0_2 : Int} {A0_3 : Int} {A0_4 : Int} {w : World} {K : Value → World → Prop} (h : view_Good.x A0_0p A0_0n A0_0c A0_1 A0_2 A0_3 A0_4 w K) : view_Good.call [(.agg ⟨[(.slice A0_0p A0_0n A0_0c), (.int .i64 A0_1), (.int .i64 A0_2), (.int .i64 A0_3), (.int .i64 A0_4)]⟩)] w K :=
  callF_of_ex0 (f := Try.f57) Try.func57 rfl mixed (by kernel_rfl) (Eq.mp (by kernel_rfl) h)
/-! the same, the local variables taken out -/
def view_Good.s (A0_0p : Option Addr) (A0_0n A0_0c : Nat) (A0_1 : Int) (A0_2 : Int) (A0_3 : Int) (A0_4 : Int) (w : World) (K : Value → World → Prop) : Prop := ∀ (k3 : Nat) (w2 : World), k3 = w.heap.size → k3 < w2.heap.size → Ext w w2 → br (decide (A0_2 < 0)) (K (.bool false) w2) (br (decide (A0_3 < 0)) (K (.bool false) w2) (br (decide (A0_1 < 0)) (K (.bool false) w2) (br (decide (A0_4 < 1)) (K (.bool false) w2) (br (decide (A0_4 < A0_2)) (K (.bool false) w2) (br (A0_2 == 0) (K (.bool true) w2) (br (A0_3 == 0) (K (.bool true) w2) (view_fits.call [(.int .i64 ((A0_0n : Nat) : Int)), (.int .i64 A0_1), (.int .i64 (IntKind.i64.wrap (A0_3 - 1))), (.int .i64 A0_4), (.int .i64 (IntKind.i64.wrap (A0_2 - 1)))] w2 fun v20 w21 => Stay [k3] w2 w21 ∧ ∃ b22 : Bool, v20 = (.bool b22) ∧ K (.bool b22) w21)))))))
theorem view_Good.os {A0_0p : Option Addr} {A0_0n A0_0c : Nat} {A0_1 : Int} {A0_2 : Int} {A0_3 : Int} {A0_4 : Int} {w : World} {K : Value → World → Prop} (h : view_Good.s A0_0p A0_0n A0_0c A0_1 A0_2 A0_3 A0_4 w K) : view_Good.call [(.agg ⟨[(.slice A0_0p A0_0n A0_0c), (.int .i64 A0_1), (.int .i64 A0_2), (.int .i64 A0_3), (.int .i64 A0_4)]⟩)] w K := by
  refine view_Good.ok ?_
  have st := St.nil w
  unfold view_Good.x
  unfold view_Good.s at h
  refine St.new (St.nil _) (fun q1 w2 hk hlt he st => ?_)
  replace h := h q1.block w2 hk hlt he
  refine rd_i64.bx 0 2 st rfl rfl rfl ?_
  refine br_mono (fun h => ?_) (fun h => ?_) h
  · exact h
  · refine rd_i64.bx 0 3 st rfl rfl rfl ?_
    refine br_mono (fun h => ?_) (fun h => ?_) h
    · exact h
    · refine rd_i64.bx 0 1 st rfl rfl rfl ?_
      refine br_mono (fun h => ?_) (fun h => ?_) h
      · exact h
      · refine rd_i64.bx 0 4 st rfl rfl rfl ?_
        refine br_mono (fun h => ?_) (fun h => ?_) h
        · exact h
        · refine rd_i64.bx 0 4 st rfl rfl rfl ?_
          refine rd_i64.bx 0 2 st rfl rfl rfl ?_
          refine br_mono (fun h => ?_) (fun h => ?_) h
          · exact h
          · refine rd_i64.bx 0 2 st rfl rfl rfl ?_
            refine br_mono (fun h => ?_) (fun h => ?_) h
            · exact h
            · refine rd_i64.bx 0 3 st rfl rfl rfl ?_
              refine br_mono (fun h => ?_) (fun h => ?_) h
              · exact h
              · refine rd_l.bx 0 0 st rfl rfl rfl ?_
                refine rd_i64.bx 0 1 st rfl rfl rfl ?_
                refine rd_i64.bx 0 3 st rfl rfl rfl ?_
                refine rd_i64.bx 0 4 st rfl rfl rfl ?_
                refine rd_i64.bx 0 2 st rfl rfl rfl ?_
                refine CallF.mono h (fun v20 w21 h => ?_)
                obtain ⟨hK, h⟩ := h
                replace st := st.stay hK
                exact h

/-! ### straightedge/view.Col: function 59 -/
def view_Col.x (A0_0p : Option Addr) (A0_0n A0_0c : Nat) (A0_1 : Int) (A0_2 : Int) (A0_3 : Int) (A0_4 : Int) (A1 : Int) (w : World) (K : Value → World → Prop) : Prop := newB [(.slice A0_0p A0_0n A0_0c), (.int .i64 A0_1), (.int .i64 A0_2), (.int .i64 A0_3), (.int .i64 A0_4)] 24 w fun q1 w2 => newB [(.slice none 0 0), (.int .i64 0), (.int .i64 0), (.int .i64 0)] 66 w2 fun q3 w4 => rd_l_i64_i64_i64_i64 w4 q1 fun a5 n6 c7 i8 i9 i10 i11 => view_Good.call [(.agg ⟨[(.slice a5 n6 c7), (.int .i64 i8), (.int .i64 i9), (.int .i64 i10), (.int .i64 i11)]⟩)] w4 fun v12 w13 => ∃ b14 : Bool, v12 = (.bool b14) ∧ br (!b14) (stPT q3 0 [(.slice none 0 0), (.int .i64 0), (.int .i64 0), (.int .i64 0)] w13 fun w15 => rd_l_i64_i64_i64 w15 q3 fun a16 n17 c18 i19 i20 i21 => K (.agg ⟨[(.slice a16 n17 c18), (.int .i64 i19), (.int .i64 i20), (.int .i64 i21)]⟩) w15) (br (decide (A1 < 0)) (stPT q3 0 [(.slice none 0 0), (.int .i64 0), (.int .i64 0), (.int .i64 0)] w13 fun w22 => rd_l_i64_i64_i64 w22 q3 fun a23 n24 c25 i26 i27 i28 => K (.agg ⟨[(.slice a23 n24 c25), (.int .i64 i26), (.int .i64 i27), (.int .i64 i28)]⟩) w22) (rd_i64 w13 (q1.add 3) fun i29 => br (decide (A1 ≥ i29)) (stPT q3 0 [(.slice none 0 0), (.int .i64 0), (.int .i64 0), (.int .i64 0)] w13 fun w30 => rd_l_i64_i64_i64 w30 q3 fun a31 n32 c33 i34 i35 i36 => K (.agg ⟨[(.slice a31 n32 c33), (.int .i64 i34), (.int .i64 i35), (.int .i64 i36)]⟩) w30) (rd_l w13 q1 fun a37 n38 c39 => rd_i64 w13 (q1.add 1) fun i40 => rd_i64 w13 (q1.add 2) fun i41 => newB [(.slice none 0 0), (.int .i64 0), (.int .i64 0), (.int .i64 0)] 66 w13 fun q42 w43 => stPT q42 0 [(.slice a37 n38 c39), (.int .i64 i40), (.int .i64 i41), (.int .i64 1)] w43 fun w44 => rd_i64 w44 (q1.add 2) fun i45 => br (decide (i45 > 0)) (rd_i64 w44 (q42.add 1) fun i46 => rd_i64 w44 (q1.add 4) fun i47 => stPT (q42.add 1) 0 [(.int .i64 (IntKind.i64.wrap (i46 + (IntKind.i64.wrap (A1 * i47)))))] w44 fun w48 => rd_l_i64_i64_i64 w48 q42 fun a49 n50 c51 i52 i53 i54 => stPT q3 0 [(.slice a49 n50 c51), (.int .i64 i52), (.int .i64 i53), (.int .i64 i54)] w48 fun w55 => rd_l_i64_i64_i64 w55 q3 fun a56 n57 c58 i59 i60 i61 => K (.agg ⟨[(.slice a56 n57 c58), (.int .i64 i59), (.int .i64 i60), (.int .i64 i61)]⟩) w55) (rd_l_i64_i64_i64 w44 q42 fun a62 n63 c64 i65 i66 i67 => stPT q3 0 [(.slice a62 n63 c64), (.int .i64 i65), (.int .i64 i66), (.int .i64 i67)] w44 fun w68 => rd_l_i64_i64_i64 w68 q3 fun a69 n70 c71 i72 i73 i74 => K (.agg ⟨[(.slice a69 n70 c71), (.int .i64 i72), (.int .i64 i73), (.int .i64 i74)]⟩) w68))))
theorem view_Col.ok {A0_0p : Option Addr} {A0_0n A0_0c : Nat} {A0_1 : Int} {A0_2 : Int} {A0_3 : Int} {A0_4 : Int} {A1 : Int} {w : World} {K : Value → World → Prop} (h : view_Col.x A0_0p A0_0n A0_0c A0_1 A0_2 A0_3 A0_4 A1 w K) : view_Col.call [(.agg ⟨[(.slice A0_0p A0_0n A0_0c), (.int .i64 A0_1), (.int .i64 A0_2), (.int .i64 A0_3), (.int .i64 A0_4)]⟩), (.int .i64 A1)] w K :=
  callF_of_ex0 (f := Try.f59) Try.func59 rfl mixed (by kernel_rfl) (Eq.mp (by kernel_rfl) h)
/-! the same, the local variables taken out -/
def view_Col.s (A0_0p : Option Addr) (A0_0n A0_0c : Nat) (A0_1 : Int) (A0_2 : Int) (A0_3 : Int) (A0_4 : Int) (A1 : Int) (w : World) (K : Value → World → Prop) : Prop := ∀ (k3 : Nat) (w2 : World), k3 = w.heap.size → k3 < w2.heap.size → Ext w w2 → ∀ (k7 : Nat) (w6 : World), k7 = w2.heap.size → k7 < w6.heap.size → Ext w2 w6 → view_Good.call [(.agg ⟨[(.slice A0_0p A0_0n A0_0c), (.int .i64 A0_1), (.int .i64 A0_2), (.int .i64 A0_3), (.int .i64 A0_4)]⟩)] w6 fun v16 w17 => Stay [k7, k3] w6 w17 ∧ ∃ b18 : Bool, v16 = (.bool b18) ∧ br (!b18) (∀ w19 : World, Exc k7 w17 w19 → K (.agg ⟨[(.slice (none : Option Addr) (0 : Nat) (0 : Nat)), (.int .i64 (0 : Int)), (.int .i64 (0 : Int)), (.int .i64 (0 : Int))]⟩) w19) (br (decide (A1 < 0)) (∀ w26 : World, Exc k7 w17 w26 → K (.agg ⟨[(.slice (none : Option Addr) (0 : Nat) (0 : Nat)), (.int .i64 (0 : Int)), (.int .i64 (0 : Int)), (.int .i64 (0 : Int))]⟩) w26) (br (decide (A1 ≥ A0_3)) (∀ w34 : World, Exc k7 w17 w34 → K (.agg ⟨[(.slice (none : Option Addr) (0 : Nat) (0 : Nat)), (.int .i64 (0 : Int)), (.int .i64 (0 : Int)), (.int .i64 (0 : Int))]⟩) w34) (∀ (k48 : Nat) (w47 : World), k48 = w17.heap.size → k48 < w47.heap.size → Ext w17 w47 → ∀ w50 : World, Exc k48 w47 w50 → br (decide (A0_2 > 0)) (∀ w54 : World, Exc k48 w50 w54 → ∀ w61 : World, Exc k7 w54 w61 → K (.agg ⟨[(.slice A0_0p A0_0n A0_0c), (.int .i64 (IntKind.i64.wrap (A0_1 + (IntKind.i64.wrap (A1 * A0_4))))), (.int .i64 A0_2), (.int .i64 (1 : Int))]⟩) w61) (∀ w74 : World, Exc k7 w50 w74 → K (.agg ⟨[(.slice A0_0p A0_0n A0_0c), (.int .i64 A0_1), (.int .i64 A0_2), (.int .i64 (1 : Int))]⟩) w74))))
theorem view_Col.os {A0_0p : Option Addr} {A0_0n A0_0c : Nat} {A0_1 : Int} {A0_2 : Int} {A0_3 : Int} {A0_4 : Int} {A1 : Int} {w : World} {K : Value → World → Prop} (h : view_Col.s A0_0p A0_0n A0_0c A0_1 A0_2 A0_3 A0_4 A1 w K) : view_Col.call [(.agg ⟨[(.slice A0_0p A0_0n A0_0c), (.int .i64 A0_1), (.int .i64 A0_2), (.int .i64 A0_3), (.int .i64 A0_4)]⟩), (.int .i64 A1)] w K := by
  refine view_Col.ok ?_
  have st := St.nil w
  unfold view_Col.x
  unfold view_Col.s at h
  refine St.new (St.nil _) (fun q1 w2 hk hlt he st => ?_)
  replace h := h q1.block w2 hk hlt he
  refine St.new st (fun q5 w6 hk hlt he st => ?_)
  replace h := h q5.block w6 hk hlt he
  refine rd_l_i64_i64_i64_i64.bx 1 0 st rfl rfl rfl rfl rfl rfl rfl ?_
  refine CallF.mono h (fun v16 w17 h => ?_)
  obtain ⟨hK, h⟩ := h
  replace st := st.stay hK
  obtain ⟨b18, h⟩ := h
  refine ⟨b18, ?_⟩
  refine And.imp_right (fun h => ?_) h
  refine br_mono (fun h => ?_) (fun h => ?_) h
  · refine St.put 0 0 st rfl rfl rfl rfl (fun w19 he st => ?_)
    replace h := h w19 he
    refine rd_l_i64_i64_i64.bx 0 0 st rfl rfl rfl rfl rfl rfl ?_
    exact h
  · refine br_mono (fun h => ?_) (fun h => ?_) h
    · refine St.put 0 0 st rfl rfl rfl rfl (fun w26 he st => ?_)
      replace h := h w26 he
      refine rd_l_i64_i64_i64.bx 0 0 st rfl rfl rfl rfl rfl rfl ?_
      exact h
    · refine rd_i64.bx 1 3 st rfl rfl rfl ?_
      refine br_mono (fun h => ?_) (fun h => ?_) h
      · refine St.put 0 0 st rfl rfl rfl rfl (fun w34 he st => ?_)
        replace h := h w34 he
        refine rd_l_i64_i64_i64.bx 0 0 st rfl rfl rfl rfl rfl rfl ?_
        exact h
      · refine rd_l.bx 1 0 st rfl rfl rfl ?_
        refine rd_i64.bx 1 1 st rfl rfl rfl ?_
        refine rd_i64.bx 1 2 st rfl rfl rfl ?_
        refine St.new st (fun q46 w47 hk hlt he st => ?_)
        replace h := h q46.block w47 hk hlt he
        refine St.put 0 0 st rfl rfl rfl rfl (fun w50 he st => ?_)
        replace h := h w50 he
        refine rd_i64.bx 2 2 st rfl rfl rfl ?_
        refine br_mono (fun h => ?_) (fun h => ?_) h
        · refine rd_i64.bx 0 1 st rfl rfl rfl ?_
          refine rd_i64.bx 2 4 st rfl rfl rfl ?_
          refine St.put 0 1 st rfl rfl rfl rfl (fun w54 he st => ?_)
          replace h := h w54 he
          refine rd_l_i64_i64_i64.bx 0 0 st rfl rfl rfl rfl rfl rfl ?_
          refine St.put 1 0 st rfl rfl rfl rfl (fun w61 he st => ?_)
          replace h := h w61 he
          refine rd_l_i64_i64_i64.bx 1 0 st rfl rfl rfl rfl rfl rfl ?_
          exact h
        · refine rd_l_i64_i64_i64.bx 0 0 st rfl rfl rfl rfl rfl rfl ?_
          refine St.put 1 0 st rfl rfl rfl rfl (fun w74 he st => ?_)
          replace h := h w74 he
          refine rd_l_i64_i64_i64.bx 1 0 st rfl rfl rfl rfl rfl rfl ?_
          exact h

/-! ### straightedge/view.place: function 62 -/
def view_place.x (A0_0p : Option Addr) (A0_0n A0_0c : Nat) (A0_1 : Int) (A0_2 : Int) (A0_3 : Int) (A0_4 : Int) (A1 : Int) (A2 : Int) (w : World) (K : Value → World → Prop) : Prop := newB [(.slice A0_0p A0_0n A0_0c), (.int .i64 A0_1), (.int .i64 A0_2), (.int .i64 A0_3), (.int .i64 A0_4)] 24 w fun q1 w2 => rd_l_i64_i64_i64_i64 w2 q1 fun a3 n4 c5 i6 i7 i8 i9 => view_Good.call [(.agg ⟨[(.slice a3 n4 c5), (.int .i64 i6), (.int .i64 i7), (.int .i64 i8), (.int .i64 i9)]⟩)] w2 fun v10 w11 => ∃ b12 : Bool, v10 = (.bool b12) ∧ br (!b12) (K (.int .i64 (-1)) w11) (br (decide (A1 < 0)) (K (.int .i64 (-1)) w11) (br (decide (A2 < 0)) (K (.int .i64 (-1)) w11) (rd_i64 w11 (q1.add 2) fun i13 => br (decide (A1 ≥ i13)) (K (.int .i64 (-1)) w11) (rd_i64 w11 (q1.add 3) fun i14 => br (decide (A2 ≥ i14)) (K (.int .i64 (-1)) w11) (rd_i64 w11 (q1.add 1) fun i15 => rd_i64 w11 (q1.add 4) fun i16 => K (.int .i64 (IntKind.i64.wrap ((IntKind.i64.wrap (i15 + A1)) + (IntKind.i64.wrap (A2 * i16))))) w11)))))
theorem view_place.ok {A0_0p : Option Addr} {A0_0n A0_0c : Nat} {A0_1 : Int} {A0_2 : Int} {A0_3 : Int} {A0_4 : Int} {A1 : Int} {A2 : Int} {w : World} {K : Value → World → Prop} (h : view_place.x A0_0p A0_0n A0_0c A0_1 A0_2 A0_3 A0_4 A1 A2 w K) : view_place.call [(.agg ⟨[(.slice A0_0p A0_0n A0_0c), (.int .i64 A0_1), (.int .i64 A0_2), (.int .i64 A0_3), (.int .i64 A0_4)]⟩), (.int .i64 A1), (.int .i64 A2)] w K :=
  callF_of_ex0 (f := Try.f62) Try.func62 rfl mixed (by kernel_rfl) (Eq.mp (by kernel_rfl) h)
/-! the same, the local variables taken out -/
def view_place.s (A0_0p : Option Addr) (A0_0n A0_0c : Nat) (A0_1 : Int) (A0_2 : Int) (A0_3 : Int) (A0_4 : Int) (A1 : Int) (A2 : Int) (w : World) (K : Value → World → Prop) : Prop := ∀ (k3 : Nat) (w2 : World), k3 = w.heap.size → k3 < w2.heap.size → Ext w w2 → view_Good.call [(.agg ⟨[(.slice A0_0p A0_0n A0_0c), (.int .i64 A0_1), (.int .i64 A0_2), (.int .i64 A0_3), (.int .i64 A0_4)]⟩)] w2 fun v12 w13 => Stay [k3] w2 w13 ∧ ∃ b14 : Bool, v12 = (.bool b14) ∧ br (!b14) (K (.int .i64 (-1)) w13) (br (decide (A1 < 0)) (K (.int .i64 (-1)) w13) (br (decide (A2 < 0)) (K (.int .i64 (-1)) w13) (br (decide (A1 ≥ A0_2)) (K (.int .i64 (-1)) w13) (br (decide (A2 ≥ A0_3)) (K (.int .i64 (-1)) w13) (K (.int .i64 (IntKind.i64.wrap ((IntKind.i64.wrap (A0_1 + A1)) + (IntKind.i64.wrap (A2 * A0_4))))) w13)))))
theorem view_place.os {A0_0p : Option Addr} {A0_0n A0_0c : Nat} {A0_1 : Int} {A0_2 : Int} {A0_3 : Int} {A0_4 : Int} {A1 : Int} {A2 : Int} {w : World} {K : Value → World → Prop} (h : view_place.s A0_0p A0_0n A0_0c A0_1 A0_2 A0_3 A0_4 A1 A2 w K) : view_place.call [(.agg ⟨[(.slice A0_0p A0_0n A0_0c), (.int .i64 A0_1), (.int .i64 A0_2), (.int .i64 A0_3), (.int .i64 A0_4)]⟩), (.int .i64 A1), (.int .i64 A2)] w K := by
  refine view_place.ok ?_
  have st := St.nil w
  unfold view_place.x
  unfold view_place.s at h
  refine St.new (St.nil _) (fun q1 w2 hk hlt he st => ?_)
  replace h := h q1.block w2 hk hlt he
  refine rd_l_i64_i64_i64_i64.bx 0 0 st rfl rfl rfl rfl rfl rfl rfl ?_
  refine CallF.mono h (fun v12 w13 h => ?_)
  obtain ⟨hK, h⟩ := h
  replace st := st.stay hK
  obtain ⟨b14, h⟩ := h
  refine ⟨b14, ?_⟩
  refine And.imp_right (fun h => ?_) h
  refine br_mono (fun h => ?_) (fun h => ?_) h
  · exact h
  · refine br_mono (fun h => ?_) (fun h => ?_) h
    · exact h
    · refine br_mono (fun h => ?_) (fun h => ?_) h
      · exact h
      · refine rd_i64.bx 0 2 st rfl rfl rfl ?_
        refine br_mono (fun h => ?_) (fun h => ?_) h
        · exact h
        · refine rd_i64.bx 0 3 st rfl rfl rfl ?_
          refine br_mono (fun h => ?_) (fun h => ?_) h
          · exact h
          · refine rd_i64.bx 0 1 st rfl rfl rfl ?_
            refine rd_i64.bx 0 4 st rfl rfl rfl ?_
            exact h

/-! ### straightedge/view.Right: function 63 -/
def view_Right.x (A0_0p : Option Addr) (A0_0n A0_0c : Nat) (A0_1 : Int) (A0_2 : Int) (A0_3 : Int) (w : World) (K : Value → World → Prop) : Prop := newB [(.slice A0_0p A0_0n A0_0c), (.int .i64 A0_1), (.int .i64 A0_2), (.int .i64 A0_3)] 66 w fun q1 w2 => rd_i64 w2 (q1.add 2) fun i3 => br (decide (i3 < 0)) (K (.bool false) w2) (rd_i64 w2 (q1.add 3) fun i4 => br (decide (i4 < 1)) (K (.bool false) w2) (rd_i64 w2 (q1.add 1) fun i5 => br (decide (i5 < 0)) (K (.bool false) w2) (rd_i64 w2 (q1.add 2) fun i6 => br (i6 == 0) (K (.bool true) w2) (rd_l w2 q1 fun a7 n8 c9 => rd_i64 w2 (q1.add 1) fun i10 => rd_i64 w2 (q1.add 2) fun i11 => rd_i64 w2 (q1.add 3) fun i12 => view_fits.call [(.int .i64 ((n8 : Nat) : Int)), (.int .i64 i10), (.int .i64 (IntKind.i64.wrap (i11 - 1))), (.int .i64 i12), (.int .i64 0)] w2 fun v13 w14 => ∃ b15 : Bool, v13 = (.bool b15) ∧ K (.bool b15) w14))))
theorem view_Right.ok {A0_0p : Option Addr} {A0_0n A0_0c : Nat} {A0_1 : Int} {A0_2 : Int} {A0_3 : Int} {w : World} {K : Value → World → Prop} (h : view_Right.x A0_0p A0_0n A0_0c A0_1 A0_2 A0_3 w K) : view_Right.call [(.agg ⟨[(.slice A0_0p A0_0n A0_0c), (.int .i64 A0_1), (.int .i64 A0_2), (.int .i64 A0_3)]⟩)] w K :=
  callF_of_ex0 (f := Try.f63) Try.func63 rfl mixed (by kernel_rfl) (Eq.mp (by kernel_rfl) h)
/-! the same, the local variables taken out -/
def view_Right.s (A0_0p : Option Addr) (A0_0n A0_0c : Nat) (A0_1 : Int) (A0_2 : Int) (A0_3 : Int) (w : World) (K : Value → World → Prop) : Prop := ∀ (k3 : Nat) (w2 : World), k3 = w.heap.size → k3 < w2.heap.size → Ext w w2 → br (decide (A0_2 < 0)) (K (.bool false) w2) (br (decide (A0_3 < 1)) (K (.bool false) w2) (br (decide (A0_1 < 0)) (K (.bool false) w2) (br (A0_2 == 0) (K (.bool true) w2) (view_fits.call [(.int .i64 ((A0_0n : Nat) : Int)), (.int .i64 A0_1), (.int .i64 (IntKind.i64.wrap (A0_2 - 1))), (.int .i64 A0_3), (.int .i64 0)] w2 fun v15 w16 => Stay [k3] w2 w16 ∧ ∃ b17 : Bool, v15 = (.bool b17) ∧ K (.bool b17) w16))))
theorem view_Right.os {A0_0p : Option Addr} {A0_0n A0_0c : Nat} {A0_1 : Int} {A0_2 : Int} {A0_3 : Int} {w : World} {K : Value → World → Prop} (h : view_Right.s A0_0p A0_0n A0_0c A0_1 A0_2 A0_3 w K) : view_Right.call [(.agg ⟨[(.slice A0_0p A0_0n A0_0c), (.int .i64 A0_1), (.int .i64 A0_2), (.int .i64 A0_3)]⟩)] w K := by
  refine view_Right.ok ?_
  have st := St.nil w
  unfold view_Right.x
  unfold view_Right.s at h
  refine St.new (St.nil _) (fun q1 w2 hk hlt he st => ?_)
  replace h := h q1.block w2 hk hlt he
  refine rd_i64.bx 0 2 st rfl rfl rfl ?_
  refine br_mono (fun h => ?_) (fun h => ?_) h
  · exact h
  · refine rd_i64.bx 0 3 st rfl rfl rfl ?_
    refine br_mono (fun h => ?_) (fun h => ?_) h
    · exact h
    · refine rd_i64.bx 0 1 st rfl rfl rfl ?_
      refine br_mono (fun h => ?_) (fun h => ?_) h
      · exact h
      · refine rd_i64.bx 0 2 st rfl rfl rfl ?_
        refine br_mono (fun h => ?_) (fun h => ?_) h
        · exact h
        · refine rd_l.bx 0 0 st rfl rfl rfl ?_
          refine rd_i64.bx 0 1 st rfl rfl rfl ?_
          refine rd_i64.bx 0 2 st rfl rfl rfl ?_
          refine rd_i64.bx 0 3 st rfl rfl rfl ?_
          refine CallF.mono h (fun v15 w16 h => ?_)
          obtain ⟨hK, h⟩ := h
          replace st := st.stay hK
          exact h

/-! ### straightedge/view.Meet: function 64 -/
def view_Meet.x (A0_0p : Option Addr) (A0_0n A0_0c : Nat) (A0_1 : Int) (A0_2 : Int) (A0_3 : Int) (A0_4 : Int) (A1_0p : Option Addr) (A1_0n A1_0c : Nat) (A1_1 : Int) (A1_2 : Int) (A1_3 : Int) (A1_4 : Int) (w : World) (K : Value → World → Prop) : Prop := newB [(.slice A0_0p A0_0n A0_0c), (.int .i64 A0_1), (.int .i64 A0_2), (.int .i64 A0_3), (.int .i64 A0_4)] 24 w fun q1 w2 => newB [(.slice A1_0p A1_0n A1_0c), (.int .i64 A1_1), (.int .i64 A1_2), (.int .i64 A1_3), (.int .i64 A1_4)] 24 w2 fun q3 w4 => rd_l_i64_i64_i64_i64 w4 q1 fun a5 n6 c7 i8 i9 i10 i11 => view_span.call [(.agg ⟨[(.slice a5 n6 c7), (.int .i64 i8), (.int .i64 i9), (.int .i64 i10), (.int .i64 i11)]⟩)] w4 fun v12 w13 => ∃ i14 : Int, ∃ i15 : Int, ∃ b16 : Bool, v12 = (.tuple ⟨[(.int .i64 i14), (.int .i64 i15), (.bool b16)]⟩) ∧ rd_l_i64_i64_i64_i64 w13 q3 fun a17 n18 c19 i20 i21 i22 i23 => view_span.call [(.agg ⟨[(.slice a17 n18 c19), (.int .i64 i20), (.int .i64 i21), (.int .i64 i22), (.int .i64 i23)]⟩)] w13 fun v24 w25 => ∃ i26 : Int, ∃ i27 : Int, ∃ b28 : Bool, v24 = (.tuple ⟨[(.int .i64 i26), (.int .i64 i27), (.bool b28)]⟩) ∧ br b16 (br b28 (rd_l w25.drew q1 fun a30 n31 c32 => ptrSome a30 fun q33 => (0 : Int) ≤ 0 ∧ 0 < ((n31 : Nat) : Int) ∧ rd_l w25.drew q3 fun a34 n35 c36 => ptrSome a34 fun q37 => (0 : Int) ≤ 0 ∧ 0 < ((n35 : Nat) : Int) ∧ Raw prog (do eqGuard .eql 101 (.tmp 30) (.tmp 33) (.pointer (some (q33.add (Int.toNat 0)))) (.pointer (some (q37.add (Int.toNat 0)))); binOp .eql 101 (.pointer (some (q33.add (Int.toNat 0)))) (.pointer (some (q37.add (Int.toNat 0))))) w25.drew fun v38 w39 => ∃ b40, v38 = .bool b40 ∧ br b40 (br (decide (i14 ≤ i27)) (K (.bool (decide (i26 ≤ i15))) w39) (K (.bool false) w39)) (K (.bool false) w39)) (K (.bool false) w25.drew)) (K (.bool false) w25.drew)
theorem view_Meet.ok {A0_0p : Option Addr} {A0_0n A0_0c : Nat} {A0_1 : Int} {A0_2 : Int} {A0_3 : Int} {A0_4 : Int} {A1_0p : Option Addr} {A1_0n A1_0c : Nat} {A1_1 : Int} {A1_2 : Int} {A1_3 : Int} {A1_4 : Int} {w : World} {K : Value → World → Prop} (h : view_Meet.x A0_0p A0_0n A0_0c A0_1 A0_2 A0_3 A0_4 A1_0p A1_0n A1_0c A1_1 A1_2 A1_3 A1_4 w K) : view_Meet.call [(.agg ⟨[(.slice A0_0p A0_0n A0_0c), (.int .i64 A0_1), (.int .i64 A0_2), (.int .i64 A0_3), (.int .i64 A0_4)]⟩), (.agg ⟨[(.slice A1_0p A1_0n A1_0c), (.int .i64 A1_1), (.int .i64 A1_2), (.int .i64 A1_3), (.int .i64 A1_4)]⟩)] w K :=
  callF_of_ex0 (f := Try.f64) Try.func64 rfl mixed (by kernel_rfl) (Eq.mp (by kernel_rfl) h)
/-! the same, the local variables taken out -/
def view_Meet.s (A0_0p : Option Addr) (A0_0n A0_0c : Nat) (A0_1 : Int) (A0_2 : Int) (A0_3 : Int) (A0_4 : Int) (A1_0p : Option Addr) (A1_0n A1_0c : Nat) (A1_1 : Int) (A1_2 : Int) (A1_3 : Int) (A1_4 : Int) (w : World) (K : Value → World → Prop) : Prop := ∀ (k3 : Nat) (w2 : World), k3 = w.heap.size → k3 < w2.heap.size → Ext w w2 → ∀ (k7 : Nat) (w6 : World), k7 = w2.heap.size → k7 < w6.heap.size → Ext w2 w6 → view_span.call [(.agg ⟨[(.slice A0_0p A0_0n A0_0c), (.int .i64 A0_1), (.int .i64 A0_2), (.int .i64 A0_3), (.int .i64 A0_4)]⟩)] w6 fun v16 w17 => Stay [k7, k3] w6 w17 ∧ ∃ i18 : Int, ∃ i19 : Int, ∃ b20 : Bool, v16 = (.tuple ⟨[(.int .i64 i18), (.int .i64 i19), (.bool b20)]⟩) ∧ view_span.call [(.agg ⟨[(.slice A1_0p A1_0n A1_0c), (.int .i64 A1_1), (.int .i64 A1_2), (.int .i64 A1_3), (.int .i64 A1_4)]⟩)] w17 fun v28 w29 => Stay [k7, k3] w17 w29 ∧ ∃ i30 : Int, ∃ i31 : Int, ∃ b32 : Bool, v28 = (.tuple ⟨[(.int .i64 i30), (.int .i64 i31), (.bool b32)]⟩) ∧ br b20 (br b32 (ptrSome A0_0p fun q37 => (0 : Int) ≤ 0 ∧ 0 < ((A0_0n : Nat) : Int) ∧ ptrSome A1_0p fun q41 => (0 : Int) ≤ 0 ∧ 0 < ((A1_0n : Nat) : Int) ∧ Raw prog (do eqGuard .eql 101 (.tmp 30) (.tmp 33) (.pointer (some (q37.add (Int.toNat 0)))) (.pointer (some (q41.add (Int.toNat 0)))); binOp .eql 101 (.pointer (some (q37.add (Int.toNat 0)))) (.pointer (some (q41.add (Int.toNat 0))))) w29.drew fun v42 w43 => Stay [k7, k3] w29.drew w43 ∧ ∃ b44, v42 = .bool b44 ∧ br b44 (br (decide (i18 ≤ i31)) (K (.bool (decide (i30 ≤ i19))) w43) (K (.bool false) w43)) (K (.bool false) w43)) (K (.bool false) w29.drew)) (K (.bool false) w29.drew)
theorem view_Meet.os {A0_0p : Option Addr} {A0_0n A0_0c : Nat} {A0_1 : Int} {A0_2 : Int} {A0_3 : Int} {A0_4 : Int} {A1_0p : Option Addr} {A1_0n A1_0c : Nat} {A1_1 : Int} {A1_2 : Int} {A1_3 : Int} {A1_4 : Int} {w : World} {K : Value → World → Prop} (h : view_Meet.s A0_0p A0_0n A0_0c A0_1 A0_2 A0_3 A0_4 A1_0p A1_0n A1_0c A1_1 A1_2 A1_3 A1_4 w K) : view_Meet.call [(.agg ⟨[(.slice A0_0p A0_0n A0_0c), (.int .i64 A0_1), (.int .i64 A0_2), (.int .i64 A0_3), (.int .i64 A0_4)]⟩), (.agg ⟨[(.slice A1_0p A1_0n A1_0c), (.int .i64 A1_1), (.int .i64 A1_2), (.int .i64 A1_3), (.int .i64 A1_4)]⟩)] w K := by
  refine view_Meet.ok ?_
  have st := St.nil w
  unfold view_Meet.x
  unfold view_Meet.s at h
  refine St.new (St.nil _) (fun q1 w2 hk hlt he st => ?_)
  replace h := h q1.block w2 hk hlt he
  refine St.new st (fun q5 w6 hk hlt he st => ?_)
  replace h := h q5.block w6 hk hlt he
  refine rd_l_i64_i64_i64_i64.bx 1 0 st rfl rfl rfl rfl rfl rfl rfl ?_
  refine CallF.mono h (fun v16 w17 h => ?_)
  obtain ⟨hK, h⟩ := h
  replace st := st.stay hK
  obtain ⟨i18, i19, b20, h⟩ := h
  refine ⟨i18, i19, b20, ?_⟩
  refine And.imp_right (fun h => ?_) h
  refine rd_l_i64_i64_i64_i64.bx 0 0 st rfl rfl rfl rfl rfl rfl rfl ?_
  refine CallF.mono h (fun v28 w29 h => ?_)
  obtain ⟨hK, h⟩ := h
  replace st := st.stay hK
  obtain ⟨i30, i31, b32, h⟩ := h
  refine ⟨i30, i31, b32, ?_⟩
  refine And.imp_right (fun h => ?_) h
  replace st := st.drew
  have st33 := st
  refine br_mono (fun h => ?_) (fun h => ?_) h
  · refine br_mono (fun h => ?_) (fun h => ?_) h
    · refine rd_l.bx 1 0 st33 rfl rfl rfl ?_
      refine ptrSome_mono (fun q37 h => ?_) h
      refine And.imp_right (fun h => ?_) h
      refine And.imp_right (fun h => ?_) h
      refine rd_l.bx 0 0 st33 rfl rfl rfl ?_
      refine ptrSome_mono (fun q41 h => ?_) h
      refine And.imp_right (fun h => ?_) h
      refine And.imp_right (fun h => ?_) h
      refine Raw.mono h (fun v42 w43 h => ?_)
      obtain ⟨hK, h⟩ := h
      replace st := st.stay hK
      exact h
    · exact h
  · exact h

/-! ### straightedge/view.fits: function 73 -/
def view_fits.x (A0 : Int) (A1 : Int) (A2 : Int) (A3 : Int) (A4 : Int) (w : World) (K : Value → World → Prop) : Prop := br (decide (A1 < 0)) (K (.bool false) w) (br (decide (A1 ≥ A0)) (K (.bool false) w) (br (decide (A4 ≥ (IntKind.i64.wrap (A0 - A1)))) (K (.bool false) w) (br (A3 == 0) (False) (K (.bool (decide (A2 ≤ (IntKind.i64.wrap (Int.tdiv (IntKind.i64.wrap ((IntKind.i64.wrap ((IntKind.i64.wrap (A0 - 1)) - A1)) - A4)) A3))))) w))))
theorem view_fits.ok {A0 : Int} {A1 : Int} {A2 : Int} {A3 : Int} {A4 : Int} {w : World} {K : Value → World → Prop} (h : view_fits.x A0 A1 A2 A3 A4 w K) : view_fits.call [(.int .i64 A0), (.int .i64 A1), (.int .i64 A2), (.int .i64 A3), (.int .i64 A4)] w K :=
  callF_of_ex0 (f := Try.f73) Try.func73 rfl mixed (by kernel_rfl) (Eq.mp (by kernel_rfl) h)

/-! ### straightedge/view.Numbers: function 74 -/
def view_Numbers.b6 (K : Value → World → Prop) (h6 : Option Addr → Option Addr → Nat → Nat → Int → Int → World → Prop) (h10 : Option Addr → Option Addr → Nat → Nat → Option Addr → Int → Int → Int → Int → World → Prop) (z1 : Option Addr) (z6p : Option Addr) (z6n z6c : Nat) (z19 : Int) (z20 : Int) (w : World) : Prop := br (decide (z20 < z19)) (ptrSome z1 fun q1 => rd_l_i64_i64_i64_i64 w q1 fun a2 n3 c4 i5 i6 i7 i8 => view_Col.call [(.agg ⟨[(.slice a2 n3 c4), (.int .i64 i5), (.int .i64 i6), (.int .i64 i7), (.int .i64 i8)]⟩), (.int .i64 z20)] w fun v9 w10 => ∃ (a11 : Option Addr) (n12 c13 : Nat), ∃ i14 : Int, ∃ i15 : Int, ∃ i16 : Int, v9 = (.agg ⟨[(.slice a11 n12 c13), (.int .i64 i14), (.int .i64 i15), (.int .i64 i16)]⟩) ∧ newB [(.slice none 0 0), (.int .i64 0), (.int .i64 0), (.int .i64 0)] 66 w10 fun q17 w18 => stPT q17 0 [(.slice a11 n12 c13), (.int .i64 i14), (.int .i64 i15), (.int .i64 i16)] w18 fun w19 => rd_i64 w19 (q17.add 2) fun i20 => h10 z1 z6p z6n z6c (some q17) z19 z20 i20 0 w19) (K (.slice z6p z6n z6c) w)
def view_Numbers.b10 (K : Value → World → Prop) (h6 : Option Addr → Option Addr → Nat → Nat → Int → Int → World → Prop) (h10 : Option Addr → Option Addr → Nat → Nat → Option Addr → Int → Int → Int → Int → World → Prop) (z1 : Option Addr) (z6p : Option Addr) (z6n z6c : Nat) (z8 : Option Addr) (z19 : Int) (z20 : Int) (z27 : Int) (z28 : Int) (w : World) : Prop := br (decide (z28 < z27)) (ptrSome z8 fun q1 => rd_l w q1 fun a2 n3 c4 => ptrSome z8 fun q5 => rd_i64 w (q5.add 1) fun i6 => ptrSome a2 fun q7 => (0 : Int) ≤ (IntKind.i64.wrap (i6 + z28)) ∧ (IntKind.i64.wrap (i6 + z28)) < ((n3 : Nat) : Int) ∧ rd_f64 w (q7.add (Int.toNat (IntKind.i64.wrap (i6 + z28)))) fun x8 => newB [(.float .f64 x8)] 38 w fun q9 w10 => Raw prog (Builtin.append_ #[22, 22] 22 ⟨[(.slice z6p z6n z6c), (.slice (some q9) 1 1)]⟩) w10 fun v11 w12 => ∃ (a13 : Option Addr) (n14 c15 : Nat), v11 = .slice a13 n14 c15 ∧ h10 z1 a13 n14 c15 z8 z19 z20 z27 (IntKind.i64.wrap (z28 + 1)) w12) (h6 z1 z6p z6n z6c z19 (IntKind.i64.wrap (z20 + 1)) w)
def view_Numbers.H (K : Value → World → Prop) : Nat → (Option Addr → Option Addr → Nat → Nat → Int → Int → World → Prop) × (Option Addr → Option Addr → Nat → Nat → Option Addr → Int → Int → Int → Int → World → Prop)
  | 0 => (fun _ _ _ _ _ _ _ => False, fun _ _ _ _ _ _ _ _ _ _ => False)
  | fu + 1 => (view_Numbers.b6 K (view_Numbers.H K fu).1 (view_Numbers.H K fu).2, view_Numbers.b10 K (view_Numbers.H K fu).1 (view_Numbers.H K fu).2)
def view_Numbers.x (fu : Nat) (A0_0p : Option Addr) (A0_0n A0_0c : Nat) (A0_1 : Int) (A0_2 : Int) (A0_3 : Int) (A0_4 : Int) (w : World) (K : Value → World → Prop) : Prop := newB [(.slice A0_0p A0_0n A0_0c), (.int .i64 A0_1), (.int .i64 A0_2), (.int .i64 A0_3), (.int .i64 A0_4)] 24 w fun q1 w2 => rd_l_i64_i64_i64_i64 w2 q1 fun a3 n4 c5 i6 i7 i8 i9 => view_span.call [(.agg ⟨[(.slice a3 n4 c5), (.int .i64 i6), (.int .i64 i7), (.int .i64 i8), (.int .i64 i9)]⟩)] w2 fun v10 w11 => ∃ i12 : Int, ∃ i13 : Int, ∃ b14 : Bool, v10 = (.tuple ⟨[(.int .i64 i12), (.int .i64 i13), (.bool b14)]⟩) ∧ br (!b14) (K (.slice none 0 0) w11) (rd_i64 w11 (q1.add 3) fun i15 => (view_Numbers.H K fu).1 (some q1) none 0 0 i15 0 w11)
def view_Numbers.hd (K : Value → World → Prop) (n id : Nat) (t : List Value) (w : World) : Prop :=
  match id with
  | 6 => asP (t.getD 1 undef) fun z1 => asL (t.getD 6 undef) fun z6p z6n z6c => asI .i64 (t.getD 19 undef) fun z19 => asI .i64 (t.getD 20 undef) fun z20 => (view_Numbers.H K n).1 z1 z6p z6n z6c z19 z20 w
  | 10 => asP (t.getD 1 undef) fun z1 => asL (t.getD 6 undef) fun z6p z6n z6c => asP (t.getD 8 undef) fun z8 => asI .i64 (t.getD 19 undef) fun z19 => asI .i64 (t.getD 20 undef) fun z20 => asI .i64 (t.getD 27 undef) fun z27 => asI .i64 (t.getD 28 undef) fun z28 => (view_Numbers.H K n).2 z1 z6p z6n z6c z8 z19 z20 z27 z28 w
  | _ => False
theorem view_Numbers.t6 (K : Value → World → Prop) (n : Nat) (z1 : Option Addr) (z6p : Option Addr) (z6n z6c : Nat) (z19 : Int) (z20 : Int) (u : Nat → Value) (w : World) (h : (view_Numbers.H K (n + 1)).1 z1 z6p z6n z6c z19 z20 w) :
    exT prog [6, 10] (view_Numbers.hd K n) Try.f74 6 45 [(1, (.pointer z1)), (6, (.slice z6p z6n z6c)), (19, (.int .i64 z19)), (20, (.int .i64 z20))] u w K := Eq.mp (by kernel_rfl) h
theorem view_Numbers.t10 (K : Value → World → Prop) (n : Nat) (z1 : Option Addr) (z6p : Option Addr) (z6n z6c : Nat) (z8 : Option Addr) (z19 : Int) (z20 : Int) (z27 : Int) (z28 : Int) (u : Nat → Value) (w : World) (h : (view_Numbers.H K (n + 1)).2 z1 z6p z6n z6c z8 z19 z20 z27 z28 w) :
    exT prog [6, 10] (view_Numbers.hd K n) Try.f74 10 45 [(1, (.pointer z1)), (6, (.slice z6p z6n z6c)), (8, (.pointer z8)), (19, (.int .i64 z19)), (20, (.int .i64 z20)), (27, (.int .i64 z27)), (28, (.int .i64 z28))] u w K := Eq.mp (by kernel_rfl) h
theorem view_Numbers.ok (fu : Nat) {A0_0p : Option Addr} {A0_0n A0_0c : Nat} {A0_1 : Int} {A0_2 : Int} {A0_3 : Int} {A0_4 : Int} {w : World} {K : Value → World → Prop} (h : view_Numbers.x fu A0_0p A0_0n A0_0c A0_1 A0_2 A0_3 A0_4 w K) : view_Numbers.call [(.agg ⟨[(.slice A0_0p A0_0n A0_0c), (.int .i64 A0_1), (.int .i64 A0_2), (.int .i64 A0_3), (.int .i64 A0_4)]⟩)] w K := by
  refine callF_of_ex (cuts := [6, 10]) (H := view_Numbers.hd K) (N := 45) Try.func74 rfl mixed (by kernel_rfl) ?_ ?_ ?_ rfl (n := fu) (Eq.mp (by kernel_rfl) h)
  · intro id hid; simp only [List.mem_cons, List.not_mem_nil, or_false] at hid; rcases hid with rfl | rfl
    · exact (by kernel_rfl : (stacks (bodyOf Try.f74) []).filter (headIs 6) = [at_ (bodyOf Try.f74) 6])
    · exact (by kernel_rfl : (stacks (bodyOf Try.f74) []).filter (headIs 10) = [at_ (bodyOf Try.f74) 10])
  · intro id t w h
    unfold view_Numbers.hd at h
    split at h
    · obtain ⟨z1, _, h⟩ := asP_elim h
      obtain ⟨z6p, z6n, z6c, _, h⟩ := asL_elim h
      obtain ⟨z19, _, h⟩ := asI_elim h
      obtain ⟨z20, _, h⟩ := asI_elim h
      exact h
    · obtain ⟨z1, _, h⟩ := asP_elim h
      obtain ⟨z6p, z6n, z6c, _, h⟩ := asL_elim h
      obtain ⟨z8, _, h⟩ := asP_elim h
      obtain ⟨z19, _, h⟩ := asI_elim h
      obtain ⟨z20, _, h⟩ := asI_elim h
      obtain ⟨z27, _, h⟩ := asI_elim h
      obtain ⟨z28, _, h⟩ := asI_elim h
      exact h
    · exact h
  · intro n id hid t w hl h; simp only [List.mem_cons, List.not_mem_nil, or_false] at hid; rcases hid with rfl | rfl
    · replace h : asP (t.getD 1 undef) fun z1 => asL (t.getD 6 undef) fun z6p z6n z6c => asI .i64 (t.getD 19 undef) fun z19 => asI .i64 (t.getD 20 undef) fun z20 => (view_Numbers.H K (n + 1)).1 z1 z6p z6n z6c z19 z20 w := h
      obtain ⟨z1, e1, h⟩ := asP_elim h
      obtain ⟨z6p, z6n, z6c, e6, h⟩ := asL_elim h
      obtain ⟨z19, e19, h⟩ := asI_elim h
      obtain ⟨z20, e20, h⟩ := asI_elim h
      rw [mk_of hl [(1, (.pointer z1)), (6, (.slice z6p z6n z6c)), (19, (.int .i64 z19)), (20, (.int .i64 z20))] (by simp only [List.forall_mem_cons, List.not_mem_nil, false_implies, implies_true, and_true]; exact ⟨e1, e6, e19, e20⟩)]
      exact view_Numbers.t6 K n z1 z6p z6n z6c z19 z20 _ w h
    · replace h : asP (t.getD 1 undef) fun z1 => asL (t.getD 6 undef) fun z6p z6n z6c => asP (t.getD 8 undef) fun z8 => asI .i64 (t.getD 19 undef) fun z19 => asI .i64 (t.getD 20 undef) fun z20 => asI .i64 (t.getD 27 undef) fun z27 => asI .i64 (t.getD 28 undef) fun z28 => (view_Numbers.H K (n + 1)).2 z1 z6p z6n z6c z8 z19 z20 z27 z28 w := h
      obtain ⟨z1, e1, h⟩ := asP_elim h
      obtain ⟨z6p, z6n, z6c, e6, h⟩ := asL_elim h
      obtain ⟨z8, e8, h⟩ := asP_elim h
      obtain ⟨z19, e19, h⟩ := asI_elim h
      obtain ⟨z20, e20, h⟩ := asI_elim h
      obtain ⟨z27, e27, h⟩ := asI_elim h
      obtain ⟨z28, e28, h⟩ := asI_elim h
      rw [mk_of hl [(1, (.pointer z1)), (6, (.slice z6p z6n z6c)), (8, (.pointer z8)), (19, (.int .i64 z19)), (20, (.int .i64 z20)), (27, (.int .i64 z27)), (28, (.int .i64 z28))] (by simp only [List.forall_mem_cons, List.not_mem_nil, false_implies, implies_true, and_true]; exact ⟨e1, e6, e8, e19, e20, e27, e28⟩)]
      exact view_Numbers.t10 K n z1 z6p z6n z6c z8 z19 z20 z27 z28 _ w h
/-! the same, the local variables taken out -/
def view_Numbers.e6 (K : Value → World → Prop) (h6 : Nat → Option Addr → Nat → Nat → Int → Int → Int → Int → Option Addr → Nat → Nat → Int → Int → World → Prop) (h10 : Nat → Option Addr → Nat → Nat → Int → Int → Int → Int → Option Addr → Nat → Nat → Nat → Option Addr → Nat → Nat → Int → Int → Int → Int → Int → Int → Int → World → Prop) (k1 : Nat) (y1_0p : Option Addr) (y1_0n y1_0c : Nat) (y1_1 : Int) (y1_2 : Int) (y1_3 : Int) (y1_4 : Int) (z6p : Option Addr) (z6n z6c : Nat) (z19 : Int) (z20 : Int) (w : World) : Prop := br (decide (z20 < z19)) (view_Col.call [(.agg ⟨[(.slice y1_0p y1_0n y1_0c), (.int .i64 y1_1), (.int .i64 y1_2), (.int .i64 y1_3), (.int .i64 y1_4)]⟩), (.int .i64 z20)] w fun v9 w10 => Stay [k1] w w10 ∧ ∃ (a11 : Option Addr) (n12 c13 : Nat), ∃ i14 : Int, ∃ i15 : Int, ∃ i16 : Int, v9 = (.agg ⟨[(.slice a11 n12 c13), (.int .i64 i14), (.int .i64 i15), (.int .i64 i16)]⟩) ∧ ∀ (k19 : Nat) (w18 : World), k19 = w10.heap.size → k19 < w18.heap.size → Ext w10 w18 → ∀ w21 : World, Exc k19 w18 w21 → h10 k1 y1_0p y1_0n y1_0c y1_1 y1_2 y1_3 y1_4 z6p z6n z6c k19 a11 n12 c13 i14 i15 i16 z19 z20 i15 0 w21) (K (.slice z6p z6n z6c) w)
def view_Numbers.e10 (K : Value → World → Prop) (h6 : Nat → Option Addr → Nat → Nat → Int → Int → Int → Int → Option Addr → Nat → Nat → Int → Int → World → Prop) (h10 : Nat → Option Addr → Nat → Nat → Int → Int → Int → Int → Option Addr → Nat → Nat → Nat → Option Addr → Nat → Nat → Int → Int → Int → Int → Int → Int → Int → World → Prop) (k1 : Nat) (y1_0p : Option Addr) (y1_0n y1_0c : Nat) (y1_1 : Int) (y1_2 : Int) (y1_3 : Int) (y1_4 : Int) (z6p : Option Addr) (z6n z6c : Nat) (k8 : Nat) (y8_0p : Option Addr) (y8_0n y8_0c : Nat) (y8_1 : Int) (y8_2 : Int) (y8_3 : Int) (z19 : Int) (z20 : Int) (z27 : Int) (z28 : Int) (w : World) : Prop := br (decide (z28 < z27)) (ptrSome y8_0p fun q7 => (0 : Int) ≤ (IntKind.i64.wrap (y8_1 + z28)) ∧ (IntKind.i64.wrap (y8_1 + z28)) < ((y8_0n : Nat) : Int) ∧ rd_f64 w (q7.add (Int.toNat (IntKind.i64.wrap (y8_1 + z28)))) fun x8 => newB [(.float .f64 x8)] 38 w fun q9 w10 => Raw prog (Builtin.append_ #[22, 22] 22 ⟨[(.slice z6p z6n z6c), (.slice (some q9) 1 1)]⟩) w10 fun v11 w12 => Stay [k1, k8] w10 w12 ∧ ∃ (a13 : Option Addr) (n14 c15 : Nat), v11 = .slice a13 n14 c15 ∧ h10 k1 y1_0p y1_0n y1_0c y1_1 y1_2 y1_3 y1_4 a13 n14 c15 k8 y8_0p y8_0n y8_0c y8_1 y8_2 y8_3 z19 z20 z27 (IntKind.i64.wrap (z28 + 1)) w12) (h6 k1 y1_0p y1_0n y1_0c y1_1 y1_2 y1_3 y1_4 z6p z6n z6c z19 (IntKind.i64.wrap (z20 + 1)) w)
def view_Numbers.I (K : Value → World → Prop) : Nat → (Nat → Option Addr → Nat → Nat → Int → Int → Int → Int → Option Addr → Nat → Nat → Int → Int → World → Prop) × (Nat → Option Addr → Nat → Nat → Int → Int → Int → Int → Option Addr → Nat → Nat → Nat → Option Addr → Nat → Nat → Int → Int → Int → Int → Int → Int → Int → World → Prop)
  | 0 => (fun _ _ _ _ _ _ _ _ _ _ _ _ _ _ => False, fun _ _ _ _ _ _ _ _ _ _ _ _ _ _ _ _ _ _ _ _ _ _ _ => False)
  | fu + 1 => (view_Numbers.e6 K (view_Numbers.I K fu).1 (view_Numbers.I K fu).2, view_Numbers.e10 K (view_Numbers.I K fu).1 (view_Numbers.I K fu).2)
def view_Numbers.s (fu : Nat) (A0_0p : Option Addr) (A0_0n A0_0c : Nat) (A0_1 : Int) (A0_2 : Int) (A0_3 : Int) (A0_4 : Int) (w : World) (K : Value → World → Prop) : Prop := ∀ (k3 : Nat) (w2 : World), k3 = w.heap.size → k3 < w2.heap.size → Ext w w2 → view_span.call [(.agg ⟨[(.slice A0_0p A0_0n A0_0c), (.int .i64 A0_1), (.int .i64 A0_2), (.int .i64 A0_3), (.int .i64 A0_4)]⟩)] w2 fun v12 w13 => Stay [k3] w2 w13 ∧ ∃ i14 : Int, ∃ i15 : Int, ∃ b16 : Bool, v12 = (.tuple ⟨[(.int .i64 i14), (.int .i64 i15), (.bool b16)]⟩) ∧ br (!b16) (K (.slice none 0 0) w13) ((view_Numbers.I K fu).1 k3 A0_0p A0_0n A0_0c A0_1 A0_2 A0_3 A0_4 none 0 0 A0_3 0 w13)
theorem view_Numbers.b6_s {K : Value → World → Prop} {x6 : Option Addr → Option Addr → Nat → Nat → Int → Int → World → Prop} {x10 : Option Addr → Option Addr → Nat → Nat → Option Addr → Int → Int → Int → Int → World → Prop} {s6 : Nat → Option Addr → Nat → Nat → Int → Int → Int → Int → Option Addr → Nat → Nat → Int → Int → World → Prop} {s10 : Nat → Option Addr → Nat → Nat → Int → Int → Int → Int → Option Addr → Nat → Nat → Nat → Option Addr → Nat → Nat → Int → Int → Int → Int → Int → Int → Int → World → Prop} (i6 : ∀ {q1 : Addr} {y1_0p : Option Addr} {y1_0n y1_0c : Nat} {y1_1 : Int} {y1_2 : Int} {y1_3 : Int} {y1_4 : Int} {z6p : Option Addr} {z6n z6c : Nat} {z19 : Int} {z20 : Int} {w : World}, s6 q1.block y1_0p y1_0n y1_0c y1_1 y1_2 y1_3 y1_4 z6p z6n z6c z19 z20 w → St w [(q1, [(.slice y1_0p y1_0n y1_0c), (.int .i64 y1_1), (.int .i64 y1_2), (.int .i64 y1_3), (.int .i64 y1_4)])] → x6 (some q1) z6p z6n z6c z19 z20 w) (i10 : ∀ {q1 : Addr} {y1_0p : Option Addr} {y1_0n y1_0c : Nat} {y1_1 : Int} {y1_2 : Int} {y1_3 : Int} {y1_4 : Int} {z6p : Option Addr} {z6n z6c : Nat} {q8 : Addr} {y8_0p : Option Addr} {y8_0n y8_0c : Nat} {y8_1 : Int} {y8_2 : Int} {y8_3 : Int} {z19 : Int} {z20 : Int} {z27 : Int} {z28 : Int} {w : World}, s10 q1.block y1_0p y1_0n y1_0c y1_1 y1_2 y1_3 y1_4 z6p z6n z6c q8.block y8_0p y8_0n y8_0c y8_1 y8_2 y8_3 z19 z20 z27 z28 w → St w [(q1, [(.slice y1_0p y1_0n y1_0c), (.int .i64 y1_1), (.int .i64 y1_2), (.int .i64 y1_3), (.int .i64 y1_4)]), (q8, [(.slice y8_0p y8_0n y8_0c), (.int .i64 y8_1), (.int .i64 y8_2), (.int .i64 y8_3)])] → x10 (some q1) z6p z6n z6c (some q8) z19 z20 z27 z28 w) {q1 : Addr} {y1_0p : Option Addr} {y1_0n y1_0c : Nat} {y1_1 : Int} {y1_2 : Int} {y1_3 : Int} {y1_4 : Int} {z6p : Option Addr} {z6n z6c : Nat} {z19 : Int} {z20 : Int} {w : World} (h : view_Numbers.e6 K s6 s10 q1.block y1_0p y1_0n y1_0c y1_1 y1_2 y1_3 y1_4 z6p z6n z6c z19 z20 w) (st : St w [(q1, [(.slice y1_0p y1_0n y1_0c), (.int .i64 y1_1), (.int .i64 y1_2), (.int .i64 y1_3), (.int .i64 y1_4)])]) : view_Numbers.b6 K x6 x10 (some q1) z6p z6n z6c z19 z20 w := by
  unfold view_Numbers.b6
  unfold view_Numbers.e6 at h
  refine br_mono (fun h => ?_) (fun h => ?_) h
  · refine ptrSome_intro rfl ?_
    refine rd_l_i64_i64_i64_i64.bx 0 0 st rfl rfl rfl rfl rfl rfl rfl ?_
    refine CallF.mono h (fun v9 w10 h => ?_)
    obtain ⟨hK, h⟩ := h
    replace st := st.stay hK
    obtain ⟨a11, n12, c13, i14, i15, i16, h⟩ := h
    refine ⟨a11, n12, c13, i14, i15, i16, ?_⟩
    refine And.imp_right (fun h => ?_) h
    refine St.new st (fun q17 w18 hk hlt he st => ?_)
    replace h := h q17.block w18 hk hlt he
    refine St.put 0 0 st rfl rfl rfl rfl (fun w21 he st => ?_)
    replace h := h w21 he
    refine rd_i64.bx 0 2 st rfl rfl rfl ?_
    exact i10 h (st.pick [1, 0] (by decide))
  · exact h
theorem view_Numbers.b10_s {K : Value → World → Prop} {x6 : Option Addr → Option Addr → Nat → Nat → Int → Int → World → Prop} {x10 : Option Addr → Option Addr → Nat → Nat → Option Addr → Int → Int → Int → Int → World → Prop} {s6 : Nat → Option Addr → Nat → Nat → Int → Int → Int → Int → Option Addr → Nat → Nat → Int → Int → World → Prop} {s10 : Nat → Option Addr → Nat → Nat → Int → Int → Int → Int → Option Addr → Nat → Nat → Nat → Option Addr → Nat → Nat → Int → Int → Int → Int → Int → Int → Int → World → Prop} (i6 : ∀ {q1 : Addr} {y1_0p : Option Addr} {y1_0n y1_0c : Nat} {y1_1 : Int} {y1_2 : Int} {y1_3 : Int} {y1_4 : Int} {z6p : Option Addr} {z6n z6c : Nat} {z19 : Int} {z20 : Int} {w : World}, s6 q1.block y1_0p y1_0n y1_0c y1_1 y1_2 y1_3 y1_4 z6p z6n z6c z19 z20 w → St w [(q1, [(.slice y1_0p y1_0n y1_0c), (.int .i64 y1_1), (.int .i64 y1_2), (.int .i64 y1_3), (.int .i64 y1_4)])] → x6 (some q1) z6p z6n z6c z19 z20 w) (i10 : ∀ {q1 : Addr} {y1_0p : Option Addr} {y1_0n y1_0c : Nat} {y1_1 : Int} {y1_2 : Int} {y1_3 : Int} {y1_4 : Int} {z6p : Option Addr} {z6n z6c : Nat} {q8 : Addr} {y8_0p : Option Addr} {y8_0n y8_0c : Nat} {y8_1 : Int} {y8_2 : Int} {y8_3 : Int} {z19 : Int} {z20 : Int} {z27 : Int} {z28 : Int} {w : World}, s10 q1.block y1_0p y1_0n y1_0c y1_1 y1_2 y1_3 y1_4 z6p z6n z6c q8.block y8_0p y8_0n y8_0c y8_1 y8_2 y8_3 z19 z20 z27 z28 w → St w [(q1, [(.slice y1_0p y1_0n y1_0c), (.int .i64 y1_1), (.int .i64 y1_2), (.int .i64 y1_3), (.int .i64 y1_4)]), (q8, [(.slice y8_0p y8_0n y8_0c), (.int .i64 y8_1), (.int .i64 y8_2), (.int .i64 y8_3)])] → x10 (some q1) z6p z6n z6c (some q8) z19 z20 z27 z28 w) {q1 : Addr} {y1_0p : Option Addr} {y1_0n y1_0c : Nat} {y1_1 : Int} {y1_2 : Int} {y1_3 : Int} {y1_4 : Int} {z6p : Option Addr} {z6n z6c : Nat} {q8 : Addr} {y8_0p : Option Addr} {y8_0n y8_0c : Nat} {y8_1 : Int} {y8_2 : Int} {y8_3 : Int} {z19 : Int} {z20 : Int} {z27 : Int} {z28 : Int} {w : World} (h : view_Numbers.e10 K s6 s10 q1.block y1_0p y1_0n y1_0c y1_1 y1_2 y1_3 y1_4 z6p z6n z6c q8.block y8_0p y8_0n y8_0c y8_1 y8_2 y8_3 z19 z20 z27 z28 w) (st : St w [(q1, [(.slice y1_0p y1_0n y1_0c), (.int .i64 y1_1), (.int .i64 y1_2), (.int .i64 y1_3), (.int .i64 y1_4)]), (q8, [(.slice y8_0p y8_0n y8_0c), (.int .i64 y8_1), (.int .i64 y8_2), (.int .i64 y8_3)])]) : view_Numbers.b10 K x6 x10 (some q1) z6p z6n z6c (some q8) z19 z20 z27 z28 w := by
  unfold view_Numbers.b10
  unfold view_Numbers.e10 at h
  refine br_mono (fun h => ?_) (fun h => ?_) h
  · refine ptrSome_intro rfl ?_
    refine rd_l.bx 1 0 st rfl rfl rfl ?_
    refine ptrSome_intro rfl ?_
    refine rd_i64.bx 1 1 st rfl rfl rfl ?_
    refine ptrSome_mono (fun q7 h => ?_) h
    refine And.imp_right (fun h => ?_) h
    refine And.imp_right (fun h => ?_) h
    refine rd_f64.mono (fun x8 h => ?_) h
    refine newB_mono st h (fun q9 w10 st h => ?_)
    refine Raw.mono h (fun v11 w12 h => ?_)
    obtain ⟨hK, h⟩ := h
    replace st := st.stay hK
    obtain ⟨a13, n14, c15, h⟩ := h
    refine ⟨a13, n14, c15, ?_⟩
    refine And.imp_right (fun h => ?_) h
    exact i10 h (st.pick [0, 1] (by decide))
  · exact i6 h (st.pick [0] (by decide))
theorem view_Numbers.H_s {K : Value → World → Prop} (fu : Nat) : (∀ {q1 : Addr} {y1_0p : Option Addr} {y1_0n y1_0c : Nat} {y1_1 : Int} {y1_2 : Int} {y1_3 : Int} {y1_4 : Int} {z6p : Option Addr} {z6n z6c : Nat} {z19 : Int} {z20 : Int} {w : World}, (view_Numbers.I K fu).1 q1.block y1_0p y1_0n y1_0c y1_1 y1_2 y1_3 y1_4 z6p z6n z6c z19 z20 w → St w [(q1, [(.slice y1_0p y1_0n y1_0c), (.int .i64 y1_1), (.int .i64 y1_2), (.int .i64 y1_3), (.int .i64 y1_4)])] → (view_Numbers.H K fu).1 (some q1) z6p z6n z6c z19 z20 w) ∧ (∀ {q1 : Addr} {y1_0p : Option Addr} {y1_0n y1_0c : Nat} {y1_1 : Int} {y1_2 : Int} {y1_3 : Int} {y1_4 : Int} {z6p : Option Addr} {z6n z6c : Nat} {q8 : Addr} {y8_0p : Option Addr} {y8_0n y8_0c : Nat} {y8_1 : Int} {y8_2 : Int} {y8_3 : Int} {z19 : Int} {z20 : Int} {z27 : Int} {z28 : Int} {w : World}, (view_Numbers.I K fu).2 q1.block y1_0p y1_0n y1_0c y1_1 y1_2 y1_3 y1_4 z6p z6n z6c q8.block y8_0p y8_0n y8_0c y8_1 y8_2 y8_3 z19 z20 z27 z28 w → St w [(q1, [(.slice y1_0p y1_0n y1_0c), (.int .i64 y1_1), (.int .i64 y1_2), (.int .i64 y1_3), (.int .i64 y1_4)]), (q8, [(.slice y8_0p y8_0n y8_0c), (.int .i64 y8_1), (.int .i64 y8_2), (.int .i64 y8_3)])] → (view_Numbers.H K fu).2 (some q1) z6p z6n z6c (some q8) z19 z20 z27 z28 w) := by
  induction fu with
  | zero => exact ⟨fun h _ => False.elim h, fun h _ => False.elim h⟩
  | succ fu ih => exact ⟨fun h st => view_Numbers.b6_s (K := K) (x6 := (view_Numbers.H K fu).1) (s6 := (view_Numbers.I K fu).1) (x10 := (view_Numbers.H K fu).2) (s10 := (view_Numbers.I K fu).2) ih.1 ih.2 h st, fun h st => view_Numbers.b10_s (K := K) (x6 := (view_Numbers.H K fu).1) (s6 := (view_Numbers.I K fu).1) (x10 := (view_Numbers.H K fu).2) (s10 := (view_Numbers.I K fu).2) ih.1 ih.2 h st⟩
theorem view_Numbers.os (fu : Nat) {A0_0p : Option Addr} {A0_0n A0_0c : Nat} {A0_1 : Int} {A0_2 : Int} {A0_3 : Int} {A0_4 : Int} {w : World} {K : Value → World → Prop} (h : view_Numbers.s fu A0_0p A0_0n A0_0c A0_1 A0_2 A0_3 A0_4 w K) : view_Numbers.call [(.agg ⟨[(.slice A0_0p A0_0n A0_0c), (.int .i64 A0_1), (.int .i64 A0_2), (.int .i64 A0_3), (.int .i64 A0_4)]⟩)] w K := by
  refine view_Numbers.ok fu ?_
  have st := St.nil w
  unfold view_Numbers.x
  unfold view_Numbers.s at h
  refine St.new (St.nil _) (fun q1 w2 hk hlt he st => ?_)
  replace h := h q1.block w2 hk hlt he
  refine rd_l_i64_i64_i64_i64.bx 0 0 st rfl rfl rfl rfl rfl rfl rfl ?_
  refine CallF.mono h (fun v12 w13 h => ?_)
  obtain ⟨hK, h⟩ := h
  replace st := st.stay hK
  obtain ⟨i14, i15, b16, h⟩ := h
  refine ⟨i14, i15, b16, ?_⟩
  refine And.imp_right (fun h => ?_) h
  refine br_mono (fun h => ?_) (fun h => ?_) h
  · exact h
  · refine rd_i64.bx 0 3 st rfl rfl rfl ?_
    exact (view_Numbers.H_s fu).1 h (st.pick [0] (by decide))

/-! ### straightedge/view.Row: function 78 -/
def view_Row.x (A0_0p : Option Addr) (A0_0n A0_0c : Nat) (A0_1 : Int) (A0_2 : Int) (A0_3 : Int) (A0_4 : Int) (A1 : Int) (w : World) (K : Value → World → Prop) : Prop := newB [(.slice A0_0p A0_0n A0_0c), (.int .i64 A0_1), (.int .i64 A0_2), (.int .i64 A0_3), (.int .i64 A0_4)] 24 w fun q1 w2 => newB [(.slice none 0 0), (.int .i64 0), (.int .i64 0), (.int .i64 0)] 66 w2 fun q3 w4 => rd_l_i64_i64_i64_i64 w4 q1 fun a5 n6 c7 i8 i9 i10 i11 => view_Good.call [(.agg ⟨[(.slice a5 n6 c7), (.int .i64 i8), (.int .i64 i9), (.int .i64 i10), (.int .i64 i11)]⟩)] w4 fun v12 w13 => ∃ b14 : Bool, v12 = (.bool b14) ∧ br (!b14) (stPT q3 0 [(.slice none 0 0), (.int .i64 0), (.int .i64 0), (.int .i64 0)] w13 fun w15 => rd_l_i64_i64_i64 w15 q3 fun a16 n17 c18 i19 i20 i21 => K (.agg ⟨[(.slice a16 n17 c18), (.int .i64 i19), (.int .i64 i20), (.int .i64 i21)]⟩) w15) (br (decide (A1 < 0)) (stPT q3 0 [(.slice none 0 0), (.int .i64 0), (.int .i64 0), (.int .i64 0)] w13 fun w22 => rd_l_i64_i64_i64 w22 q3 fun a23 n24 c25 i26 i27 i28 => K (.agg ⟨[(.slice a23 n24 c25), (.int .i64 i26), (.int .i64 i27), (.int .i64 i28)]⟩) w22) (rd_i64 w13 (q1.add 2) fun i29 => br (decide (A1 ≥ i29)) (stPT q3 0 [(.slice none 0 0), (.int .i64 0), (.int .i64 0), (.int .i64 0)] w13 fun w30 => rd_l_i64_i64_i64 w30 q3 fun a31 n32 c33 i34 i35 i36 => K (.agg ⟨[(.slice a31 n32 c33), (.int .i64 i34), (.int .i64 i35), (.int .i64 i36)]⟩) w30) (rd_l w13 q1 fun a37 n38 c39 => rd_i64 w13 (q1.add 1) fun i40 => rd_i64 w13 (q1.add 3) fun i41 => rd_i64 w13 (q1.add 4) fun i42 => newB [(.slice none 0 0), (.int .i64 0), (.int .i64 0), (.int .i64 0)] 66 w13 fun q43 w44 => stPT q43 0 [(.slice a37 n38 c39), (.int .i64 i40), (.int .i64 i41), (.int .i64 i42)] w44 fun w45 => rd_i64 w45 (q1.add 3) fun i46 => br (decide (i46 > 0)) (rd_i64 w45 (q43.add 1) fun i47 => stPT (q43.add 1) 0 [(.int .i64 (IntKind.i64.wrap (i47 + A1)))] w45 fun w48 => rd_l_i64_i64_i64 w48 q43 fun a49 n50 c51 i52 i53 i54 => stPT q3 0 [(.slice a49 n50 c51), (.int .i64 i52), (.int .i64 i53), (.int .i64 i54)] w48 fun w55 => rd_l_i64_i64_i64 w55 q3 fun a56 n57 c58 i59 i60 i61 => K (.agg ⟨[(.slice a56 n57 c58), (.int .i64 i59), (.int .i64 i60), (.int .i64 i61)]⟩) w55) (rd_l_i64_i64_i64 w45 q43 fun a62 n63 c64 i65 i66 i67 => stPT q3 0 [(.slice a62 n63 c64), (.int .i64 i65), (.int .i64 i66), (.int .i64 i67)] w45 fun w68 => rd_l_i64_i64_i64 w68 q3 fun a69 n70 c71 i72 i73 i74 => K (.agg ⟨[(.slice a69 n70 c71), (.int .i64 i72), (.int .i64 i73), (.int .i64 i74)]⟩) w68))))
theorem view_Row.ok {A0_0p : Option Addr} {A0_0n A0_0c : Nat} {A0_1 : Int} {A0_2 : Int} {A0_3 : Int} {A0_4 : Int} {A1 : Int} {w : World} {K : Value → World → Prop} (h : view_Row.x A0_0p A0_0n A0_0c A0_1 A0_2 A0_3 A0_4 A1 w K) : view_Row.call [(.agg ⟨[(.slice A0_0p A0_0n A0_0c), (.int .i64 A0_1), (.int .i64 A0_2), (.int .i64 A0_3), (.int .i64 A0_4)]⟩), (.int .i64 A1)] w K :=
  callF_of_ex0 (f := Try.f78) Try.func78 rfl mixed (by kernel_rfl) (Eq.mp (by kernel_rfl) h)
/-! the same, the local variables taken out -/
def view_Row.s (A0_0p : Option Addr) (A0_0n A0_0c : Nat) (A0_1 : Int) (A0_2 : Int) (A0_3 : Int) (A0_4 : Int) (A1 : Int) (w : World) (K : Value → World → Prop) : Prop := ∀ (k3 : Nat) (w2 : World), k3 = w.heap.size → k3 < w2.heap.size → Ext w w2 → ∀ (k7 : Nat) (w6 : World), k7 = w2.heap.size → k7 < w6.heap.size → Ext w2 w6 → view_Good.call [(.agg ⟨[(.slice A0_0p A0_0n A0_0c), (.int .i64 A0_1), (.int .i64 A0_2), (.int .i64 A0_3), (.int .i64 A0_4)]⟩)] w6 fun v16 w17 => Stay [k7, k3] w6 w17 ∧ ∃ b18 : Bool, v16 = (.bool b18) ∧ br (!b18) (∀ w19 : World, Exc k7 w17 w19 → K (.agg ⟨[(.slice (none : Option Addr) (0 : Nat) (0 : Nat)), (.int .i64 (0 : Int)), (.int .i64 (0 : Int)), (.int .i64 (0 : Int))]⟩) w19) (br (decide (A1 < 0)) (∀ w26 : World, Exc k7 w17 w26 → K (.agg ⟨[(.slice (none : Option Addr) (0 : Nat) (0 : Nat)), (.int .i64 (0 : Int)), (.int .i64 (0 : Int)), (.int .i64 (0 : Int))]⟩) w26) (br (decide (A1 ≥ A0_2)) (∀ w34 : World, Exc k7 w17 w34 → K (.agg ⟨[(.slice (none : Option Addr) (0 : Nat) (0 : Nat)), (.int .i64 (0 : Int)), (.int .i64 (0 : Int)), (.int .i64 (0 : Int))]⟩) w34) (∀ (k49 : Nat) (w48 : World), k49 = w17.heap.size → k49 < w48.heap.size → Ext w17 w48 → ∀ w51 : World, Exc k49 w48 w51 → br (decide (A0_3 > 0)) (∀ w54 : World, Exc k49 w51 w54 → ∀ w61 : World, Exc k7 w54 w61 → K (.agg ⟨[(.slice A0_0p A0_0n A0_0c), (.int .i64 (IntKind.i64.wrap (A0_1 + A1))), (.int .i64 A0_3), (.int .i64 A0_4)]⟩) w61) (∀ w74 : World, Exc k7 w51 w74 → K (.agg ⟨[(.slice A0_0p A0_0n A0_0c), (.int .i64 A0_1), (.int .i64 A0_3), (.int .i64 A0_4)]⟩) w74))))
theorem view_Row.os {A0_0p : Option Addr} {A0_0n A0_0c : Nat} {A0_1 : Int} {A0_2 : Int} {A0_3 : Int} {A0_4 : Int} {A1 : Int} {w : World} {K : Value → World → Prop} (h : view_Row.s A0_0p A0_0n A0_0c A0_1 A0_2 A0_3 A0_4 A1 w K) : view_Row.call [(.agg ⟨[(.slice A0_0p A0_0n A0_0c), (.int .i64 A0_1), (.int .i64 A0_2), (.int .i64 A0_3), (.int .i64 A0_4)]⟩), (.int .i64 A1)] w K := by
  refine view_Row.ok ?_
  have st := St.nil w
  unfold view_Row.x
  unfold view_Row.s at h
  refine St.new (St.nil _) (fun q1 w2 hk hlt he st => ?_)
  replace h := h q1.block w2 hk hlt he
  refine St.new st (fun q5 w6 hk hlt he st => ?_)
  replace h := h q5.block w6 hk hlt he
  refine rd_l_i64_i64_i64_i64.bx 1 0 st rfl rfl rfl rfl rfl rfl rfl ?_
  refine CallF.mono h (fun v16 w17 h => ?_)
  obtain ⟨hK, h⟩ := h
  replace st := st.stay hK
  obtain ⟨b18, h⟩ := h
  refine ⟨b18, ?_⟩
  refine And.imp_right (fun h => ?_) h
  refine br_mono (fun h => ?_) (fun h => ?_) h
  · refine St.put 0 0 st rfl rfl rfl rfl (fun w19 he st => ?_)
    replace h := h w19 he
    refine rd_l_i64_i64_i64.bx 0 0 st rfl rfl rfl rfl rfl rfl ?_
    exact h
  · refine br_mono (fun h => ?_) (fun h => ?_) h
    · refine St.put 0 0 st rfl rfl rfl rfl (fun w26 he st => ?_)
      replace h := h w26 he
      refine rd_l_i64_i64_i64.bx 0 0 st rfl rfl rfl rfl rfl rfl ?_
      exact h
    · refine rd_i64.bx 1 2 st rfl rfl rfl ?_
      refine br_mono (fun h => ?_) (fun h => ?_) h
      · refine St.put 0 0 st rfl rfl rfl rfl (fun w34 he st => ?_)
        replace h := h w34 he
        refine rd_l_i64_i64_i64.bx 0 0 st rfl rfl rfl rfl rfl rfl ?_
        exact h
      · refine rd_l.bx 1 0 st rfl rfl rfl ?_
        refine rd_i64.bx 1 1 st rfl rfl rfl ?_
        refine rd_i64.bx 1 3 st rfl rfl rfl ?_
        refine rd_i64.bx 1 4 st rfl rfl rfl ?_
        refine St.new st (fun q47 w48 hk hlt he st => ?_)
        replace h := h q47.block w48 hk hlt he
        refine St.put 0 0 st rfl rfl rfl rfl (fun w51 he st => ?_)
        replace h := h w51 he
        refine rd_i64.bx 2 3 st rfl rfl rfl ?_
        refine br_mono (fun h => ?_) (fun h => ?_) h
        · refine rd_i64.bx 0 1 st rfl rfl rfl ?_
          refine St.put 0 1 st rfl rfl rfl rfl (fun w54 he st => ?_)
          replace h := h w54 he
          refine rd_l_i64_i64_i64.bx 0 0 st rfl rfl rfl rfl rfl rfl ?_
          refine St.put 1 0 st rfl rfl rfl rfl (fun w61 he st => ?_)
          replace h := h w61 he
          refine rd_l_i64_i64_i64.bx 1 0 st rfl rfl rfl rfl rfl rfl ?_
          exact h
        · refine rd_l_i64_i64_i64.bx 0 0 st rfl rfl rfl rfl rfl rfl ?_
          refine St.put 1 0 st rfl rfl rfl rfl (fun w74 he st => ?_)
          replace h := h w74 he
          refine rd_l_i64_i64_i64.bx 1 0 st rfl rfl rfl rfl rfl rfl ?_
          exact h

/-! ### straightedge/view.span: function 79 -/
def view_span.x (A0_0p : Option Addr) (A0_0n A0_0c : Nat) (A0_1 : Int) (A0_2 : Int) (A0_3 : Int) (A0_4 : Int) (w : World) (K : Value → World → Prop) : Prop := newB [(.slice A0_0p A0_0n A0_0c), (.int .i64 A0_1), (.int .i64 A0_2), (.int .i64 A0_3), (.int .i64 A0_4)] 24 w fun q1 w2 => rd_l_i64_i64_i64_i64 w2 q1 fun a3 n4 c5 i6 i7 i8 i9 => view_Good.call [(.agg ⟨[(.slice a3 n4 c5), (.int .i64 i6), (.int .i64 i7), (.int .i64 i8), (.int .i64 i9)]⟩)] w2 fun v10 w11 => ∃ b12 : Bool, v10 = (.bool b12) ∧ br (!b12) (K (.tuple ⟨[(.int .i64 0), (.int .i64 0), (.bool false)]⟩) w11) (rd_i64 w11 (q1.add 2) fun i13 => br (i13 == 0) (K (.tuple ⟨[(.int .i64 0), (.int .i64 0), (.bool false)]⟩) w11) (rd_i64 w11 (q1.add 3) fun i14 => br (i14 == 0) (K (.tuple ⟨[(.int .i64 0), (.int .i64 0), (.bool false)]⟩) w11) (rd_i64 w11.drew (q1.add 1) fun i16 => rd_i64 w11.drew (q1.add 1) fun i17 => rd_i64 w11.drew (q1.add 3) fun i18 => rd_i64 w11.drew (q1.add 4) fun i19 => rd_i64 w11.drew (q1.add 2) fun i20 => K (.tuple ⟨[(.int .i64 i16), (.int .i64 (IntKind.i64.wrap ((IntKind.i64.wrap ((IntKind.i64.wrap (i17 + (IntKind.i64.wrap ((IntKind.i64.wrap (i18 - 1)) * i19)))) + i20)) - 1))), (.bool true)]⟩) w11.drew)))
theorem view_span.ok {A0_0p : Option Addr} {A0_0n A0_0c : Nat} {A0_1 : Int} {A0_2 : Int} {A0_3 : Int} {A0_4 : Int} {w : World} {K : Value → World → Prop} (h : view_span.x A0_0p A0_0n A0_0c A0_1 A0_2 A0_3 A0_4 w K) : view_span.call [(.agg ⟨[(.slice A0_0p A0_0n A0_0c), (.int .i64 A0_1), (.int .i64 A0_2), (.int .i64 A0_3), (.int .i64 A0_4)]⟩)] w K :=
  callF_of_ex0 (f := Try.f79) Try.func79 rfl mixed (by kernel_rfl) (Eq.mp (by kernel_rfl) h)
/-! the same, the local variables taken out -/
def view_span.s (A0_0p : Option Addr) (A0_0n A0_0c : Nat) (A0_1 : Int) (A0_2 : Int) (A0_3 : Int) (A0_4 : Int) (w : World) (K : Value → World → Prop) : Prop := ∀ (k3 : Nat) (w2 : World), k3 = w.heap.size → k3 < w2.heap.size → Ext w w2 → view_Good.call [(.agg ⟨[(.slice A0_0p A0_0n A0_0c), (.int .i64 A0_1), (.int .i64 A0_2), (.int .i64 A0_3), (.int .i64 A0_4)]⟩)] w2 fun v12 w13 => Stay [k3] w2 w13 ∧ ∃ b14 : Bool, v12 = (.bool b14) ∧ br (!b14) (K (.tuple ⟨[(.int .i64 0), (.int .i64 0), (.bool false)]⟩) w13) (br (A0_2 == 0) (K (.tuple ⟨[(.int .i64 0), (.int .i64 0), (.bool false)]⟩) w13) (br (A0_3 == 0) (K (.tuple ⟨[(.int .i64 0), (.int .i64 0), (.bool false)]⟩) w13) (K (.tuple ⟨[(.int .i64 A0_1), (.int .i64 (IntKind.i64.wrap ((IntKind.i64.wrap ((IntKind.i64.wrap (A0_1 + (IntKind.i64.wrap ((IntKind.i64.wrap (A0_3 - 1)) * A0_4)))) + A0_2)) - 1))), (.bool true)]⟩) w13.drew)))
theorem view_span.os {A0_0p : Option Addr} {A0_0n A0_0c : Nat} {A0_1 : Int} {A0_2 : Int} {A0_3 : Int} {A0_4 : Int} {w : World} {K : Value → World → Prop} (h : view_span.s A0_0p A0_0n A0_0c A0_1 A0_2 A0_3 A0_4 w K) : view_span.call [(.agg ⟨[(.slice A0_0p A0_0n A0_0c), (.int .i64 A0_1), (.int .i64 A0_2), (.int .i64 A0_3), (.int .i64 A0_4)]⟩)] w K := by
  refine view_span.ok ?_
  have st := St.nil w
  unfold view_span.x
  unfold view_span.s at h
  refine St.new (St.nil _) (fun q1 w2 hk hlt he st => ?_)
  replace h := h q1.block w2 hk hlt he
  refine rd_l_i64_i64_i64_i64.bx 0 0 st rfl rfl rfl rfl rfl rfl rfl ?_
  refine CallF.mono h (fun v12 w13 h => ?_)
  obtain ⟨hK, h⟩ := h
  replace st := st.stay hK
  obtain ⟨b14, h⟩ := h
  refine ⟨b14, ?_⟩
  refine And.imp_right (fun h => ?_) h
  refine br_mono (fun h => ?_) (fun h => ?_) h
  · exact h
  · refine rd_i64.bx 0 2 st rfl rfl rfl ?_
    refine br_mono (fun h => ?_) (fun h => ?_) h
    · exact h
    · refine rd_i64.bx 0 3 st rfl rfl rfl ?_
      refine br_mono (fun h => ?_) (fun h => ?_) h
      · exact h
      · replace st := st.drew
        have st17 := st
        refine rd_i64.bx 0 1 st17 rfl rfl rfl ?_
        refine rd_i64.bx 0 1 st17 rfl rfl rfl ?_
        refine rd_i64.bx 0 3 st17 rfl rfl rfl ?_
        refine rd_i64.bx 0 4 st17 rfl rfl rfl ?_
        refine rd_i64.bx 0 2 st17 rfl rfl rfl ?_
        exact h

end Go.Proofs.Ytgdkahbnepafgaa
