/- A part of the proof. -/
import Derived.Test.YtgdkahbnepafgaaWk0
import Derived.Test.YtgdkahbnepafgaaProg
set_option linter.unusedVariables false

/-! ### AG0 -/
/- The calls of the functions, by name. Written by wip/tools/wk2.py. -/
set_option maxHeartbeats 4000000
set_option maxRecDepth 100000
set_option linter.unusedVariables false
namespace Go.Proofs.Ytgdkahbnepafgaa
open Go Go.Wk

noncomputable abbrev prog : Program := Try.prog
theorem mixed : prog.follows .mixedOrders = true := by kernel_rfl
abbrev straightedgelaw16_LuClose.call : List Value → World → (Value → World → Prop) → Prop := CallF prog 3
abbrev straightedgelaw19_GrowthNear.call : List Value → World → (Value → World → Prop) → Prop := CallF prog 4
abbrev straightedgelaw16_awake.call : List Value → World → (Value → World → Prop) → Prop := CallF prog 5
abbrev straightedgeref03_Great.call : List Value → World → (Value → World → Prop) → Prop := CallF prog 6
abbrev straightedgeref03_Good.call : List Value → World → (Value → World → Prop) → Prop := CallF prog 7
abbrev straightedgeref01_Finite.call : List Value → World → (Value → World → Prop) → Prop := CallF prog 8
abbrev straightedgeref03_Of.call : List Value → World → (Value → World → Prop) → Prop := CallF prog 9
abbrev lu_Factor.call : List Value → World → (Value → World → Prop) → Prop := CallF prog 10
abbrev straightedgeref16_Piv.call : List Value → World → (Value → World → Prop) → Prop := CallF prog 11
abbrev straightedgeref01_Abs.call : List Value → World → (Value → World → Prop) → Prop := CallF prog 12
abbrev straightedgeref03_M_At.call : List Value → World → (Value → World → Prop) → Prop := CallF prog 13
abbrev straightedgelaw16_closeTo.call : List Value → World → (Value → World → Prop) → Prop := CallF prog 14
abbrev straightedgelaw19_awake.call : List Value → World → (Value → World → Prop) → Prop := CallF prog 15
abbrev growth_Growth.call : List Value → World → (Value → World → Prop) → Prop := CallF prog 16
abbrev straightedgeref02_Of.call : List Value → World → (Value → World → Prop) → Prop := CallF prog 17
abbrev straightedgeref19_Most.call : List Value → World → (Value → World → Prop) → Prop := CallF prog 18
abbrev straightedgeref02_D_Mul.call : List Value → World → (Value → World → Prop) → Prop := CallF prog 19
abbrev straightedgeref02_D_Sub.call : List Value → World → (Value → World → Prop) → Prop := CallF prog 20
abbrev straightedgeref02_D_Abs.call : List Value → World → (Value → World → Prop) → Prop := CallF prog 21
abbrev straightedgeref02_D_Cmp.call : List Value → World → (Value → World → Prop) → Prop := CallF prog 22
abbrev straightedgeref02_D_Shift.call : List Value → World → (Value → World → Prop) → Prop := CallF prog 23
abbrev straightedgeref02_D_Add.call : List Value → World → (Value → World → Prop) → Prop := CallF prog 24
abbrev view_Dense.call : List Value → World → (Value → World → Prop) → Prop := CallF prog 25
abbrev straightedgelaw16_ints.call : List Value → World → (Value → World → Prop) → Prop := CallF prog 26
abbrev straightedgeref01_All.call : List Value → World → (Value → World → Prop) → Prop := CallF prog 27
abbrev straightedgeref03_within.call : List Value → World → (Value → World → Prop) → Prop := CallF prog 28
abbrev straightedgeref01_Parts.call : List Value → World → (Value → World → Prop) → Prop := CallF prog 29
abbrev straightedgeref03_New.call : List Value → World → (Value → World → Prop) → Prop := CallF prog 30
abbrev straightedgeref03_M_Set.call : List Value → World → (Value → World → Prop) → Prop := CallF prog 31
abbrev lu_square.call : List Value → World → (Value → World → Prop) → Prop := CallF prog 32
abbrev lu_Pivot.call : List Value → World → (Value → World → Prop) → Prop := CallF prog 33
abbrev lu_Column.call : List Value → World → (Value → World → Prop) → Prop := CallF prog 34
abbrev view_At.call : List Value → World → (Value → World → Prop) → Prop := CallF prog 35
abbrev ger_Ger.call : List Value → World → (Value → World → Prop) → Prop := CallF prog 36
abbrev view_Part.call : List Value → World → (Value → World → Prop) → Prop := CallF prog 37
abbrev math_Float64frombits.call : List Value → World → (Value → World → Prop) → Prop := CallF prog 38
abbrev math_Float64bits.call : List Value → World → (Value → World → Prop) → Prop := CallF prog 39
abbrev straightedgeref16_Parts.call : List Value → World → (Value → World → Prop) → Prop := CallF prog 40
abbrev straightedgeref16_Order.call : List Value → World → (Value → World → Prop) → Prop := CallF prog 41
abbrev straightedgeref10_Max.call : List Value → World → (Value → World → Prop) → Prop := CallF prog 42
abbrev straightedgeref02_Int.call : List Value → World → (Value → World → Prop) → Prop := CallF prog 43
abbrev growth_made.call : List Value → World → (Value → World → Prop) → Prop := CallF prog 44
abbrev growth_pair_upTo.call : List Value → World → (Value → World → Prop) → Prop := CallF prog 45
abbrev straightedgeref02_Whole.call : List Value → World → (Value → World → Prop) → Prop := CallF prog 46
abbrev straightedgeref05_Greatest.call : List Value → World → (Value → World → Prop) → Prop := CallF prog 47
abbrev straightedgeref02_Made.call : List Value → World → (Value → World → Prop) → Prop := CallF prog 48
abbrev straightedgeref02_D_Minus.call : List Value → World → (Value → World → Prop) → Prop := CallF prog 49
abbrev straightedgeref02_D_Sign.call : List Value → World → (Value → World → Prop) → Prop := CallF prog 50
abbrev straightedgeref02_floor.call : List Value → World → (Value → World → Prop) → Prop := CallF prog 51
abbrev straightedgeref02_power.call : List Value → World → (Value → World → Prop) → Prop := CallF prog 52
abbrev straightedgeref02_ends.call : List Value → World → (Value → World → Prop) → Prop := CallF prog 53
abbrev straightedgeref02_D_at.call : List Value → World → (Value → World → Prop) → Prop := CallF prog 54
abbrev straightedgeref02_size.call : List Value → World → (Value → World → Prop) → Prop := CallF prog 55
abbrev straightedgeref01_Same.call : List Value → World → (Value → World → Prop) → Prop := CallF prog 56
abbrev view_Good.call : List Value → World → (Value → World → Prop) → Prop := CallF prog 57
abbrev move_Clone.call : List Value → World → (Value → World → Prop) → Prop := CallF prog 58
abbrev view_Col.call : List Value → World → (Value → World → Prop) → Prop := CallF prog 59
abbrev sums_Most.call : List Value → World → (Value → World → Prop) → Prop := CallF prog 60
abbrev move_Rows.call : List Value → World → (Value → World → Prop) → Prop := CallF prog 61
abbrev view_place.call : List Value → World → (Value → World → Prop) → Prop := CallF prog 62
abbrev view_Right.call : List Value → World → (Value → World → Prop) → Prop := CallF prog 63
abbrev view_Meet.call : List Value → World → (Value → World → Prop) → Prop := CallF prog 64
abbrev ger_row.call : List Value → World → (Value → World → Prop) → Prop := CallF prog 65
abbrev ger_each.call : List Value → World → (Value → World → Prop) → Prop := CallF prog 66
abbrev ger_Ger_1.call : List Value → World → (Value → World → Prop) → Prop := CallF prog 67
abbrev straightedgeref10_Most.call : List Value → World → (Value → World → Prop) → Prop := CallF prog 68
abbrev lu_Right.call : List Value → World → (Value → World → Prop) → Prop := CallF prog 69
abbrev growth_most.call : List Value → World → (Value → World → Prop) → Prop := CallF prog 70
abbrev growth_pair_upTo_1.call : List Value → World → (Value → World → Prop) → Prop := CallF prog 71
abbrev view_fits.call : List Value → World → (Value → World → Prop) → Prop := CallF prog 73
abbrev view_Numbers.call : List Value → World → (Value → World → Prop) → Prop := CallF prog 74
abbrev math_Abs.call : List Value → World → (Value → World → Prop) → Prop := CallF prog 75
abbrev sums_at.call : List Value → World → (Value → World → Prop) → Prop := CallF prog 76
abbrev move_swap.call : List Value → World → (Value → World → Prop) → Prop := CallF prog 77
abbrev view_Row.call : List Value → World → (Value → World → Prop) → Prop := CallF prog 78
abbrev view_span.call : List Value → World → (Value → World → Prop) → Prop := CallF prog 79
abbrev sums_Greatest.call : List Value → World → (Value → World → Prop) → Prop := CallF prog 80
def rd_b (w : World) (a : Addr) (k : Bool → Prop) : Prop := ∃ (x0 : Bool), w.cell? a = some (.bool x0) ∧ k x0
theorem rd_b.mono {w : World} {a : Addr} {k k' : Bool → Prop} (hk : ∀ (x0 : Bool), k x0 → k' x0) (h : rd_b w a k) : rd_b w a k' := by
  obtain ⟨x0, h0, h⟩ := h
  exact ⟨x0, h0, hk _ h⟩
theorem rd_b.of {w : World} {a : Addr} {k : Bool → Prop} {x0 : Bool} (h0 : w.cell? a = some (.bool x0)) (h : k x0) : rd_b w a k :=
  ⟨x0, h0, h⟩
theorem rd_b.bx (i off : Nat) {w : World} {a Q : Addr} {us : List Value} {L : List (Addr × List Value)} {k : Bool → Prop} {x0 : Bool} (st : St w L) (hL : L[i]? = some (Q, us)) (ha : a = Q.add off) (h0 : us[off + 0]? = some (.bool x0)) (h : k x0) : rd_b w a k := by
  have hr := st.row hL
  subst ha
  exact ⟨x0, hr.get off h0, h⟩
def rd_b_l_i64 (w : World) (a : Addr) (k : Bool → Option Addr → Nat → Nat → Int → Prop) : Prop := ∃ (x0 : Bool), ∃ (x1 : Option Addr) (n1 c1 : Nat), ∃ (x2 : Int), w.cell? a = some (.bool x0) ∧ w.cell? (a.add 1) = some (.slice x1 n1 c1) ∧ w.cell? (a.add 2) = some (.int .i64 x2) ∧ k x0 x1 n1 c1 x2
theorem rd_b_l_i64.mono {w : World} {a : Addr} {k k' : Bool → Option Addr → Nat → Nat → Int → Prop} (hk : ∀ (x0 : Bool) (x1 : Option Addr) (n1 c1 : Nat) (x2 : Int), k x0 x1 n1 c1 x2 → k' x0 x1 n1 c1 x2) (h : rd_b_l_i64 w a k) : rd_b_l_i64 w a k' := by
  obtain ⟨x0, x1, n1, c1, x2, h0, h1, h2, h⟩ := h
  exact ⟨x0, x1, n1, c1, x2, h0, h1, h2, hk _ _ _ _ _ h⟩
theorem rd_b_l_i64.of {w : World} {a : Addr} {k : Bool → Option Addr → Nat → Nat → Int → Prop} {x0 : Bool} {x1 : Option Addr} {n1 c1 : Nat} {x2 : Int} (h0 : w.cell? a = some (.bool x0)) (h1 : w.cell? (a.add 1) = some (.slice x1 n1 c1)) (h2 : w.cell? (a.add 2) = some (.int .i64 x2)) (h : k x0 x1 n1 c1 x2) : rd_b_l_i64 w a k :=
  ⟨x0, x1, n1, c1, x2, h0, h1, h2, h⟩
theorem rd_b_l_i64.bx (i off : Nat) {w : World} {a Q : Addr} {us : List Value} {L : List (Addr × List Value)} {k : Bool → Option Addr → Nat → Nat → Int → Prop} {x0 : Bool} {x1 : Option Addr} {n1 c1 : Nat} {x2 : Int} (st : St w L) (hL : L[i]? = some (Q, us)) (ha : a = Q.add off) (h0 : us[off + 0]? = some (.bool x0)) (h1 : us[off + 1]? = some (.slice x1 n1 c1)) (h2 : us[off + 2]? = some (.int .i64 x2)) (h : k x0 x1 n1 c1 x2) : rd_b_l_i64 w a k := by
  have hr := st.row hL
  subst ha
  exact ⟨x0, x1, n1, c1, x2, hr.get off h0, (by rw [add_add]; exact hr.get _ h1), (by rw [add_add]; exact hr.get _ h2), h⟩
def rd_f64 (w : World) (a : Addr) (k : Nat → Prop) : Prop := ∃ (x0 : Nat), w.cell? a = some (.float .f64 x0) ∧ k x0
theorem rd_f64.mono {w : World} {a : Addr} {k k' : Nat → Prop} (hk : ∀ (x0 : Nat), k x0 → k' x0) (h : rd_f64 w a k) : rd_f64 w a k' := by
  obtain ⟨x0, h0, h⟩ := h
  exact ⟨x0, h0, hk _ h⟩
theorem rd_f64.of {w : World} {a : Addr} {k : Nat → Prop} {x0 : Nat} (h0 : w.cell? a = some (.float .f64 x0)) (h : k x0) : rd_f64 w a k :=
  ⟨x0, h0, h⟩
theorem rd_f64.bx (i off : Nat) {w : World} {a Q : Addr} {us : List Value} {L : List (Addr × List Value)} {k : Nat → Prop} {x0 : Nat} (st : St w L) (hL : L[i]? = some (Q, us)) (ha : a = Q.add off) (h0 : us[off + 0]? = some (.float .f64 x0)) (h : k x0) : rd_f64 w a k := by
  have hr := st.row hL
  subst ha
  exact ⟨x0, hr.get off h0, h⟩
def rd_i64 (w : World) (a : Addr) (k : Int → Prop) : Prop := ∃ (x0 : Int), w.cell? a = some (.int .i64 x0) ∧ k x0
theorem rd_i64.mono {w : World} {a : Addr} {k k' : Int → Prop} (hk : ∀ (x0 : Int), k x0 → k' x0) (h : rd_i64 w a k) : rd_i64 w a k' := by
  obtain ⟨x0, h0, h⟩ := h
  exact ⟨x0, h0, hk _ h⟩
theorem rd_i64.of {w : World} {a : Addr} {k : Int → Prop} {x0 : Int} (h0 : w.cell? a = some (.int .i64 x0)) (h : k x0) : rd_i64 w a k :=
  ⟨x0, h0, h⟩
theorem rd_i64.bx (i off : Nat) {w : World} {a Q : Addr} {us : List Value} {L : List (Addr × List Value)} {k : Int → Prop} {x0 : Int} (st : St w L) (hL : L[i]? = some (Q, us)) (ha : a = Q.add off) (h0 : us[off + 0]? = some (.int .i64 x0)) (h : k x0) : rd_i64 w a k := by
  have hr := st.row hL
  subst ha
  exact ⟨x0, hr.get off h0, h⟩
def rd_i64_i64_l (w : World) (a : Addr) (k : Int → Int → Option Addr → Nat → Nat → Prop) : Prop := ∃ (x0 : Int), ∃ (x1 : Int), ∃ (x2 : Option Addr) (n2 c2 : Nat), w.cell? a = some (.int .i64 x0) ∧ w.cell? (a.add 1) = some (.int .i64 x1) ∧ w.cell? (a.add 2) = some (.slice x2 n2 c2) ∧ k x0 x1 x2 n2 c2
theorem rd_i64_i64_l.mono {w : World} {a : Addr} {k k' : Int → Int → Option Addr → Nat → Nat → Prop} (hk : ∀ (x0 : Int) (x1 : Int) (x2 : Option Addr) (n2 c2 : Nat), k x0 x1 x2 n2 c2 → k' x0 x1 x2 n2 c2) (h : rd_i64_i64_l w a k) : rd_i64_i64_l w a k' := by
  obtain ⟨x0, x1, x2, n2, c2, h0, h1, h2, h⟩ := h
  exact ⟨x0, x1, x2, n2, c2, h0, h1, h2, hk _ _ _ _ _ h⟩
theorem rd_i64_i64_l.of {w : World} {a : Addr} {k : Int → Int → Option Addr → Nat → Nat → Prop} {x0 : Int} {x1 : Int} {x2 : Option Addr} {n2 c2 : Nat} (h0 : w.cell? a = some (.int .i64 x0)) (h1 : w.cell? (a.add 1) = some (.int .i64 x1)) (h2 : w.cell? (a.add 2) = some (.slice x2 n2 c2)) (h : k x0 x1 x2 n2 c2) : rd_i64_i64_l w a k :=
  ⟨x0, x1, x2, n2, c2, h0, h1, h2, h⟩
theorem rd_i64_i64_l.bx (i off : Nat) {w : World} {a Q : Addr} {us : List Value} {L : List (Addr × List Value)} {k : Int → Int → Option Addr → Nat → Nat → Prop} {x0 : Int} {x1 : Int} {x2 : Option Addr} {n2 c2 : Nat} (st : St w L) (hL : L[i]? = some (Q, us)) (ha : a = Q.add off) (h0 : us[off + 0]? = some (.int .i64 x0)) (h1 : us[off + 1]? = some (.int .i64 x1)) (h2 : us[off + 2]? = some (.slice x2 n2 c2)) (h : k x0 x1 x2 n2 c2) : rd_i64_i64_l w a k := by
  have hr := st.row hL
  subst ha
  exact ⟨x0, x1, x2, n2, c2, hr.get off h0, (by rw [add_add]; exact hr.get _ h1), (by rw [add_add]; exact hr.get _ h2), h⟩
def rd_l (w : World) (a : Addr) (k : Option Addr → Nat → Nat → Prop) : Prop := ∃ (x0 : Option Addr) (n0 c0 : Nat), w.cell? a = some (.slice x0 n0 c0) ∧ k x0 n0 c0
theorem rd_l.mono {w : World} {a : Addr} {k k' : Option Addr → Nat → Nat → Prop} (hk : ∀ (x0 : Option Addr) (n0 c0 : Nat), k x0 n0 c0 → k' x0 n0 c0) (h : rd_l w a k) : rd_l w a k' := by
  obtain ⟨x0, n0, c0, h0, h⟩ := h
  exact ⟨x0, n0, c0, h0, hk _ _ _ h⟩
theorem rd_l.of {w : World} {a : Addr} {k : Option Addr → Nat → Nat → Prop} {x0 : Option Addr} {n0 c0 : Nat} (h0 : w.cell? a = some (.slice x0 n0 c0)) (h : k x0 n0 c0) : rd_l w a k :=
  ⟨x0, n0, c0, h0, h⟩
theorem rd_l.bx (i off : Nat) {w : World} {a Q : Addr} {us : List Value} {L : List (Addr × List Value)} {k : Option Addr → Nat → Nat → Prop} {x0 : Option Addr} {n0 c0 : Nat} (st : St w L) (hL : L[i]? = some (Q, us)) (ha : a = Q.add off) (h0 : us[off + 0]? = some (.slice x0 n0 c0)) (h : k x0 n0 c0) : rd_l w a k := by
  have hr := st.row hL
  subst ha
  exact ⟨x0, n0, c0, hr.get off h0, h⟩
def rd_l_i64_i64_i64 (w : World) (a : Addr) (k : Option Addr → Nat → Nat → Int → Int → Int → Prop) : Prop := ∃ (x0 : Option Addr) (n0 c0 : Nat), ∃ (x1 : Int), ∃ (x2 : Int), ∃ (x3 : Int), w.cell? a = some (.slice x0 n0 c0) ∧ w.cell? (a.add 1) = some (.int .i64 x1) ∧ w.cell? (a.add 2) = some (.int .i64 x2) ∧ w.cell? (a.add 3) = some (.int .i64 x3) ∧ k x0 n0 c0 x1 x2 x3
theorem rd_l_i64_i64_i64.mono {w : World} {a : Addr} {k k' : Option Addr → Nat → Nat → Int → Int → Int → Prop} (hk : ∀ (x0 : Option Addr) (n0 c0 : Nat) (x1 : Int) (x2 : Int) (x3 : Int), k x0 n0 c0 x1 x2 x3 → k' x0 n0 c0 x1 x2 x3) (h : rd_l_i64_i64_i64 w a k) : rd_l_i64_i64_i64 w a k' := by
  obtain ⟨x0, n0, c0, x1, x2, x3, h0, h1, h2, h3, h⟩ := h
  exact ⟨x0, n0, c0, x1, x2, x3, h0, h1, h2, h3, hk _ _ _ _ _ _ h⟩
theorem rd_l_i64_i64_i64.of {w : World} {a : Addr} {k : Option Addr → Nat → Nat → Int → Int → Int → Prop} {x0 : Option Addr} {n0 c0 : Nat} {x1 : Int} {x2 : Int} {x3 : Int} (h0 : w.cell? a = some (.slice x0 n0 c0)) (h1 : w.cell? (a.add 1) = some (.int .i64 x1)) (h2 : w.cell? (a.add 2) = some (.int .i64 x2)) (h3 : w.cell? (a.add 3) = some (.int .i64 x3)) (h : k x0 n0 c0 x1 x2 x3) : rd_l_i64_i64_i64 w a k :=
  ⟨x0, n0, c0, x1, x2, x3, h0, h1, h2, h3, h⟩
theorem rd_l_i64_i64_i64.bx (i off : Nat) {w : World} {a Q : Addr} {us : List Value} {L : List (Addr × List Value)} {k : Option Addr → Nat → Nat → Int → Int → Int → Prop} {x0 : Option Addr} {n0 c0 : Nat} {x1 : Int} {x2 : Int} {x3 : Int} (st : St w L) (hL : L[i]? = some (Q, us)) (ha : a = Q.add off) (h0 : us[off + 0]? = some (.slice x0 n0 c0)) (h1 : us[off + 1]? = some (.int .i64 x1)) (h2 : us[off + 2]? = some (.int .i64 x2)) (h3 : us[off + 3]? = some (.int .i64 x3)) (h : k x0 n0 c0 x1 x2 x3) : rd_l_i64_i64_i64 w a k := by
  have hr := st.row hL
  subst ha
  exact ⟨x0, n0, c0, x1, x2, x3, hr.get off h0, (by rw [add_add]; exact hr.get _ h1), (by rw [add_add]; exact hr.get _ h2), (by rw [add_add]; exact hr.get _ h3), h⟩
def rd_l_i64_i64_i64_i64 (w : World) (a : Addr) (k : Option Addr → Nat → Nat → Int → Int → Int → Int → Prop) : Prop := ∃ (x0 : Option Addr) (n0 c0 : Nat), ∃ (x1 : Int), ∃ (x2 : Int), ∃ (x3 : Int), ∃ (x4 : Int), w.cell? a = some (.slice x0 n0 c0) ∧ w.cell? (a.add 1) = some (.int .i64 x1) ∧ w.cell? (a.add 2) = some (.int .i64 x2) ∧ w.cell? (a.add 3) = some (.int .i64 x3) ∧ w.cell? (a.add 4) = some (.int .i64 x4) ∧ k x0 n0 c0 x1 x2 x3 x4
theorem rd_l_i64_i64_i64_i64.mono {w : World} {a : Addr} {k k' : Option Addr → Nat → Nat → Int → Int → Int → Int → Prop} (hk : ∀ (x0 : Option Addr) (n0 c0 : Nat) (x1 : Int) (x2 : Int) (x3 : Int) (x4 : Int), k x0 n0 c0 x1 x2 x3 x4 → k' x0 n0 c0 x1 x2 x3 x4) (h : rd_l_i64_i64_i64_i64 w a k) : rd_l_i64_i64_i64_i64 w a k' := by
  obtain ⟨x0, n0, c0, x1, x2, x3, x4, h0, h1, h2, h3, h4, h⟩ := h
  exact ⟨x0, n0, c0, x1, x2, x3, x4, h0, h1, h2, h3, h4, hk _ _ _ _ _ _ _ h⟩
theorem rd_l_i64_i64_i64_i64.of {w : World} {a : Addr} {k : Option Addr → Nat → Nat → Int → Int → Int → Int → Prop} {x0 : Option Addr} {n0 c0 : Nat} {x1 : Int} {x2 : Int} {x3 : Int} {x4 : Int} (h0 : w.cell? a = some (.slice x0 n0 c0)) (h1 : w.cell? (a.add 1) = some (.int .i64 x1)) (h2 : w.cell? (a.add 2) = some (.int .i64 x2)) (h3 : w.cell? (a.add 3) = some (.int .i64 x3)) (h4 : w.cell? (a.add 4) = some (.int .i64 x4)) (h : k x0 n0 c0 x1 x2 x3 x4) : rd_l_i64_i64_i64_i64 w a k :=
  ⟨x0, n0, c0, x1, x2, x3, x4, h0, h1, h2, h3, h4, h⟩
theorem rd_l_i64_i64_i64_i64.bx (i off : Nat) {w : World} {a Q : Addr} {us : List Value} {L : List (Addr × List Value)} {k : Option Addr → Nat → Nat → Int → Int → Int → Int → Prop} {x0 : Option Addr} {n0 c0 : Nat} {x1 : Int} {x2 : Int} {x3 : Int} {x4 : Int} (st : St w L) (hL : L[i]? = some (Q, us)) (ha : a = Q.add off) (h0 : us[off + 0]? = some (.slice x0 n0 c0)) (h1 : us[off + 1]? = some (.int .i64 x1)) (h2 : us[off + 2]? = some (.int .i64 x2)) (h3 : us[off + 3]? = some (.int .i64 x3)) (h4 : us[off + 4]? = some (.int .i64 x4)) (h : k x0 n0 c0 x1 x2 x3 x4) : rd_l_i64_i64_i64_i64 w a k := by
  have hr := st.row hL
  subst ha
  exact ⟨x0, n0, c0, x1, x2, x3, x4, hr.get off h0, (by rw [add_add]; exact hr.get _ h1), (by rw [add_add]; exact hr.get _ h2), (by rw [add_add]; exact hr.get _ h3), (by rw [add_add]; exact hr.get _ h4), h⟩
def rd_l_i64_i64_i64_i64_l (w : World) (a : Addr) (k : Option Addr → Nat → Nat → Int → Int → Int → Int → Option Addr → Nat → Nat → Prop) : Prop := ∃ (x0 : Option Addr) (n0 c0 : Nat), ∃ (x1 : Int), ∃ (x2 : Int), ∃ (x3 : Int), ∃ (x4 : Int), ∃ (x5 : Option Addr) (n5 c5 : Nat), w.cell? a = some (.slice x0 n0 c0) ∧ w.cell? (a.add 1) = some (.int .i64 x1) ∧ w.cell? (a.add 2) = some (.int .i64 x2) ∧ w.cell? (a.add 3) = some (.int .i64 x3) ∧ w.cell? (a.add 4) = some (.int .i64 x4) ∧ w.cell? (a.add 5) = some (.slice x5 n5 c5) ∧ k x0 n0 c0 x1 x2 x3 x4 x5 n5 c5
theorem rd_l_i64_i64_i64_i64_l.mono {w : World} {a : Addr} {k k' : Option Addr → Nat → Nat → Int → Int → Int → Int → Option Addr → Nat → Nat → Prop} (hk : ∀ (x0 : Option Addr) (n0 c0 : Nat) (x1 : Int) (x2 : Int) (x3 : Int) (x4 : Int) (x5 : Option Addr) (n5 c5 : Nat), k x0 n0 c0 x1 x2 x3 x4 x5 n5 c5 → k' x0 n0 c0 x1 x2 x3 x4 x5 n5 c5) (h : rd_l_i64_i64_i64_i64_l w a k) : rd_l_i64_i64_i64_i64_l w a k' := by
  obtain ⟨x0, n0, c0, x1, x2, x3, x4, x5, n5, c5, h0, h1, h2, h3, h4, h5, h⟩ := h
  exact ⟨x0, n0, c0, x1, x2, x3, x4, x5, n5, c5, h0, h1, h2, h3, h4, h5, hk _ _ _ _ _ _ _ _ _ _ h⟩
theorem rd_l_i64_i64_i64_i64_l.of {w : World} {a : Addr} {k : Option Addr → Nat → Nat → Int → Int → Int → Int → Option Addr → Nat → Nat → Prop} {x0 : Option Addr} {n0 c0 : Nat} {x1 : Int} {x2 : Int} {x3 : Int} {x4 : Int} {x5 : Option Addr} {n5 c5 : Nat} (h0 : w.cell? a = some (.slice x0 n0 c0)) (h1 : w.cell? (a.add 1) = some (.int .i64 x1)) (h2 : w.cell? (a.add 2) = some (.int .i64 x2)) (h3 : w.cell? (a.add 3) = some (.int .i64 x3)) (h4 : w.cell? (a.add 4) = some (.int .i64 x4)) (h5 : w.cell? (a.add 5) = some (.slice x5 n5 c5)) (h : k x0 n0 c0 x1 x2 x3 x4 x5 n5 c5) : rd_l_i64_i64_i64_i64_l w a k :=
  ⟨x0, n0, c0, x1, x2, x3, x4, x5, n5, c5, h0, h1, h2, h3, h4, h5, h⟩
theorem rd_l_i64_i64_i64_i64_l.bx (i off : Nat) {w : World} {a Q : Addr} {us : List Value} {L : List (Addr × List Value)} {k : Option Addr → Nat → Nat → Int → Int → Int → Int → Option Addr → Nat → Nat → Prop} {x0 : Option Addr} {n0 c0 : Nat} {x1 : Int} {x2 : Int} {x3 : Int} {x4 : Int} {x5 : Option Addr} {n5 c5 : Nat} (st : St w L) (hL : L[i]? = some (Q, us)) (ha : a = Q.add off) (h0 : us[off + 0]? = some (.slice x0 n0 c0)) (h1 : us[off + 1]? = some (.int .i64 x1)) (h2 : us[off + 2]? = some (.int .i64 x2)) (h3 : us[off + 3]? = some (.int .i64 x3)) (h4 : us[off + 4]? = some (.int .i64 x4)) (h5 : us[off + 5]? = some (.slice x5 n5 c5)) (h : k x0 n0 c0 x1 x2 x3 x4 x5 n5 c5) : rd_l_i64_i64_i64_i64_l w a k := by
  have hr := st.row hL
  subst ha
  exact ⟨x0, n0, c0, x1, x2, x3, x4, x5, n5, c5, hr.get off h0, (by rw [add_add]; exact hr.get _ h1), (by rw [add_add]; exact hr.get _ h2), (by rw [add_add]; exact hr.get _ h3), (by rw [add_add]; exact hr.get _ h4), (by rw [add_add]; exact hr.get _ h5), h⟩
def rd_l_i64_i64_i64_i64_l_l_i64_i64_i64_i64 (w : World) (a : Addr) (k : Option Addr → Nat → Nat → Int → Int → Int → Int → Option Addr → Nat → Nat → Option Addr → Nat → Nat → Int → Int → Int → Int → Prop) : Prop := ∃ (x0 : Option Addr) (n0 c0 : Nat), ∃ (x1 : Int), ∃ (x2 : Int), ∃ (x3 : Int), ∃ (x4 : Int), ∃ (x5 : Option Addr) (n5 c5 : Nat), ∃ (x6 : Option Addr) (n6 c6 : Nat), ∃ (x7 : Int), ∃ (x8 : Int), ∃ (x9 : Int), ∃ (x10 : Int), w.cell? a = some (.slice x0 n0 c0) ∧ w.cell? (a.add 1) = some (.int .i64 x1) ∧ w.cell? (a.add 2) = some (.int .i64 x2) ∧ w.cell? (a.add 3) = some (.int .i64 x3) ∧ w.cell? (a.add 4) = some (.int .i64 x4) ∧ w.cell? (a.add 5) = some (.slice x5 n5 c5) ∧ w.cell? (a.add 6) = some (.slice x6 n6 c6) ∧ w.cell? (a.add 7) = some (.int .i64 x7) ∧ w.cell? (a.add 8) = some (.int .i64 x8) ∧ w.cell? (a.add 9) = some (.int .i64 x9) ∧ w.cell? (a.add 10) = some (.int .i64 x10) ∧ k x0 n0 c0 x1 x2 x3 x4 x5 n5 c5 x6 n6 c6 x7 x8 x9 x10
theorem rd_l_i64_i64_i64_i64_l_l_i64_i64_i64_i64.mono {w : World} {a : Addr} {k k' : Option Addr → Nat → Nat → Int → Int → Int → Int → Option Addr → Nat → Nat → Option Addr → Nat → Nat → Int → Int → Int → Int → Prop} (hk : ∀ (x0 : Option Addr) (n0 c0 : Nat) (x1 : Int) (x2 : Int) (x3 : Int) (x4 : Int) (x5 : Option Addr) (n5 c5 : Nat) (x6 : Option Addr) (n6 c6 : Nat) (x7 : Int) (x8 : Int) (x9 : Int) (x10 : Int), k x0 n0 c0 x1 x2 x3 x4 x5 n5 c5 x6 n6 c6 x7 x8 x9 x10 → k' x0 n0 c0 x1 x2 x3 x4 x5 n5 c5 x6 n6 c6 x7 x8 x9 x10) (h : rd_l_i64_i64_i64_i64_l_l_i64_i64_i64_i64 w a k) : rd_l_i64_i64_i64_i64_l_l_i64_i64_i64_i64 w a k' := by
  obtain ⟨x0, n0, c0, x1, x2, x3, x4, x5, n5, c5, x6, n6, c6, x7, x8, x9, x10, h0, h1, h2, h3, h4, h5, h6, h7, h8, h9, h10, h⟩ := h
  exact ⟨x0, n0, c0, x1, x2, x3, x4, x5, n5, c5, x6, n6, c6, x7, x8, x9, x10, h0, h1, h2, h3, h4, h5, h6, h7, h8, h9, h10, hk _ _ _ _ _ _ _ _ _ _ _ _ _ _ _ _ _ h⟩
theorem rd_l_i64_i64_i64_i64_l_l_i64_i64_i64_i64.of {w : World} {a : Addr} {k : Option Addr → Nat → Nat → Int → Int → Int → Int → Option Addr → Nat → Nat → Option Addr → Nat → Nat → Int → Int → Int → Int → Prop} {x0 : Option Addr} {n0 c0 : Nat} {x1 : Int} {x2 : Int} {x3 : Int} {x4 : Int} {x5 : Option Addr} {n5 c5 : Nat} {x6 : Option Addr} {n6 c6 : Nat} {x7 : Int} {x8 : Int} {x9 : Int} {x10 : Int} (h0 : w.cell? a = some (.slice x0 n0 c0)) (h1 : w.cell? (a.add 1) = some (.int .i64 x1)) (h2 : w.cell? (a.add 2) = some (.int .i64 x2)) (h3 : w.cell? (a.add 3) = some (.int .i64 x3)) (h4 : w.cell? (a.add 4) = some (.int .i64 x4)) (h5 : w.cell? (a.add 5) = some (.slice x5 n5 c5)) (h6 : w.cell? (a.add 6) = some (.slice x6 n6 c6)) (h7 : w.cell? (a.add 7) = some (.int .i64 x7)) (h8 : w.cell? (a.add 8) = some (.int .i64 x8)) (h9 : w.cell? (a.add 9) = some (.int .i64 x9)) (h10 : w.cell? (a.add 10) = some (.int .i64 x10)) (h : k x0 n0 c0 x1 x2 x3 x4 x5 n5 c5 x6 n6 c6 x7 x8 x9 x10) : rd_l_i64_i64_i64_i64_l_l_i64_i64_i64_i64 w a k :=
  ⟨x0, n0, c0, x1, x2, x3, x4, x5, n5, c5, x6, n6, c6, x7, x8, x9, x10, h0, h1, h2, h3, h4, h5, h6, h7, h8, h9, h10, h⟩
theorem rd_l_i64_i64_i64_i64_l_l_i64_i64_i64_i64.bx (i off : Nat) {w : World} {a Q : Addr} {us : List Value} {L : List (Addr × List Value)} {k : Option Addr → Nat → Nat → Int → Int → Int → Int → Option Addr → Nat → Nat → Option Addr → Nat → Nat → Int → Int → Int → Int → Prop} {x0 : Option Addr} {n0 c0 : Nat} {x1 : Int} {x2 : Int} {x3 : Int} {x4 : Int} {x5 : Option Addr} {n5 c5 : Nat} {x6 : Option Addr} {n6 c6 : Nat} {x7 : Int} {x8 : Int} {x9 : Int} {x10 : Int} (st : St w L) (hL : L[i]? = some (Q, us)) (ha : a = Q.add off) (h0 : us[off + 0]? = some (.slice x0 n0 c0)) (h1 : us[off + 1]? = some (.int .i64 x1)) (h2 : us[off + 2]? = some (.int .i64 x2)) (h3 : us[off + 3]? = some (.int .i64 x3)) (h4 : us[off + 4]? = some (.int .i64 x4)) (h5 : us[off + 5]? = some (.slice x5 n5 c5)) (h6 : us[off + 6]? = some (.slice x6 n6 c6)) (h7 : us[off + 7]? = some (.int .i64 x7)) (h8 : us[off + 8]? = some (.int .i64 x8)) (h9 : us[off + 9]? = some (.int .i64 x9)) (h10 : us[off + 10]? = some (.int .i64 x10)) (h : k x0 n0 c0 x1 x2 x3 x4 x5 n5 c5 x6 n6 c6 x7 x8 x9 x10) : rd_l_i64_i64_i64_i64_l_l_i64_i64_i64_i64 w a k := by
  have hr := st.row hL
  subst ha
  exact ⟨x0, n0, c0, x1, x2, x3, x4, x5, n5, c5, x6, n6, c6, x7, x8, x9, x10, hr.get off h0, (by rw [add_add]; exact hr.get _ h1), (by rw [add_add]; exact hr.get _ h2), (by rw [add_add]; exact hr.get _ h3), (by rw [add_add]; exact hr.get _ h4), (by rw [add_add]; exact hr.get _ h5), (by rw [add_add]; exact hr.get _ h6), (by rw [add_add]; exact hr.get _ h7), (by rw [add_add]; exact hr.get _ h8), (by rw [add_add]; exact hr.get _ h9), (by rw [add_add]; exact hr.get _ h10), h⟩
end Go.Proofs.Ytgdkahbnepafgaa

/-! ### AGlaw19 -/
/- The explicit forms of the functions of one package, and that the calls do what they say. Written by wip/tools/wk2.py. -/
set_option maxHeartbeats 4000000
set_option maxRecDepth 100000
set_option linter.unusedVariables false
namespace Go.Proofs.Ytgdkahbnepafgaa
open Go Go.Wk

/-! ### straightedge/straightedgelaw19.GrowthNear: function 4 -/
def straightedgelaw19_GrowthNear.b15 (K : Value → World → Prop) (h15 : Nat → Option Addr → Option Addr → World → Prop) (h16 : Option Addr → Option Addr → Option Addr → World → Prop) (z7 : Nat) (z9 : Option Addr) (z10 : Option Addr) (w : World) : Prop := ptrSome z9 fun q2 => rd_b_l_i64 w.drew q2 fun b3 a4 n5 c6 i7 => ptrSome z10 fun q8 => rd_b_l_i64 w.drew q8 fun b9 a10 n11 c12 i13 => (straightedgeref02_Of.call [(.float .f64 z7)] w.drew fun v14 w15 => ∃ b16 : Bool, ∃ (a17 : Option Addr) (n18 c19 : Nat), ∃ i20 : Int, v14 = (.agg ⟨[(.bool b16), (.slice a17 n18 c19), (.int .i64 i20)]⟩) ∧ Kept w.drew w15 ∧ (straightedgeref02_D_Mul.call [(.agg ⟨[(.bool b16), (.slice a17 n18 c19), (.int .i64 i20)]⟩), (.agg ⟨[(.bool b3), (.slice a4 n5 c6), (.int .i64 i7)]⟩)] w15 fun v21 w22 => ∃ b23 : Bool, ∃ (a24 : Option Addr) (n25 c26 : Nat), ∃ i27 : Int, v21 = (.agg ⟨[(.bool b23), (.slice a24 n25 c26), (.int .i64 i27)]⟩) ∧ Kept w15 w22 ∧ (straightedgeref02_D_Sub.call [(.agg ⟨[(.bool b23), (.slice a24 n25 c26), (.int .i64 i27)]⟩), (.agg ⟨[(.bool b9), (.slice a10 n11 c12), (.int .i64 i13)]⟩)] w22 fun v28 w29 => ∃ b30 : Bool, ∃ (a31 : Option Addr) (n32 c33 : Nat), ∃ i34 : Int, v28 = (.agg ⟨[(.bool b30), (.slice a31 n32 c33), (.int .i64 i34)]⟩) ∧ (straightedgeref02_D_Abs.call [(.agg ⟨[(.bool b30), (.slice a31 n32 c33), (.int .i64 i34)]⟩)] w29 fun v35 w36 => ∃ b37 : Bool, ∃ (a38 : Option Addr) (n39 c40 : Nat), ∃ i41 : Int, v35 = (.agg ⟨[(.bool b37), (.slice a38 n39 c40), (.int .i64 i41)]⟩) ∧ newB [(.bool false), (.slice none 0 0), (.int .i64 0)] 45 w36 fun q42 w43 => Kept w36 w43 ∧ stPT q42 0 [(.bool b37), (.slice a38 n39 c40), (.int .i64 i41)] w43 fun w44 => h16 z9 z10 (some q42) w44) ∧ (newB [(.bool false), (.slice none 0 0), (.int .i64 0)] 45 w29 fun q45 w46 => Kept w29 w46 ∧ straightedgeref02_D_Abs.call [(.agg ⟨[(.bool b30), (.slice a31 n32 c33), (.int .i64 i34)]⟩)] w46 fun v47 w48 => ∃ b49 : Bool, ∃ (a50 : Option Addr) (n51 c52 : Nat), ∃ i53 : Int, v47 = (.agg ⟨[(.bool b49), (.slice a50 n51 c52), (.int .i64 i53)]⟩) ∧ stPT q45 0 [(.bool b49), (.slice a50 n51 c52), (.int .i64 i53)] w48 fun w54 => h16 z9 z10 (some q45) w54)) ∧ (newB [(.bool false), (.slice none 0 0), (.int .i64 0)] 45 w22 fun q55 w56 => Kept w22 w56 ∧ straightedgeref02_D_Sub.call [(.agg ⟨[(.bool b23), (.slice a24 n25 c26), (.int .i64 i27)]⟩), (.agg ⟨[(.bool b9), (.slice a10 n11 c12), (.int .i64 i13)]⟩)] w56 fun v57 w58 => ∃ b59 : Bool, ∃ (a60 : Option Addr) (n61 c62 : Nat), ∃ i63 : Int, v57 = (.agg ⟨[(.bool b59), (.slice a60 n61 c62), (.int .i64 i63)]⟩) ∧ straightedgeref02_D_Abs.call [(.agg ⟨[(.bool b59), (.slice a60 n61 c62), (.int .i64 i63)]⟩)] w58 fun v64 w65 => ∃ b66 : Bool, ∃ (a67 : Option Addr) (n68 c69 : Nat), ∃ i70 : Int, v64 = (.agg ⟨[(.bool b66), (.slice a67 n68 c69), (.int .i64 i70)]⟩) ∧ stPT q55 0 [(.bool b66), (.slice a67 n68 c69), (.int .i64 i70)] w65 fun w71 => h16 z9 z10 (some q55) w71)) ∧ (newB [(.bool false), (.slice none 0 0), (.int .i64 0)] 45 w15 fun q72 w73 => Kept w15 w73 ∧ straightedgeref02_D_Mul.call [(.agg ⟨[(.bool b16), (.slice a17 n18 c19), (.int .i64 i20)]⟩), (.agg ⟨[(.bool b3), (.slice a4 n5 c6), (.int .i64 i7)]⟩)] w73 fun v74 w75 => ∃ b76 : Bool, ∃ (a77 : Option Addr) (n78 c79 : Nat), ∃ i80 : Int, v74 = (.agg ⟨[(.bool b76), (.slice a77 n78 c79), (.int .i64 i80)]⟩) ∧ Kept w73 w75 ∧ straightedgeref02_D_Sub.call [(.agg ⟨[(.bool b76), (.slice a77 n78 c79), (.int .i64 i80)]⟩), (.agg ⟨[(.bool b9), (.slice a10 n11 c12), (.int .i64 i13)]⟩)] w75 fun v81 w82 => ∃ b83 : Bool, ∃ (a84 : Option Addr) (n85 c86 : Nat), ∃ i87 : Int, v81 = (.agg ⟨[(.bool b83), (.slice a84 n85 c86), (.int .i64 i87)]⟩) ∧ straightedgeref02_D_Abs.call [(.agg ⟨[(.bool b83), (.slice a84 n85 c86), (.int .i64 i87)]⟩)] w82 fun v88 w89 => ∃ b90 : Bool, ∃ (a91 : Option Addr) (n92 c93 : Nat), ∃ i94 : Int, v88 = (.agg ⟨[(.bool b90), (.slice a91 n92 c93), (.int .i64 i94)]⟩) ∧ stPT q72 0 [(.bool b90), (.slice a91 n92 c93), (.int .i64 i94)] w89 fun w95 => h16 z9 z10 (some q72) w95)) ∧ (newB [(.bool false), (.slice none 0 0), (.int .i64 0)] 45 w.drew fun q96 w97 => Kept w.drew w97 ∧ straightedgeref02_Of.call [(.float .f64 z7)] w97 fun v98 w99 => ∃ b100 : Bool, ∃ (a101 : Option Addr) (n102 c103 : Nat), ∃ i104 : Int, v98 = (.agg ⟨[(.bool b100), (.slice a101 n102 c103), (.int .i64 i104)]⟩) ∧ Kept w97 w99 ∧ straightedgeref02_D_Mul.call [(.agg ⟨[(.bool b100), (.slice a101 n102 c103), (.int .i64 i104)]⟩), (.agg ⟨[(.bool b3), (.slice a4 n5 c6), (.int .i64 i7)]⟩)] w99 fun v105 w106 => ∃ b107 : Bool, ∃ (a108 : Option Addr) (n109 c110 : Nat), ∃ i111 : Int, v105 = (.agg ⟨[(.bool b107), (.slice a108 n109 c110), (.int .i64 i111)]⟩) ∧ Kept w99 w106 ∧ straightedgeref02_D_Sub.call [(.agg ⟨[(.bool b107), (.slice a108 n109 c110), (.int .i64 i111)]⟩), (.agg ⟨[(.bool b9), (.slice a10 n11 c12), (.int .i64 i13)]⟩)] w106 fun v112 w113 => ∃ b114 : Bool, ∃ (a115 : Option Addr) (n116 c117 : Nat), ∃ i118 : Int, v112 = (.agg ⟨[(.bool b114), (.slice a115 n116 c117), (.int .i64 i118)]⟩) ∧ straightedgeref02_D_Abs.call [(.agg ⟨[(.bool b114), (.slice a115 n116 c117), (.int .i64 i118)]⟩)] w113 fun v119 w120 => ∃ b121 : Bool, ∃ (a122 : Option Addr) (n123 c124 : Nat), ∃ i125 : Int, v119 = (.agg ⟨[(.bool b121), (.slice a122 n123 c124), (.int .i64 i125)]⟩) ∧ stPT q96 0 [(.bool b121), (.slice a122 n123 c124), (.int .i64 i125)] w120 fun w126 => h16 z9 z10 (some q96) w126)
def straightedgelaw19_GrowthNear.b16 (K : Value → World → Prop) (h15 : Nat → Option Addr → Option Addr → World → Prop) (h16 : Option Addr → Option Addr → Option Addr → World → Prop) (z9 : Option Addr) (z10 : Option Addr) (z11 : Option Addr) (w : World) : Prop := ptrSome z11 fun q2 => rd_b_l_i64 w.drew q2 fun b3 a4 n5 c6 i7 => ptrSome z10 fun q8 => rd_b_l_i64 w.drew q8 fun b9 a10 n11 c12 i13 => ptrSome z9 fun q14 => rd_b_l_i64 w.drew q14 fun b15 a16 n17 c18 i19 => straightedgeref02_D_Shift.call [(.agg ⟨[(.bool b9), (.slice a10 n11 c12), (.int .i64 i13)]⟩), (.int .i64 (-52))] w.drew fun v20 w21 => ∃ b22 : Bool, ∃ (a23 : Option Addr) (n24 c25 : Nat), ∃ i26 : Int, v20 = (.agg ⟨[(.bool b22), (.slice a23 n24 c25), (.int .i64 i26)]⟩) ∧ Kept w.drew w21 ∧ straightedgeref02_D_Shift.call [(.agg ⟨[(.bool b15), (.slice a16 n17 c18), (.int .i64 i19)]⟩), (.int .i64 (-1074))] w21 fun v27 w28 => ∃ b29 : Bool, ∃ (a30 : Option Addr) (n31 c32 : Nat), ∃ i33 : Int, v27 = (.agg ⟨[(.bool b29), (.slice a30 n31 c32), (.int .i64 i33)]⟩) ∧ Kept w21 w28 ∧ straightedgeref02_D_Add.call [(.agg ⟨[(.bool b22), (.slice a23 n24 c25), (.int .i64 i26)]⟩), (.agg ⟨[(.bool b29), (.slice a30 n31 c32), (.int .i64 i33)]⟩)] w28 fun v34 w35 => ∃ b36 : Bool, ∃ (a37 : Option Addr) (n38 c39 : Nat), ∃ i40 : Int, v34 = (.agg ⟨[(.bool b36), (.slice a37 n38 c39), (.int .i64 i40)]⟩) ∧ Kept w28 w35 ∧ straightedgeref02_D_Cmp.call [(.agg ⟨[(.bool b3), (.slice a4 n5 c6), (.int .i64 i7)]⟩), (.agg ⟨[(.bool b36), (.slice a37 n38 c39), (.int .i64 i40)]⟩)] w35 fun v41 w42 => ∃ i43 : Int, v41 = (.int .i64 i43) ∧ br (decide (i43 ≤ 0)) (straightedgelaw19_awake.call [] w42 fun v44 w45 => ∃ b46 : Bool, v44 = (.bool b46) ∧ K (.bool b46) w45) (K (.bool false) w42)
def straightedgelaw19_GrowthNear.H (K : Value → World → Prop) : Nat → (Nat → Option Addr → Option Addr → World → Prop) × (Option Addr → Option Addr → Option Addr → World → Prop)
  | 0 => (fun _ _ _ _ => False, fun _ _ _ _ => False)
  | fu + 1 => (straightedgelaw19_GrowthNear.b15 K (straightedgelaw19_GrowthNear.H K fu).1 (straightedgelaw19_GrowthNear.H K fu).2, straightedgelaw19_GrowthNear.b16 K (straightedgelaw19_GrowthNear.H K fu).1 (straightedgelaw19_GrowthNear.H K fu).2)
def straightedgelaw19_GrowthNear.x (fu : Nat) (A0_0p : Option Addr) (A0_0n A0_0c : Nat) (A0_1 : Int) (A0_2 : Int) (A0_3 : Int) (A0_4 : Int) (w : World) (K : Value → World → Prop) : Prop := newB [(.slice A0_0p A0_0n A0_0c), (.int .i64 A0_1), (.int .i64 A0_2), (.int .i64 A0_3), (.int .i64 A0_4)] 24 w fun q1 w2 => straightedgelaw19_awake.call [] w2 fun v3 w4 => ∃ b5 : Bool, v3 = (.bool b5) ∧ br (!b5) (K (.bool false) w4) (rd_l_i64_i64_i64_i64 w4 q1 fun a6 n7 c8 i9 i10 i11 i12 => straightedgeref03_Great.call [(.agg ⟨[(.slice a6 n7 c8), (.int .i64 i9), (.int .i64 i10), (.int .i64 i11), (.int .i64 i12)]⟩)] w4 fun v13 w14 => ∃ b15 : Bool, v13 = (.bool b15) ∧ br b15 (straightedgelaw19_awake.call [] w14 fun v16 w17 => ∃ b18 : Bool, v16 = (.bool b18) ∧ K (.bool b18) w17) (rd_l_i64_i64_i64_i64 w14 q1 fun a19 n20 c21 i22 i23 i24 i25 => straightedgeref03_Good.call [(.agg ⟨[(.slice a19 n20 c21), (.int .i64 i22), (.int .i64 i23), (.int .i64 i24), (.int .i64 i25)]⟩)] w14 fun v26 w27 => ∃ b28 : Bool, v26 = (.bool b28) ∧ br (!b28) (straightedgelaw19_awake.call [] w27 fun v29 w30 => ∃ b31 : Bool, v29 = (.bool b31) ∧ K (.bool b31) w30) (rd_l_i64_i64_i64_i64 w27 q1 fun a32 n33 c34 i35 i36 i37 i38 => straightedgeref03_Of.call [(.agg ⟨[(.slice a32 n33 c34), (.int .i64 i35), (.int .i64 i36), (.int .i64 i37), (.int .i64 i38)]⟩)] w27 fun v39 w40 => ∃ i41 : Int, ∃ i42 : Int, ∃ (a43 : Option Addr) (n44 c45 : Nat), v39 = (.agg ⟨[(.int .i64 i41), (.int .i64 i42), (.slice a43 n44 c45)]⟩) ∧ straightedgeref01_Finite.call [(.slice a43 n44 c45)] w40 fun v46 w47 => ∃ b48 : Bool, v46 = (.bool b48) ∧ br (!b48) (straightedgelaw19_awake.call [] w47 fun v49 w50 => ∃ b51 : Bool, v49 = (.bool b51) ∧ K (.bool b51) w50) (rd_l_i64_i64_i64_i64 w47 q1 fun a52 n53 c54 i55 i56 i57 i58 => lu_Factor.call [(.agg ⟨[(.slice a52 n53 c54), (.int .i64 i55), (.int .i64 i56), (.int .i64 i57), (.int .i64 i58)]⟩)] w47 fun v59 w60 => ∃ (a61 : Option Addr) (n62 c63 : Nat), ∃ i64 : Int, ∃ i65 : Int, ∃ i66 : Int, ∃ i67 : Int, ∃ (a68 : Option Addr) (n69 c70 : Nat), ∃ i71 : Int, ∃ i72 : Int, v59 = (.tuple ⟨[(.agg ⟨[(.slice a61 n62 c63), (.int .i64 i64), (.int .i64 i65), (.int .i64 i66), (.int .i64 i67), (.slice a68 n69 c70)]⟩), (.int .i64 i71), (.int .i64 i72)]⟩) ∧ newB [(.slice none 0 0), (.int .i64 0), (.int .i64 0), (.int .i64 0), (.int .i64 0), (.slice none 0 0)] 33 w60 fun q73 w74 => stPT q73 0 [(.slice a61 n62 c63), (.int .i64 i64), (.int .i64 i65), (.int .i64 i66), (.int .i64 i67), (.slice a68 n69 c70)] w74 fun w75 => br (i72 != 0) (straightedgelaw19_awake.call [] w75 fun v76 w77 => ∃ b78 : Bool, v76 = (.bool b78) ∧ K (.bool b78) w77) (rd_l_i64_i64_i64_i64 w75 q73 fun a79 n80 c81 i82 i83 i84 i85 => straightedgeref03_Good.call [(.agg ⟨[(.slice a79 n80 c81), (.int .i64 i82), (.int .i64 i83), (.int .i64 i84), (.int .i64 i85)]⟩)] w75 fun v86 w87 => ∃ b88 : Bool, v86 = (.bool b88) ∧ br (!b88) (K (.bool false) w87) (rd_i64 w87 (q73.add 2) fun i89 => rd_i64 w87 (q1.add 2) fun i90 => br (i89 != i90) (K (.bool false) w87) (rd_i64 w87 (q73.add 3) fun i91 => rd_i64 w87 (q1.add 3) fun i92 => br (i91 != i92) (K (.bool false) w87) (rd_l_i64_i64_i64_i64 w87 q73 fun a93 n94 c95 i96 i97 i98 i99 => straightedgeref03_Of.call [(.agg ⟨[(.slice a93 n94 c95), (.int .i64 i96), (.int .i64 i97), (.int .i64 i98), (.int .i64 i99)]⟩)] w87 fun v100 w101 => ∃ i102 : Int, ∃ i103 : Int, ∃ (a104 : Option Addr) (n105 c106 : Nat), v100 = (.agg ⟨[(.int .i64 i102), (.int .i64 i103), (.slice a104 n105 c106)]⟩) ∧ newB [(.int .i64 0), (.int .i64 0), (.slice none 0 0)] 29 w101 fun q107 w108 => stPT q107 0 [(.int .i64 i102), (.int .i64 i103), (.slice a104 n105 c106)] w108 fun w109 => rd_l_i64_i64_i64_i64 w109 q1 fun a110 n111 c112 i113 i114 i115 i116 => rd_l_i64_i64_i64_i64_l w109 q73 fun a117 n118 c119 i120 i121 i122 i123 a124 n125 c126 => growth_Growth.call [(.agg ⟨[(.slice a110 n111 c112), (.int .i64 i113), (.int .i64 i114), (.int .i64 i115), (.int .i64 i116)]⟩), (.agg ⟨[(.slice a117 n118 c119), (.int .i64 i120), (.int .i64 i121), (.int .i64 i122), (.int .i64 i123), (.slice a124 n125 c126)]⟩)] w109 fun v127 w128 => ∃ x129 : Nat, ∃ i130 : Int, v127 = (.tuple ⟨[(.float .f64 x129), (.int .i64 i130)]⟩) ∧ br (i130 != 0) (br (i130 == 0) (straightedgelaw19_awake.call [] w128 fun v131 w132 => ∃ b133 : Bool, v131 = (.bool b133) ∧ K (.bool b133) w132) (K (.bool false) w128)) (newB [(.float .f64 x129)] 38 w128 fun q134 w135 => rd_l w135 (q107.add 2) fun a136 n137 c138 => Raw prog (Builtin.append_ #[22, 22] 22 ⟨[(.slice (some q134) 1 1), (.slice a136 n137 c138)]⟩) w135 fun v139 w140 => ∃ (a141 : Option Addr) (n142 c143 : Nat), v139 = .slice a141 n142 c143 ∧ straightedgeref01_Finite.call [(.slice a141 n142 c143)] w140 fun v144 w145 => ∃ b146 : Bool, v144 = (.bool b146) ∧ br (!b146) (br (i130 == 0) (straightedgelaw19_awake.call [] w145 fun v147 w148 => ∃ b149 : Bool, v147 = (.bool b149) ∧ K (.bool b149) w148) (K (.bool false) w145)) (rd_l_i64_i64_i64_i64 w145.drew q1 fun a151 n152 c153 i154 i155 i156 i157 => rd_i64 w145.drew (q1.add 3) fun i158 => rd_i64_i64_l w145.drew q107 fun i159 i160 a161 n162 c163 => rd_i64 w145.drew q107 fun i164 => (straightedgeref03_Of.call [(.agg ⟨[(.slice a151 n152 c153), (.int .i64 i154), (.int .i64 i155), (.int .i64 i156), (.int .i64 i157)]⟩)] w145.drew fun v165 w166 => ∃ i167 : Int, ∃ i168 : Int, ∃ (a169 : Option Addr) (n170 c171 : Nat), v165 = (.agg ⟨[(.int .i64 i167), (.int .i64 i168), (.slice a169 n170 c171)]⟩) ∧ Kept w145.drew w166 ∧ (straightedgeref19_Most.call [(.agg ⟨[(.int .i64 i167), (.int .i64 i168), (.slice a169 n170 c171)]⟩), (.int .i64 i158), (.bool false)] w166 fun v172 w173 => ∃ x174 : Nat, v172 = (.float .f64 x174) ∧ Kept w166 w173 ∧ (straightedgeref02_Of.call [(.float .f64 x174)] w173 fun v175 w176 => ∃ b177 : Bool, ∃ (a178 : Option Addr) (n179 c180 : Nat), ∃ i181 : Int, v175 = (.agg ⟨[(.bool b177), (.slice a178 n179 c180), (.int .i64 i181)]⟩) ∧ Kept w173 w176 ∧ (straightedgeref19_Most.call [(.agg ⟨[(.int .i64 i159), (.int .i64 i160), (.slice a161 n162 c163)]⟩), (.int .i64 i164), (.bool true)] w176 fun v182 w183 => ∃ x184 : Nat, v182 = (.float .f64 x184) ∧ (straightedgeref02_Of.call [(.float .f64 x184)] w183 fun v185 w186 => ∃ b187 : Bool, ∃ (a188 : Option Addr) (n189 c190 : Nat), ∃ i191 : Int, v185 = (.agg ⟨[(.bool b187), (.slice a188 n189 c190), (.int .i64 i191)]⟩) ∧ (newB [(.bool false), (.slice none 0 0), (.int .i64 0)] 45 w186 fun q192 w193 => Kept w186 w193 ∧ newB [(.bool false), (.slice none 0 0), (.int .i64 0)] 45 w193 fun q194 w195 => Kept w193 w195 ∧ stPT q192 0 [(.bool b177), (.slice a178 n179 c180), (.int .i64 i181)] w195 fun w196 => stPT q194 0 [(.bool b187), (.slice a188 n189 c190), (.int .i64 i191)] w196 fun w197 => (straightedgelaw19_GrowthNear.H K fu).1 x129 (some q192) (some q194) w197) ∧ (newB [(.bool false), (.slice none 0 0), (.int .i64 0)] 45 w186 fun q198 w199 => Kept w186 w199 ∧ newB [(.bool false), (.slice none 0 0), (.int .i64 0)] 45 w199 fun q200 w201 => Kept w199 w201 ∧ stPT q200 0 [(.bool b177), (.slice a178 n179 c180), (.int .i64 i181)] w201 fun w202 => stPT q198 0 [(.bool b187), (.slice a188 n189 c190), (.int .i64 i191)] w202 fun w203 => (straightedgelaw19_GrowthNear.H K fu).1 x129 (some q200) (some q198) w203)) ∧ (newB [(.bool false), (.slice none 0 0), (.int .i64 0)] 45 w183 fun q204 w205 => Kept w183 w205 ∧ (straightedgeref02_Of.call [(.float .f64 x184)] w205 fun v206 w207 => ∃ b208 : Bool, ∃ (a209 : Option Addr) (n210 c211 : Nat), ∃ i212 : Int, v206 = (.agg ⟨[(.bool b208), (.slice a209 n210 c211), (.int .i64 i212)]⟩) ∧ newB [(.bool false), (.slice none 0 0), (.int .i64 0)] 45 w207 fun q213 w214 => Kept w207 w214 ∧ stPT q204 0 [(.bool b177), (.slice a178 n179 c180), (.int .i64 i181)] w214 fun w215 => stPT q213 0 [(.bool b208), (.slice a209 n210 c211), (.int .i64 i212)] w215 fun w216 => (straightedgelaw19_GrowthNear.H K fu).1 x129 (some q204) (some q213) w216) ∧ (newB [(.bool false), (.slice none 0 0), (.int .i64 0)] 45 w205 fun q217 w218 => Kept w205 w218 ∧ straightedgeref02_Of.call [(.float .f64 x184)] w218 fun v219 w220 => ∃ b221 : Bool, ∃ (a222 : Option Addr) (n223 c224 : Nat), ∃ i225 : Int, v219 = (.agg ⟨[(.bool b221), (.slice a222 n223 c224), (.int .i64 i225)]⟩) ∧ stPT q204 0 [(.bool b177), (.slice a178 n179 c180), (.int .i64 i181)] w220 fun w226 => stPT q217 0 [(.bool b221), (.slice a222 n223 c224), (.int .i64 i225)] w226 fun w227 => (straightedgelaw19_GrowthNear.H K fu).1 x129 (some q204) (some q217) w227)) ∧ (newB [(.bool false), (.slice none 0 0), (.int .i64 0)] 45 w183 fun q228 w229 => Kept w183 w229 ∧ (straightedgeref02_Of.call [(.float .f64 x184)] w229 fun v230 w231 => ∃ b232 : Bool, ∃ (a233 : Option Addr) (n234 c235 : Nat), ∃ i236 : Int, v230 = (.agg ⟨[(.bool b232), (.slice a233 n234 c235), (.int .i64 i236)]⟩) ∧ newB [(.bool false), (.slice none 0 0), (.int .i64 0)] 45 w231 fun q237 w238 => Kept w231 w238 ∧ stPT q237 0 [(.bool b177), (.slice a178 n179 c180), (.int .i64 i181)] w238 fun w239 => stPT q228 0 [(.bool b232), (.slice a233 n234 c235), (.int .i64 i236)] w239 fun w240 => (straightedgelaw19_GrowthNear.H K fu).1 x129 (some q237) (some q228) w240) ∧ (newB [(.bool false), (.slice none 0 0), (.int .i64 0)] 45 w229 fun q241 w242 => Kept w229 w242 ∧ straightedgeref02_Of.call [(.float .f64 x184)] w242 fun v243 w244 => ∃ b245 : Bool, ∃ (a246 : Option Addr) (n247 c248 : Nat), ∃ i249 : Int, v243 = (.agg ⟨[(.bool b245), (.slice a246 n247 c248), (.int .i64 i249)]⟩) ∧ stPT q241 0 [(.bool b177), (.slice a178 n179 c180), (.int .i64 i181)] w244 fun w250 => stPT q228 0 [(.bool b245), (.slice a246 n247 c248), (.int .i64 i249)] w250 fun w251 => (straightedgelaw19_GrowthNear.H K fu).1 x129 (some q241) (some q228) w251))) ∧ (newB [(.bool false), (.slice none 0 0), (.int .i64 0)] 45 w176 fun q252 w253 => Kept w176 w253 ∧ (straightedgeref19_Most.call [(.agg ⟨[(.int .i64 i159), (.int .i64 i160), (.slice a161 n162 c163)]⟩), (.int .i64 i164), (.bool true)] w253 fun v254 w255 => ∃ x256 : Nat, v254 = (.float .f64 x256) ∧ (straightedgeref02_Of.call [(.float .f64 x256)] w255 fun v257 w258 => ∃ b259 : Bool, ∃ (a260 : Option Addr) (n261 c262 : Nat), ∃ i263 : Int, v257 = (.agg ⟨[(.bool b259), (.slice a260 n261 c262), (.int .i64 i263)]⟩) ∧ newB [(.bool false), (.slice none 0 0), (.int .i64 0)] 45 w258 fun q264 w265 => Kept w258 w265 ∧ stPT q252 0 [(.bool b177), (.slice a178 n179 c180), (.int .i64 i181)] w265 fun w266 => stPT q264 0 [(.bool b259), (.slice a260 n261 c262), (.int .i64 i263)] w266 fun w267 => (straightedgelaw19_GrowthNear.H K fu).1 x129 (some q252) (some q264) w267) ∧ (newB [(.bool false), (.slice none 0 0), (.int .i64 0)] 45 w255 fun q268 w269 => Kept w255 w269 ∧ straightedgeref02_Of.call [(.float .f64 x256)] w269 fun v270 w271 => ∃ b272 : Bool, ∃ (a273 : Option Addr) (n274 c275 : Nat), ∃ i276 : Int, v270 = (.agg ⟨[(.bool b272), (.slice a273 n274 c275), (.int .i64 i276)]⟩) ∧ stPT q252 0 [(.bool b177), (.slice a178 n179 c180), (.int .i64 i181)] w271 fun w277 => stPT q268 0 [(.bool b272), (.slice a273 n274 c275), (.int .i64 i276)] w277 fun w278 => (straightedgelaw19_GrowthNear.H K fu).1 x129 (some q252) (some q268) w278)) ∧ (newB [(.bool false), (.slice none 0 0), (.int .i64 0)] 45 w253 fun q279 w280 => Kept w253 w280 ∧ straightedgeref19_Most.call [(.agg ⟨[(.int .i64 i159), (.int .i64 i160), (.slice a161 n162 c163)]⟩), (.int .i64 i164), (.bool true)] w280 fun v281 w282 => ∃ x283 : Nat, v281 = (.float .f64 x283) ∧ straightedgeref02_Of.call [(.float .f64 x283)] w282 fun v284 w285 => ∃ b286 : Bool, ∃ (a287 : Option Addr) (n288 c289 : Nat), ∃ i290 : Int, v284 = (.agg ⟨[(.bool b286), (.slice a287 n288 c289), (.int .i64 i290)]⟩) ∧ stPT q252 0 [(.bool b177), (.slice a178 n179 c180), (.int .i64 i181)] w285 fun w291 => stPT q279 0 [(.bool b286), (.slice a287 n288 c289), (.int .i64 i290)] w291 fun w292 => (straightedgelaw19_GrowthNear.H K fu).1 x129 (some q252) (some q279) w292)) ∧ (newB [(.bool false), (.slice none 0 0), (.int .i64 0)] 45 w176 fun q293 w294 => Kept w176 w294 ∧ (straightedgeref19_Most.call [(.agg ⟨[(.int .i64 i159), (.int .i64 i160), (.slice a161 n162 c163)]⟩), (.int .i64 i164), (.bool true)] w294 fun v295 w296 => ∃ x297 : Nat, v295 = (.float .f64 x297) ∧ (straightedgeref02_Of.call [(.float .f64 x297)] w296 fun v298 w299 => ∃ b300 : Bool, ∃ (a301 : Option Addr) (n302 c303 : Nat), ∃ i304 : Int, v298 = (.agg ⟨[(.bool b300), (.slice a301 n302 c303), (.int .i64 i304)]⟩) ∧ newB [(.bool false), (.slice none 0 0), (.int .i64 0)] 45 w299 fun q305 w306 => Kept w299 w306 ∧ stPT q305 0 [(.bool b177), (.slice a178 n179 c180), (.int .i64 i181)] w306 fun w307 => stPT q293 0 [(.bool b300), (.slice a301 n302 c303), (.int .i64 i304)] w307 fun w308 => (straightedgelaw19_GrowthNear.H K fu).1 x129 (some q305) (some q293) w308) ∧ (newB [(.bool false), (.slice none 0 0), (.int .i64 0)] 45 w296 fun q309 w310 => Kept w296 w310 ∧ straightedgeref02_Of.call [(.float .f64 x297)] w310 fun v311 w312 => ∃ b313 : Bool, ∃ (a314 : Option Addr) (n315 c316 : Nat), ∃ i317 : Int, v311 = (.agg ⟨[(.bool b313), (.slice a314 n315 c316), (.int .i64 i317)]⟩) ∧ stPT q309 0 [(.bool b177), (.slice a178 n179 c180), (.int .i64 i181)] w312 fun w318 => stPT q293 0 [(.bool b313), (.slice a314 n315 c316), (.int .i64 i317)] w318 fun w319 => (straightedgelaw19_GrowthNear.H K fu).1 x129 (some q309) (some q293) w319)) ∧ (newB [(.bool false), (.slice none 0 0), (.int .i64 0)] 45 w294 fun q320 w321 => Kept w294 w321 ∧ straightedgeref19_Most.call [(.agg ⟨[(.int .i64 i159), (.int .i64 i160), (.slice a161 n162 c163)]⟩), (.int .i64 i164), (.bool true)] w321 fun v322 w323 => ∃ x324 : Nat, v322 = (.float .f64 x324) ∧ straightedgeref02_Of.call [(.float .f64 x324)] w323 fun v325 w326 => ∃ b327 : Bool, ∃ (a328 : Option Addr) (n329 c330 : Nat), ∃ i331 : Int, v325 = (.agg ⟨[(.bool b327), (.slice a328 n329 c330), (.int .i64 i331)]⟩) ∧ stPT q320 0 [(.bool b177), (.slice a178 n179 c180), (.int .i64 i181)] w326 fun w332 => stPT q293 0 [(.bool b327), (.slice a328 n329 c330), (.int .i64 i331)] w332 fun w333 => (straightedgelaw19_GrowthNear.H K fu).1 x129 (some q320) (some q293) w333))) ∧ (newB [(.bool false), (.slice none 0 0), (.int .i64 0)] 45 w173 fun q334 w335 => Kept w173 w335 ∧ (straightedgeref02_Of.call [(.float .f64 x174)] w335 fun v336 w337 => ∃ b338 : Bool, ∃ (a339 : Option Addr) (n340 c341 : Nat), ∃ i342 : Int, v336 = (.agg ⟨[(.bool b338), (.slice a339 n340 c341), (.int .i64 i342)]⟩) ∧ Kept w335 w337 ∧ (straightedgeref19_Most.call [(.agg ⟨[(.int .i64 i159), (.int .i64 i160), (.slice a161 n162 c163)]⟩), (.int .i64 i164), (.bool true)] w337 fun v343 w344 => ∃ x345 : Nat, v343 = (.float .f64 x345) ∧ (straightedgeref02_Of.call [(.float .f64 x345)] w344 fun v346 w347 => ∃ b348 : Bool, ∃ (a349 : Option Addr) (n350 c351 : Nat), ∃ i352 : Int, v346 = (.agg ⟨[(.bool b348), (.slice a349 n350 c351), (.int .i64 i352)]⟩) ∧ newB [(.bool false), (.slice none 0 0), (.int .i64 0)] 45 w347 fun q353 w354 => Kept w347 w354 ∧ stPT q334 0 [(.bool b338), (.slice a339 n340 c341), (.int .i64 i342)] w354 fun w355 => stPT q353 0 [(.bool b348), (.slice a349 n350 c351), (.int .i64 i352)] w355 fun w356 => (straightedgelaw19_GrowthNear.H K fu).1 x129 (some q334) (some q353) w356) ∧ (newB [(.bool false), (.slice none 0 0), (.int .i64 0)] 45 w344 fun q357 w358 => Kept w344 w358 ∧ straightedgeref02_Of.call [(.float .f64 x345)] w358 fun v359 w360 => ∃ b361 : Bool, ∃ (a362 : Option Addr) (n363 c364 : Nat), ∃ i365 : Int, v359 = (.agg ⟨[(.bool b361), (.slice a362 n363 c364), (.int .i64 i365)]⟩) ∧ stPT q334 0 [(.bool b338), (.slice a339 n340 c341), (.int .i64 i342)] w360 fun w366 => stPT q357 0 [(.bool b361), (.slice a362 n363 c364), (.int .i64 i365)] w366 fun w367 => (straightedgelaw19_GrowthNear.H K fu).1 x129 (some q334) (some q357) w367)) ∧ (newB [(.bool false), (.slice none 0 0), (.int .i64 0)] 45 w337 fun q368 w369 => Kept w337 w369 ∧ straightedgeref19_Most.call [(.agg ⟨[(.int .i64 i159), (.int .i64 i160), (.slice a161 n162 c163)]⟩), (.int .i64 i164), (.bool true)] w369 fun v370 w371 => ∃ x372 : Nat, v370 = (.float .f64 x372) ∧ straightedgeref02_Of.call [(.float .f64 x372)] w371 fun v373 w374 => ∃ b375 : Bool, ∃ (a376 : Option Addr) (n377 c378 : Nat), ∃ i379 : Int, v373 = (.agg ⟨[(.bool b375), (.slice a376 n377 c378), (.int .i64 i379)]⟩) ∧ stPT q334 0 [(.bool b338), (.slice a339 n340 c341), (.int .i64 i342)] w374 fun w380 => stPT q368 0 [(.bool b375), (.slice a376 n377 c378), (.int .i64 i379)] w380 fun w381 => (straightedgelaw19_GrowthNear.H K fu).1 x129 (some q334) (some q368) w381)) ∧ (newB [(.bool false), (.slice none 0 0), (.int .i64 0)] 45 w335 fun q382 w383 => Kept w335 w383 ∧ straightedgeref02_Of.call [(.float .f64 x174)] w383 fun v384 w385 => ∃ b386 : Bool, ∃ (a387 : Option Addr) (n388 c389 : Nat), ∃ i390 : Int, v384 = (.agg ⟨[(.bool b386), (.slice a387 n388 c389), (.int .i64 i390)]⟩) ∧ Kept w383 w385 ∧ straightedgeref19_Most.call [(.agg ⟨[(.int .i64 i159), (.int .i64 i160), (.slice a161 n162 c163)]⟩), (.int .i64 i164), (.bool true)] w385 fun v391 w392 => ∃ x393 : Nat, v391 = (.float .f64 x393) ∧ straightedgeref02_Of.call [(.float .f64 x393)] w392 fun v394 w395 => ∃ b396 : Bool, ∃ (a397 : Option Addr) (n398 c399 : Nat), ∃ i400 : Int, v394 = (.agg ⟨[(.bool b396), (.slice a397 n398 c399), (.int .i64 i400)]⟩) ∧ stPT q334 0 [(.bool b386), (.slice a387 n388 c389), (.int .i64 i390)] w395 fun w401 => stPT q382 0 [(.bool b396), (.slice a397 n398 c399), (.int .i64 i400)] w401 fun w402 => (straightedgelaw19_GrowthNear.H K fu).1 x129 (some q334) (some q382) w402)) ∧ (newB [(.bool false), (.slice none 0 0), (.int .i64 0)] 45 w173 fun q403 w404 => Kept w173 w404 ∧ (straightedgeref02_Of.call [(.float .f64 x174)] w404 fun v405 w406 => ∃ b407 : Bool, ∃ (a408 : Option Addr) (n409 c410 : Nat), ∃ i411 : Int, v405 = (.agg ⟨[(.bool b407), (.slice a408 n409 c410), (.int .i64 i411)]⟩) ∧ Kept w404 w406 ∧ (straightedgeref19_Most.call [(.agg ⟨[(.int .i64 i159), (.int .i64 i160), (.slice a161 n162 c163)]⟩), (.int .i64 i164), (.bool true)] w406 fun v412 w413 => ∃ x414 : Nat, v412 = (.float .f64 x414) ∧ (straightedgeref02_Of.call [(.float .f64 x414)] w413 fun v415 w416 => ∃ b417 : Bool, ∃ (a418 : Option Addr) (n419 c420 : Nat), ∃ i421 : Int, v415 = (.agg ⟨[(.bool b417), (.slice a418 n419 c420), (.int .i64 i421)]⟩) ∧ newB [(.bool false), (.slice none 0 0), (.int .i64 0)] 45 w416 fun q422 w423 => Kept w416 w423 ∧ stPT q422 0 [(.bool b407), (.slice a408 n409 c410), (.int .i64 i411)] w423 fun w424 => stPT q403 0 [(.bool b417), (.slice a418 n419 c420), (.int .i64 i421)] w424 fun w425 => (straightedgelaw19_GrowthNear.H K fu).1 x129 (some q422) (some q403) w425) ∧ (newB [(.bool false), (.slice none 0 0), (.int .i64 0)] 45 w413 fun q426 w427 => Kept w413 w427 ∧ straightedgeref02_Of.call [(.float .f64 x414)] w427 fun v428 w429 => ∃ b430 : Bool, ∃ (a431 : Option Addr) (n432 c433 : Nat), ∃ i434 : Int, v428 = (.agg ⟨[(.bool b430), (.slice a431 n432 c433), (.int .i64 i434)]⟩) ∧ stPT q426 0 [(.bool b407), (.slice a408 n409 c410), (.int .i64 i411)] w429 fun w435 => stPT q403 0 [(.bool b430), (.slice a431 n432 c433), (.int .i64 i434)] w435 fun w436 => (straightedgelaw19_GrowthNear.H K fu).1 x129 (some q426) (some q403) w436)) ∧ (newB [(.bool false), (.slice none 0 0), (.int .i64 0)] 45 w406 fun q437 w438 => Kept w406 w438 ∧ straightedgeref19_Most.call [(.agg ⟨[(.int .i64 i159), (.int .i64 i160), (.slice a161 n162 c163)]⟩), (.int .i64 i164), (.bool true)] w438 fun v439 w440 => ∃ x441 : Nat, v439 = (.float .f64 x441) ∧ straightedgeref02_Of.call [(.float .f64 x441)] w440 fun v442 w443 => ∃ b444 : Bool, ∃ (a445 : Option Addr) (n446 c447 : Nat), ∃ i448 : Int, v442 = (.agg ⟨[(.bool b444), (.slice a445 n446 c447), (.int .i64 i448)]⟩) ∧ stPT q437 0 [(.bool b407), (.slice a408 n409 c410), (.int .i64 i411)] w443 fun w449 => stPT q403 0 [(.bool b444), (.slice a445 n446 c447), (.int .i64 i448)] w449 fun w450 => (straightedgelaw19_GrowthNear.H K fu).1 x129 (some q437) (some q403) w450)) ∧ (newB [(.bool false), (.slice none 0 0), (.int .i64 0)] 45 w404 fun q451 w452 => Kept w404 w452 ∧ straightedgeref02_Of.call [(.float .f64 x174)] w452 fun v453 w454 => ∃ b455 : Bool, ∃ (a456 : Option Addr) (n457 c458 : Nat), ∃ i459 : Int, v453 = (.agg ⟨[(.bool b455), (.slice a456 n457 c458), (.int .i64 i459)]⟩) ∧ Kept w452 w454 ∧ straightedgeref19_Most.call [(.agg ⟨[(.int .i64 i159), (.int .i64 i160), (.slice a161 n162 c163)]⟩), (.int .i64 i164), (.bool true)] w454 fun v460 w461 => ∃ x462 : Nat, v460 = (.float .f64 x462) ∧ straightedgeref02_Of.call [(.float .f64 x462)] w461 fun v463 w464 => ∃ b465 : Bool, ∃ (a466 : Option Addr) (n467 c468 : Nat), ∃ i469 : Int, v463 = (.agg ⟨[(.bool b465), (.slice a466 n467 c468), (.int .i64 i469)]⟩) ∧ stPT q451 0 [(.bool b455), (.slice a456 n457 c458), (.int .i64 i459)] w464 fun w470 => stPT q403 0 [(.bool b465), (.slice a466 n467 c468), (.int .i64 i469)] w470 fun w471 => (straightedgelaw19_GrowthNear.H K fu).1 x129 (some q451) (some q403) w471))) ∧ (newB [(.bool false), (.slice none 0 0), (.int .i64 0)] 45 w166 fun q472 w473 => Kept w166 w473 ∧ (straightedgeref19_Most.call [(.agg ⟨[(.int .i64 i167), (.int .i64 i168), (.slice a169 n170 c171)]⟩), (.int .i64 i158), (.bool false)] w473 fun v474 w475 => ∃ x476 : Nat, v474 = (.float .f64 x476) ∧ Kept w473 w475 ∧ (straightedgeref02_Of.call [(.float .f64 x476)] w475 fun v477 w478 => ∃ b479 : Bool, ∃ (a480 : Option Addr) (n481 c482 : Nat), ∃ i483 : Int, v477 = (.agg ⟨[(.bool b479), (.slice a480 n481 c482), (.int .i64 i483)]⟩) ∧ Kept w475 w478 ∧ (straightedgeref19_Most.call [(.agg ⟨[(.int .i64 i159), (.int .i64 i160), (.slice a161 n162 c163)]⟩), (.int .i64 i164), (.bool true)] w478 fun v484 w485 => ∃ x486 : Nat, v484 = (.float .f64 x486) ∧ (straightedgeref02_Of.call [(.float .f64 x486)] w485 fun v487 w488 => ∃ b489 : Bool, ∃ (a490 : Option Addr) (n491 c492 : Nat), ∃ i493 : Int, v487 = (.agg ⟨[(.bool b489), (.slice a490 n491 c492), (.int .i64 i493)]⟩) ∧ newB [(.bool false), (.slice none 0 0), (.int .i64 0)] 45 w488 fun q494 w495 => Kept w488 w495 ∧ stPT q472 0 [(.bool b479), (.slice a480 n481 c482), (.int .i64 i483)] w495 fun w496 => stPT q494 0 [(.bool b489), (.slice a490 n491 c492), (.int .i64 i493)] w496 fun w497 => (straightedgelaw19_GrowthNear.H K fu).1 x129 (some q472) (some q494) w497) ∧ (newB [(.bool false), (.slice none 0 0), (.int .i64 0)] 45 w485 fun q498 w499 => Kept w485 w499 ∧ straightedgeref02_Of.call [(.float .f64 x486)] w499 fun v500 w501 => ∃ b502 : Bool, ∃ (a503 : Option Addr) (n504 c505 : Nat), ∃ i506 : Int, v500 = (.agg ⟨[(.bool b502), (.slice a503 n504 c505), (.int .i64 i506)]⟩) ∧ stPT q472 0 [(.bool b479), (.slice a480 n481 c482), (.int .i64 i483)] w501 fun w507 => stPT q498 0 [(.bool b502), (.slice a503 n504 c505), (.int .i64 i506)] w507 fun w508 => (straightedgelaw19_GrowthNear.H K fu).1 x129 (some q472) (some q498) w508)) ∧ (newB [(.bool false), (.slice none 0 0), (.int .i64 0)] 45 w478 fun q509 w510 => Kept w478 w510 ∧ straightedgeref19_Most.call [(.agg ⟨[(.int .i64 i159), (.int .i64 i160), (.slice a161 n162 c163)]⟩), (.int .i64 i164), (.bool true)] w510 fun v511 w512 => ∃ x513 : Nat, v511 = (.float .f64 x513) ∧ straightedgeref02_Of.call [(.float .f64 x513)] w512 fun v514 w515 => ∃ b516 : Bool, ∃ (a517 : Option Addr) (n518 c519 : Nat), ∃ i520 : Int, v514 = (.agg ⟨[(.bool b516), (.slice a517 n518 c519), (.int .i64 i520)]⟩) ∧ stPT q472 0 [(.bool b479), (.slice a480 n481 c482), (.int .i64 i483)] w515 fun w521 => stPT q509 0 [(.bool b516), (.slice a517 n518 c519), (.int .i64 i520)] w521 fun w522 => (straightedgelaw19_GrowthNear.H K fu).1 x129 (some q472) (some q509) w522)) ∧ (newB [(.bool false), (.slice none 0 0), (.int .i64 0)] 45 w475 fun q523 w524 => Kept w475 w524 ∧ straightedgeref02_Of.call [(.float .f64 x476)] w524 fun v525 w526 => ∃ b527 : Bool, ∃ (a528 : Option Addr) (n529 c530 : Nat), ∃ i531 : Int, v525 = (.agg ⟨[(.bool b527), (.slice a528 n529 c530), (.int .i64 i531)]⟩) ∧ Kept w524 w526 ∧ straightedgeref19_Most.call [(.agg ⟨[(.int .i64 i159), (.int .i64 i160), (.slice a161 n162 c163)]⟩), (.int .i64 i164), (.bool true)] w526 fun v532 w533 => ∃ x534 : Nat, v532 = (.float .f64 x534) ∧ straightedgeref02_Of.call [(.float .f64 x534)] w533 fun v535 w536 => ∃ b537 : Bool, ∃ (a538 : Option Addr) (n539 c540 : Nat), ∃ i541 : Int, v535 = (.agg ⟨[(.bool b537), (.slice a538 n539 c540), (.int .i64 i541)]⟩) ∧ stPT q472 0 [(.bool b527), (.slice a528 n529 c530), (.int .i64 i531)] w536 fun w542 => stPT q523 0 [(.bool b537), (.slice a538 n539 c540), (.int .i64 i541)] w542 fun w543 => (straightedgelaw19_GrowthNear.H K fu).1 x129 (some q472) (some q523) w543)) ∧ (newB [(.bool false), (.slice none 0 0), (.int .i64 0)] 45 w473 fun q544 w545 => Kept w473 w545 ∧ straightedgeref19_Most.call [(.agg ⟨[(.int .i64 i167), (.int .i64 i168), (.slice a169 n170 c171)]⟩), (.int .i64 i158), (.bool false)] w545 fun v546 w547 => ∃ x548 : Nat, v546 = (.float .f64 x548) ∧ Kept w545 w547 ∧ straightedgeref02_Of.call [(.float .f64 x548)] w547 fun v549 w550 => ∃ b551 : Bool, ∃ (a552 : Option Addr) (n553 c554 : Nat), ∃ i555 : Int, v549 = (.agg ⟨[(.bool b551), (.slice a552 n553 c554), (.int .i64 i555)]⟩) ∧ Kept w547 w550 ∧ straightedgeref19_Most.call [(.agg ⟨[(.int .i64 i159), (.int .i64 i160), (.slice a161 n162 c163)]⟩), (.int .i64 i164), (.bool true)] w550 fun v556 w557 => ∃ x558 : Nat, v556 = (.float .f64 x558) ∧ straightedgeref02_Of.call [(.float .f64 x558)] w557 fun v559 w560 => ∃ b561 : Bool, ∃ (a562 : Option Addr) (n563 c564 : Nat), ∃ i565 : Int, v559 = (.agg ⟨[(.bool b561), (.slice a562 n563 c564), (.int .i64 i565)]⟩) ∧ stPT q472 0 [(.bool b551), (.slice a552 n553 c554), (.int .i64 i555)] w560 fun w566 => stPT q544 0 [(.bool b561), (.slice a562 n563 c564), (.int .i64 i565)] w566 fun w567 => (straightedgelaw19_GrowthNear.H K fu).1 x129 (some q472) (some q544) w567)) ∧ (newB [(.bool false), (.slice none 0 0), (.int .i64 0)] 45 w166 fun q568 w569 => Kept w166 w569 ∧ (straightedgeref19_Most.call [(.agg ⟨[(.int .i64 i167), (.int .i64 i168), (.slice a169 n170 c171)]⟩), (.int .i64 i158), (.bool false)] w569 fun v570 w571 => ∃ x572 : Nat, v570 = (.float .f64 x572) ∧ Kept w569 w571 ∧ (straightedgeref02_Of.call [(.float .f64 x572)] w571 fun v573 w574 => ∃ b575 : Bool, ∃ (a576 : Option Addr) (n577 c578 : Nat), ∃ i579 : Int, v573 = (.agg ⟨[(.bool b575), (.slice a576 n577 c578), (.int .i64 i579)]⟩) ∧ Kept w571 w574 ∧ (straightedgeref19_Most.call [(.agg ⟨[(.int .i64 i159), (.int .i64 i160), (.slice a161 n162 c163)]⟩), (.int .i64 i164), (.bool true)] w574 fun v580 w581 => ∃ x582 : Nat, v580 = (.float .f64 x582) ∧ (straightedgeref02_Of.call [(.float .f64 x582)] w581 fun v583 w584 => ∃ b585 : Bool, ∃ (a586 : Option Addr) (n587 c588 : Nat), ∃ i589 : Int, v583 = (.agg ⟨[(.bool b585), (.slice a586 n587 c588), (.int .i64 i589)]⟩) ∧ newB [(.bool false), (.slice none 0 0), (.int .i64 0)] 45 w584 fun q590 w591 => Kept w584 w591 ∧ stPT q590 0 [(.bool b575), (.slice a576 n577 c578), (.int .i64 i579)] w591 fun w592 => stPT q568 0 [(.bool b585), (.slice a586 n587 c588), (.int .i64 i589)] w592 fun w593 => (straightedgelaw19_GrowthNear.H K fu).1 x129 (some q590) (some q568) w593) ∧ (newB [(.bool false), (.slice none 0 0), (.int .i64 0)] 45 w581 fun q594 w595 => Kept w581 w595 ∧ straightedgeref02_Of.call [(.float .f64 x582)] w595 fun v596 w597 => ∃ b598 : Bool, ∃ (a599 : Option Addr) (n600 c601 : Nat), ∃ i602 : Int, v596 = (.agg ⟨[(.bool b598), (.slice a599 n600 c601), (.int .i64 i602)]⟩) ∧ stPT q594 0 [(.bool b575), (.slice a576 n577 c578), (.int .i64 i579)] w597 fun w603 => stPT q568 0 [(.bool b598), (.slice a599 n600 c601), (.int .i64 i602)] w603 fun w604 => (straightedgelaw19_GrowthNear.H K fu).1 x129 (some q594) (some q568) w604)) ∧ (newB [(.bool false), (.slice none 0 0), (.int .i64 0)] 45 w574 fun q605 w606 => Kept w574 w606 ∧ straightedgeref19_Most.call [(.agg ⟨[(.int .i64 i159), (.int .i64 i160), (.slice a161 n162 c163)]⟩), (.int .i64 i164), (.bool true)] w606 fun v607 w608 => ∃ x609 : Nat, v607 = (.float .f64 x609) ∧ straightedgeref02_Of.call [(.float .f64 x609)] w608 fun v610 w611 => ∃ b612 : Bool, ∃ (a613 : Option Addr) (n614 c615 : Nat), ∃ i616 : Int, v610 = (.agg ⟨[(.bool b612), (.slice a613 n614 c615), (.int .i64 i616)]⟩) ∧ stPT q605 0 [(.bool b575), (.slice a576 n577 c578), (.int .i64 i579)] w611 fun w617 => stPT q568 0 [(.bool b612), (.slice a613 n614 c615), (.int .i64 i616)] w617 fun w618 => (straightedgelaw19_GrowthNear.H K fu).1 x129 (some q605) (some q568) w618)) ∧ (newB [(.bool false), (.slice none 0 0), (.int .i64 0)] 45 w571 fun q619 w620 => Kept w571 w620 ∧ straightedgeref02_Of.call [(.float .f64 x572)] w620 fun v621 w622 => ∃ b623 : Bool, ∃ (a624 : Option Addr) (n625 c626 : Nat), ∃ i627 : Int, v621 = (.agg ⟨[(.bool b623), (.slice a624 n625 c626), (.int .i64 i627)]⟩) ∧ Kept w620 w622 ∧ straightedgeref19_Most.call [(.agg ⟨[(.int .i64 i159), (.int .i64 i160), (.slice a161 n162 c163)]⟩), (.int .i64 i164), (.bool true)] w622 fun v628 w629 => ∃ x630 : Nat, v628 = (.float .f64 x630) ∧ straightedgeref02_Of.call [(.float .f64 x630)] w629 fun v631 w632 => ∃ b633 : Bool, ∃ (a634 : Option Addr) (n635 c636 : Nat), ∃ i637 : Int, v631 = (.agg ⟨[(.bool b633), (.slice a634 n635 c636), (.int .i64 i637)]⟩) ∧ stPT q619 0 [(.bool b623), (.slice a624 n625 c626), (.int .i64 i627)] w632 fun w638 => stPT q568 0 [(.bool b633), (.slice a634 n635 c636), (.int .i64 i637)] w638 fun w639 => (straightedgelaw19_GrowthNear.H K fu).1 x129 (some q619) (some q568) w639)) ∧ (newB [(.bool false), (.slice none 0 0), (.int .i64 0)] 45 w569 fun q640 w641 => Kept w569 w641 ∧ straightedgeref19_Most.call [(.agg ⟨[(.int .i64 i167), (.int .i64 i168), (.slice a169 n170 c171)]⟩), (.int .i64 i158), (.bool false)] w641 fun v642 w643 => ∃ x644 : Nat, v642 = (.float .f64 x644) ∧ Kept w641 w643 ∧ straightedgeref02_Of.call [(.float .f64 x644)] w643 fun v645 w646 => ∃ b647 : Bool, ∃ (a648 : Option Addr) (n649 c650 : Nat), ∃ i651 : Int, v645 = (.agg ⟨[(.bool b647), (.slice a648 n649 c650), (.int .i64 i651)]⟩) ∧ Kept w643 w646 ∧ straightedgeref19_Most.call [(.agg ⟨[(.int .i64 i159), (.int .i64 i160), (.slice a161 n162 c163)]⟩), (.int .i64 i164), (.bool true)] w646 fun v652 w653 => ∃ x654 : Nat, v652 = (.float .f64 x654) ∧ straightedgeref02_Of.call [(.float .f64 x654)] w653 fun v655 w656 => ∃ b657 : Bool, ∃ (a658 : Option Addr) (n659 c660 : Nat), ∃ i661 : Int, v655 = (.agg ⟨[(.bool b657), (.slice a658 n659 c660), (.int .i64 i661)]⟩) ∧ stPT q640 0 [(.bool b647), (.slice a648 n649 c650), (.int .i64 i651)] w656 fun w662 => stPT q568 0 [(.bool b657), (.slice a658 n659 c660), (.int .i64 i661)] w662 fun w663 => (straightedgelaw19_GrowthNear.H K fu).1 x129 (some q640) (some q568) w663))) ∧ (newB [(.bool false), (.slice none 0 0), (.int .i64 0)] 45 w145.drew fun q664 w665 => Kept w145.drew w665 ∧ (straightedgeref03_Of.call [(.agg ⟨[(.slice a151 n152 c153), (.int .i64 i154), (.int .i64 i155), (.int .i64 i156), (.int .i64 i157)]⟩)] w665 fun v666 w667 => ∃ i668 : Int, ∃ i669 : Int, ∃ (a670 : Option Addr) (n671 c672 : Nat), v666 = (.agg ⟨[(.int .i64 i668), (.int .i64 i669), (.slice a670 n671 c672)]⟩) ∧ Kept w665 w667 ∧ (straightedgeref19_Most.call [(.agg ⟨[(.int .i64 i668), (.int .i64 i669), (.slice a670 n671 c672)]⟩), (.int .i64 i158), (.bool false)] w667 fun v673 w674 => ∃ x675 : Nat, v673 = (.float .f64 x675) ∧ Kept w667 w674 ∧ (straightedgeref02_Of.call [(.float .f64 x675)] w674 fun v676 w677 => ∃ b678 : Bool, ∃ (a679 : Option Addr) (n680 c681 : Nat), ∃ i682 : Int, v676 = (.agg ⟨[(.bool b678), (.slice a679 n680 c681), (.int .i64 i682)]⟩) ∧ Kept w674 w677 ∧ (straightedgeref19_Most.call [(.agg ⟨[(.int .i64 i159), (.int .i64 i160), (.slice a161 n162 c163)]⟩), (.int .i64 i164), (.bool true)] w677 fun v683 w684 => ∃ x685 : Nat, v683 = (.float .f64 x685) ∧ (straightedgeref02_Of.call [(.float .f64 x685)] w684 fun v686 w687 => ∃ b688 : Bool, ∃ (a689 : Option Addr) (n690 c691 : Nat), ∃ i692 : Int, v686 = (.agg ⟨[(.bool b688), (.slice a689 n690 c691), (.int .i64 i692)]⟩) ∧ newB [(.bool false), (.slice none 0 0), (.int .i64 0)] 45 w687 fun q693 w694 => Kept w687 w694 ∧ stPT q664 0 [(.bool b678), (.slice a679 n680 c681), (.int .i64 i682)] w694 fun w695 => stPT q693 0 [(.bool b688), (.slice a689 n690 c691), (.int .i64 i692)] w695 fun w696 => (straightedgelaw19_GrowthNear.H K fu).1 x129 (some q664) (some q693) w696) ∧ (newB [(.bool false), (.slice none 0 0), (.int .i64 0)] 45 w684 fun q697 w698 => Kept w684 w698 ∧ straightedgeref02_Of.call [(.float .f64 x685)] w698 fun v699 w700 => ∃ b701 : Bool, ∃ (a702 : Option Addr) (n703 c704 : Nat), ∃ i705 : Int, v699 = (.agg ⟨[(.bool b701), (.slice a702 n703 c704), (.int .i64 i705)]⟩) ∧ stPT q664 0 [(.bool b678), (.slice a679 n680 c681), (.int .i64 i682)] w700 fun w706 => stPT q697 0 [(.bool b701), (.slice a702 n703 c704), (.int .i64 i705)] w706 fun w707 => (straightedgelaw19_GrowthNear.H K fu).1 x129 (some q664) (some q697) w707)) ∧ (newB [(.bool false), (.slice none 0 0), (.int .i64 0)] 45 w677 fun q708 w709 => Kept w677 w709 ∧ straightedgeref19_Most.call [(.agg ⟨[(.int .i64 i159), (.int .i64 i160), (.slice a161 n162 c163)]⟩), (.int .i64 i164), (.bool true)] w709 fun v710 w711 => ∃ x712 : Nat, v710 = (.float .f64 x712) ∧ straightedgeref02_Of.call [(.float .f64 x712)] w711 fun v713 w714 => ∃ b715 : Bool, ∃ (a716 : Option Addr) (n717 c718 : Nat), ∃ i719 : Int, v713 = (.agg ⟨[(.bool b715), (.slice a716 n717 c718), (.int .i64 i719)]⟩) ∧ stPT q664 0 [(.bool b678), (.slice a679 n680 c681), (.int .i64 i682)] w714 fun w720 => stPT q708 0 [(.bool b715), (.slice a716 n717 c718), (.int .i64 i719)] w720 fun w721 => (straightedgelaw19_GrowthNear.H K fu).1 x129 (some q664) (some q708) w721)) ∧ (newB [(.bool false), (.slice none 0 0), (.int .i64 0)] 45 w674 fun q722 w723 => Kept w674 w723 ∧ straightedgeref02_Of.call [(.float .f64 x675)] w723 fun v724 w725 => ∃ b726 : Bool, ∃ (a727 : Option Addr) (n728 c729 : Nat), ∃ i730 : Int, v724 = (.agg ⟨[(.bool b726), (.slice a727 n728 c729), (.int .i64 i730)]⟩) ∧ Kept w723 w725 ∧ straightedgeref19_Most.call [(.agg ⟨[(.int .i64 i159), (.int .i64 i160), (.slice a161 n162 c163)]⟩), (.int .i64 i164), (.bool true)] w725 fun v731 w732 => ∃ x733 : Nat, v731 = (.float .f64 x733) ∧ straightedgeref02_Of.call [(.float .f64 x733)] w732 fun v734 w735 => ∃ b736 : Bool, ∃ (a737 : Option Addr) (n738 c739 : Nat), ∃ i740 : Int, v734 = (.agg ⟨[(.bool b736), (.slice a737 n738 c739), (.int .i64 i740)]⟩) ∧ stPT q664 0 [(.bool b726), (.slice a727 n728 c729), (.int .i64 i730)] w735 fun w741 => stPT q722 0 [(.bool b736), (.slice a737 n738 c739), (.int .i64 i740)] w741 fun w742 => (straightedgelaw19_GrowthNear.H K fu).1 x129 (some q664) (some q722) w742)) ∧ (newB [(.bool false), (.slice none 0 0), (.int .i64 0)] 45 w667 fun q743 w744 => Kept w667 w744 ∧ straightedgeref19_Most.call [(.agg ⟨[(.int .i64 i668), (.int .i64 i669), (.slice a670 n671 c672)]⟩), (.int .i64 i158), (.bool false)] w744 fun v745 w746 => ∃ x747 : Nat, v745 = (.float .f64 x747) ∧ Kept w744 w746 ∧ straightedgeref02_Of.call [(.float .f64 x747)] w746 fun v748 w749 => ∃ b750 : Bool, ∃ (a751 : Option Addr) (n752 c753 : Nat), ∃ i754 : Int, v748 = (.agg ⟨[(.bool b750), (.slice a751 n752 c753), (.int .i64 i754)]⟩) ∧ Kept w746 w749 ∧ straightedgeref19_Most.call [(.agg ⟨[(.int .i64 i159), (.int .i64 i160), (.slice a161 n162 c163)]⟩), (.int .i64 i164), (.bool true)] w749 fun v755 w756 => ∃ x757 : Nat, v755 = (.float .f64 x757) ∧ straightedgeref02_Of.call [(.float .f64 x757)] w756 fun v758 w759 => ∃ b760 : Bool, ∃ (a761 : Option Addr) (n762 c763 : Nat), ∃ i764 : Int, v758 = (.agg ⟨[(.bool b760), (.slice a761 n762 c763), (.int .i64 i764)]⟩) ∧ stPT q664 0 [(.bool b750), (.slice a751 n752 c753), (.int .i64 i754)] w759 fun w765 => stPT q743 0 [(.bool b760), (.slice a761 n762 c763), (.int .i64 i764)] w765 fun w766 => (straightedgelaw19_GrowthNear.H K fu).1 x129 (some q664) (some q743) w766)) ∧ (newB [(.bool false), (.slice none 0 0), (.int .i64 0)] 45 w665 fun q767 w768 => Kept w665 w768 ∧ straightedgeref03_Of.call [(.agg ⟨[(.slice a151 n152 c153), (.int .i64 i154), (.int .i64 i155), (.int .i64 i156), (.int .i64 i157)]⟩)] w768 fun v769 w770 => ∃ i771 : Int, ∃ i772 : Int, ∃ (a773 : Option Addr) (n774 c775 : Nat), v769 = (.agg ⟨[(.int .i64 i771), (.int .i64 i772), (.slice a773 n774 c775)]⟩) ∧ Kept w768 w770 ∧ straightedgeref19_Most.call [(.agg ⟨[(.int .i64 i771), (.int .i64 i772), (.slice a773 n774 c775)]⟩), (.int .i64 i158), (.bool false)] w770 fun v776 w777 => ∃ x778 : Nat, v776 = (.float .f64 x778) ∧ Kept w770 w777 ∧ straightedgeref02_Of.call [(.float .f64 x778)] w777 fun v779 w780 => ∃ b781 : Bool, ∃ (a782 : Option Addr) (n783 c784 : Nat), ∃ i785 : Int, v779 = (.agg ⟨[(.bool b781), (.slice a782 n783 c784), (.int .i64 i785)]⟩) ∧ Kept w777 w780 ∧ straightedgeref19_Most.call [(.agg ⟨[(.int .i64 i159), (.int .i64 i160), (.slice a161 n162 c163)]⟩), (.int .i64 i164), (.bool true)] w780 fun v786 w787 => ∃ x788 : Nat, v786 = (.float .f64 x788) ∧ straightedgeref02_Of.call [(.float .f64 x788)] w787 fun v789 w790 => ∃ b791 : Bool, ∃ (a792 : Option Addr) (n793 c794 : Nat), ∃ i795 : Int, v789 = (.agg ⟨[(.bool b791), (.slice a792 n793 c794), (.int .i64 i795)]⟩) ∧ stPT q664 0 [(.bool b781), (.slice a782 n783 c784), (.int .i64 i785)] w790 fun w796 => stPT q767 0 [(.bool b791), (.slice a792 n793 c794), (.int .i64 i795)] w796 fun w797 => (straightedgelaw19_GrowthNear.H K fu).1 x129 (some q664) (some q767) w797)) ∧ (newB [(.bool false), (.slice none 0 0), (.int .i64 0)] 45 w145.drew fun q798 w799 => Kept w145.drew w799 ∧ (straightedgeref03_Of.call [(.agg ⟨[(.slice a151 n152 c153), (.int .i64 i154), (.int .i64 i155), (.int .i64 i156), (.int .i64 i157)]⟩)] w799 fun v800 w801 => ∃ i802 : Int, ∃ i803 : Int, ∃ (a804 : Option Addr) (n805 c806 : Nat), v800 = (.agg ⟨[(.int .i64 i802), (.int .i64 i803), (.slice a804 n805 c806)]⟩) ∧ Kept w799 w801 ∧ (straightedgeref19_Most.call [(.agg ⟨[(.int .i64 i802), (.int .i64 i803), (.slice a804 n805 c806)]⟩), (.int .i64 i158), (.bool false)] w801 fun v807 w808 => ∃ x809 : Nat, v807 = (.float .f64 x809) ∧ Kept w801 w808 ∧ (straightedgeref02_Of.call [(.float .f64 x809)] w808 fun v810 w811 => ∃ b812 : Bool, ∃ (a813 : Option Addr) (n814 c815 : Nat), ∃ i816 : Int, v810 = (.agg ⟨[(.bool b812), (.slice a813 n814 c815), (.int .i64 i816)]⟩) ∧ Kept w808 w811 ∧ (straightedgeref19_Most.call [(.agg ⟨[(.int .i64 i159), (.int .i64 i160), (.slice a161 n162 c163)]⟩), (.int .i64 i164), (.bool true)] w811 fun v817 w818 => ∃ x819 : Nat, v817 = (.float .f64 x819) ∧ (straightedgeref02_Of.call [(.float .f64 x819)] w818 fun v820 w821 => ∃ b822 : Bool, ∃ (a823 : Option Addr) (n824 c825 : Nat), ∃ i826 : Int, v820 = (.agg ⟨[(.bool b822), (.slice a823 n824 c825), (.int .i64 i826)]⟩) ∧ newB [(.bool false), (.slice none 0 0), (.int .i64 0)] 45 w821 fun q827 w828 => Kept w821 w828 ∧ stPT q827 0 [(.bool b812), (.slice a813 n814 c815), (.int .i64 i816)] w828 fun w829 => stPT q798 0 [(.bool b822), (.slice a823 n824 c825), (.int .i64 i826)] w829 fun w830 => (straightedgelaw19_GrowthNear.H K fu).1 x129 (some q827) (some q798) w830) ∧ (newB [(.bool false), (.slice none 0 0), (.int .i64 0)] 45 w818 fun q831 w832 => Kept w818 w832 ∧ straightedgeref02_Of.call [(.float .f64 x819)] w832 fun v833 w834 => ∃ b835 : Bool, ∃ (a836 : Option Addr) (n837 c838 : Nat), ∃ i839 : Int, v833 = (.agg ⟨[(.bool b835), (.slice a836 n837 c838), (.int .i64 i839)]⟩) ∧ stPT q831 0 [(.bool b812), (.slice a813 n814 c815), (.int .i64 i816)] w834 fun w840 => stPT q798 0 [(.bool b835), (.slice a836 n837 c838), (.int .i64 i839)] w840 fun w841 => (straightedgelaw19_GrowthNear.H K fu).1 x129 (some q831) (some q798) w841)) ∧ (newB [(.bool false), (.slice none 0 0), (.int .i64 0)] 45 w811 fun q842 w843 => Kept w811 w843 ∧ straightedgeref19_Most.call [(.agg ⟨[(.int .i64 i159), (.int .i64 i160), (.slice a161 n162 c163)]⟩), (.int .i64 i164), (.bool true)] w843 fun v844 w845 => ∃ x846 : Nat, v844 = (.float .f64 x846) ∧ straightedgeref02_Of.call [(.float .f64 x846)] w845 fun v847 w848 => ∃ b849 : Bool, ∃ (a850 : Option Addr) (n851 c852 : Nat), ∃ i853 : Int, v847 = (.agg ⟨[(.bool b849), (.slice a850 n851 c852), (.int .i64 i853)]⟩) ∧ stPT q842 0 [(.bool b812), (.slice a813 n814 c815), (.int .i64 i816)] w848 fun w854 => stPT q798 0 [(.bool b849), (.slice a850 n851 c852), (.int .i64 i853)] w854 fun w855 => (straightedgelaw19_GrowthNear.H K fu).1 x129 (some q842) (some q798) w855)) ∧ (newB [(.bool false), (.slice none 0 0), (.int .i64 0)] 45 w808 fun q856 w857 => Kept w808 w857 ∧ straightedgeref02_Of.call [(.float .f64 x809)] w857 fun v858 w859 => ∃ b860 : Bool, ∃ (a861 : Option Addr) (n862 c863 : Nat), ∃ i864 : Int, v858 = (.agg ⟨[(.bool b860), (.slice a861 n862 c863), (.int .i64 i864)]⟩) ∧ Kept w857 w859 ∧ straightedgeref19_Most.call [(.agg ⟨[(.int .i64 i159), (.int .i64 i160), (.slice a161 n162 c163)]⟩), (.int .i64 i164), (.bool true)] w859 fun v865 w866 => ∃ x867 : Nat, v865 = (.float .f64 x867) ∧ straightedgeref02_Of.call [(.float .f64 x867)] w866 fun v868 w869 => ∃ b870 : Bool, ∃ (a871 : Option Addr) (n872 c873 : Nat), ∃ i874 : Int, v868 = (.agg ⟨[(.bool b870), (.slice a871 n872 c873), (.int .i64 i874)]⟩) ∧ stPT q856 0 [(.bool b860), (.slice a861 n862 c863), (.int .i64 i864)] w869 fun w875 => stPT q798 0 [(.bool b870), (.slice a871 n872 c873), (.int .i64 i874)] w875 fun w876 => (straightedgelaw19_GrowthNear.H K fu).1 x129 (some q856) (some q798) w876)) ∧ (newB [(.bool false), (.slice none 0 0), (.int .i64 0)] 45 w801 fun q877 w878 => Kept w801 w878 ∧ straightedgeref19_Most.call [(.agg ⟨[(.int .i64 i802), (.int .i64 i803), (.slice a804 n805 c806)]⟩), (.int .i64 i158), (.bool false)] w878 fun v879 w880 => ∃ x881 : Nat, v879 = (.float .f64 x881) ∧ Kept w878 w880 ∧ straightedgeref02_Of.call [(.float .f64 x881)] w880 fun v882 w883 => ∃ b884 : Bool, ∃ (a885 : Option Addr) (n886 c887 : Nat), ∃ i888 : Int, v882 = (.agg ⟨[(.bool b884), (.slice a885 n886 c887), (.int .i64 i888)]⟩) ∧ Kept w880 w883 ∧ straightedgeref19_Most.call [(.agg ⟨[(.int .i64 i159), (.int .i64 i160), (.slice a161 n162 c163)]⟩), (.int .i64 i164), (.bool true)] w883 fun v889 w890 => ∃ x891 : Nat, v889 = (.float .f64 x891) ∧ straightedgeref02_Of.call [(.float .f64 x891)] w890 fun v892 w893 => ∃ b894 : Bool, ∃ (a895 : Option Addr) (n896 c897 : Nat), ∃ i898 : Int, v892 = (.agg ⟨[(.bool b894), (.slice a895 n896 c897), (.int .i64 i898)]⟩) ∧ stPT q877 0 [(.bool b884), (.slice a885 n886 c887), (.int .i64 i888)] w893 fun w899 => stPT q798 0 [(.bool b894), (.slice a895 n896 c897), (.int .i64 i898)] w899 fun w900 => (straightedgelaw19_GrowthNear.H K fu).1 x129 (some q877) (some q798) w900)) ∧ (newB [(.bool false), (.slice none 0 0), (.int .i64 0)] 45 w799 fun q901 w902 => Kept w799 w902 ∧ straightedgeref03_Of.call [(.agg ⟨[(.slice a151 n152 c153), (.int .i64 i154), (.int .i64 i155), (.int .i64 i156), (.int .i64 i157)]⟩)] w902 fun v903 w904 => ∃ i905 : Int, ∃ i906 : Int, ∃ (a907 : Option Addr) (n908 c909 : Nat), v903 = (.agg ⟨[(.int .i64 i905), (.int .i64 i906), (.slice a907 n908 c909)]⟩) ∧ Kept w902 w904 ∧ straightedgeref19_Most.call [(.agg ⟨[(.int .i64 i905), (.int .i64 i906), (.slice a907 n908 c909)]⟩), (.int .i64 i158), (.bool false)] w904 fun v910 w911 => ∃ x912 : Nat, v910 = (.float .f64 x912) ∧ Kept w904 w911 ∧ straightedgeref02_Of.call [(.float .f64 x912)] w911 fun v913 w914 => ∃ b915 : Bool, ∃ (a916 : Option Addr) (n917 c918 : Nat), ∃ i919 : Int, v913 = (.agg ⟨[(.bool b915), (.slice a916 n917 c918), (.int .i64 i919)]⟩) ∧ Kept w911 w914 ∧ straightedgeref19_Most.call [(.agg ⟨[(.int .i64 i159), (.int .i64 i160), (.slice a161 n162 c163)]⟩), (.int .i64 i164), (.bool true)] w914 fun v920 w921 => ∃ x922 : Nat, v920 = (.float .f64 x922) ∧ straightedgeref02_Of.call [(.float .f64 x922)] w921 fun v923 w924 => ∃ b925 : Bool, ∃ (a926 : Option Addr) (n927 c928 : Nat), ∃ i929 : Int, v923 = (.agg ⟨[(.bool b925), (.slice a926 n927 c928), (.int .i64 i929)]⟩) ∧ stPT q901 0 [(.bool b915), (.slice a916 n917 c918), (.int .i64 i919)] w924 fun w930 => stPT q798 0 [(.bool b925), (.slice a926 n927 c928), (.int .i64 i929)] w930 fun w931 => (straightedgelaw19_GrowthNear.H K fu).1 x129 (some q901) (some q798) w931))))))))))))
def straightedgelaw19_GrowthNear.hd (K : Value → World → Prop) (n id : Nat) (t : List Value) (w : World) : Prop :=
  match id with
  | 15 => asF .f64 (t.getD 7 undef) fun z7 => asP (t.getD 9 undef) fun z9 => asP (t.getD 10 undef) fun z10 => (straightedgelaw19_GrowthNear.H K n).1 z7 z9 z10 w
  | 16 => asP (t.getD 9 undef) fun z9 => asP (t.getD 10 undef) fun z10 => asP (t.getD 11 undef) fun z11 => (straightedgelaw19_GrowthNear.H K n).2 z9 z10 z11 w
  | _ => False
theorem straightedgelaw19_GrowthNear.t15 (K : Value → World → Prop) (n : Nat) (z7 : Nat) (z9 : Option Addr) (z10 : Option Addr) (u : Nat → Value) (w : World) (h : (straightedgelaw19_GrowthNear.H K (n + 1)).1 z7 z9 z10 w) :
    exT prog [15, 16] (straightedgelaw19_GrowthNear.hd K n) Try.f4 15 112 [(7, (.float .f64 z7)), (9, (.pointer z9)), (10, (.pointer z10))] u w K := Eq.mp (by kernel_rfl) h
theorem straightedgelaw19_GrowthNear.t16 (K : Value → World → Prop) (n : Nat) (z9 : Option Addr) (z10 : Option Addr) (z11 : Option Addr) (u : Nat → Value) (w : World) (h : (straightedgelaw19_GrowthNear.H K (n + 1)).2 z9 z10 z11 w) :
    exT prog [15, 16] (straightedgelaw19_GrowthNear.hd K n) Try.f4 16 112 [(9, (.pointer z9)), (10, (.pointer z10)), (11, (.pointer z11))] u w K := Eq.mp (by kernel_rfl) h
theorem straightedgelaw19_GrowthNear.ok (fu : Nat) {A0_0p : Option Addr} {A0_0n A0_0c : Nat} {A0_1 : Int} {A0_2 : Int} {A0_3 : Int} {A0_4 : Int} {w : World} {K : Value → World → Prop} (h : straightedgelaw19_GrowthNear.x fu A0_0p A0_0n A0_0c A0_1 A0_2 A0_3 A0_4 w K) : straightedgelaw19_GrowthNear.call [(.agg ⟨[(.slice A0_0p A0_0n A0_0c), (.int .i64 A0_1), (.int .i64 A0_2), (.int .i64 A0_3), (.int .i64 A0_4)]⟩)] w K := by
  refine callF_of_ex (cuts := [15, 16]) (H := straightedgelaw19_GrowthNear.hd K) (N := 112) Try.func4 rfl mixed (by kernel_rfl) ?_ ?_ ?_ rfl (n := fu) (Eq.mp (by kernel_rfl) h)
  · intro id hid; simp only [List.mem_cons, List.not_mem_nil, or_false] at hid; rcases hid with rfl | rfl
    · exact (by kernel_rfl : (stacks (bodyOf Try.f4) []).filter (headIs 15) = [at_ (bodyOf Try.f4) 15])
    · exact (by kernel_rfl : (stacks (bodyOf Try.f4) []).filter (headIs 16) = [at_ (bodyOf Try.f4) 16])
  · intro id t w h
    unfold straightedgelaw19_GrowthNear.hd at h
    split at h
    · obtain ⟨z7, _, h⟩ := asF_elim h
      obtain ⟨z9, _, h⟩ := asP_elim h
      obtain ⟨z10, _, h⟩ := asP_elim h
      exact h
    · obtain ⟨z9, _, h⟩ := asP_elim h
      obtain ⟨z10, _, h⟩ := asP_elim h
      obtain ⟨z11, _, h⟩ := asP_elim h
      exact h
    · exact h
  · intro n id hid t w hl h; simp only [List.mem_cons, List.not_mem_nil, or_false] at hid; rcases hid with rfl | rfl
    · replace h : asF .f64 (t.getD 7 undef) fun z7 => asP (t.getD 9 undef) fun z9 => asP (t.getD 10 undef) fun z10 => (straightedgelaw19_GrowthNear.H K (n + 1)).1 z7 z9 z10 w := h
      obtain ⟨z7, e7, h⟩ := asF_elim h
      obtain ⟨z9, e9, h⟩ := asP_elim h
      obtain ⟨z10, e10, h⟩ := asP_elim h
      rw [mk_of hl [(7, (.float .f64 z7)), (9, (.pointer z9)), (10, (.pointer z10))] (by simp only [List.forall_mem_cons, List.not_mem_nil, false_implies, implies_true, and_true]; exact ⟨e7, e9, e10⟩)]
      exact straightedgelaw19_GrowthNear.t15 K n z7 z9 z10 _ w h
    · replace h : asP (t.getD 9 undef) fun z9 => asP (t.getD 10 undef) fun z10 => asP (t.getD 11 undef) fun z11 => (straightedgelaw19_GrowthNear.H K (n + 1)).2 z9 z10 z11 w := h
      obtain ⟨z9, e9, h⟩ := asP_elim h
      obtain ⟨z10, e10, h⟩ := asP_elim h
      obtain ⟨z11, e11, h⟩ := asP_elim h
      rw [mk_of hl [(9, (.pointer z9)), (10, (.pointer z10)), (11, (.pointer z11))] (by simp only [List.forall_mem_cons, List.not_mem_nil, false_implies, implies_true, and_true]; exact ⟨e9, e10, e11⟩)]
      exact straightedgelaw19_GrowthNear.t16 K n z9 z10 z11 _ w h
/-! the same, the local variables taken out -/
def straightedgelaw19_GrowthNear.e15 (K : Value → World → Prop) (h15 : Nat → Nat → Bool → Option Addr → Nat → Nat → Int → Nat → Bool → Option Addr → Nat → Nat → Int → World → Prop) (h16 : Nat → Bool → Option Addr → Nat → Nat → Int → Nat → Bool → Option Addr → Nat → Nat → Int → Nat → Bool → Option Addr → Nat → Nat → Int → World → Prop) (z7 : Nat) (k9 : Nat) (y9_0 : Bool) (y9_1p : Option Addr) (y9_1n y9_1c : Nat) (y9_2 : Int) (k10 : Nat) (y10_0 : Bool) (y10_1p : Option Addr) (y10_1n y10_1c : Nat) (y10_2 : Int) (w : World) : Prop := ∀ w14 : World, Ext w.drew w14 → straightedgeref02_Of.call [(.float .f64 z7)] w14 fun v15 w16 => Ext w14 w16 ∧ ∃ b17 : Bool, ∃ (a18 : Option Addr) (n19 c20 : Nat), ∃ i21 : Int, v15 = (.agg ⟨[(.bool b17), (.slice a18 n19 c20), (.int .i64 i21)]⟩) ∧ ∀ w22 : World, Ext w16 w22 → straightedgeref02_D_Mul.call [(.agg ⟨[(.bool b17), (.slice a18 n19 c20), (.int .i64 i21)]⟩), (.agg ⟨[(.bool y9_0), (.slice y9_1p y9_1n y9_1c), (.int .i64 y9_2)]⟩)] w22 fun v23 w24 => Ext w22 w24 ∧ ∃ b25 : Bool, ∃ (a26 : Option Addr) (n27 c28 : Nat), ∃ i29 : Int, v23 = (.agg ⟨[(.bool b25), (.slice a26 n27 c28), (.int .i64 i29)]⟩) ∧ ∀ w30 : World, Ext w24 w30 → straightedgeref02_D_Sub.call [(.agg ⟨[(.bool b25), (.slice a26 n27 c28), (.int .i64 i29)]⟩), (.agg ⟨[(.bool y10_0), (.slice y10_1p y10_1n y10_1c), (.int .i64 y10_2)]⟩)] w30 fun v31 w32 => Ext w30 w32 ∧ ∃ b33 : Bool, ∃ (a34 : Option Addr) (n35 c36 : Nat), ∃ i37 : Int, v31 = (.agg ⟨[(.bool b33), (.slice a34 n35 c36), (.int .i64 i37)]⟩) ∧ ∀ w38 : World, Ext w32 w38 → straightedgeref02_D_Abs.call [(.agg ⟨[(.bool b33), (.slice a34 n35 c36), (.int .i64 i37)]⟩)] w38 fun v39 w40 => Ext w38 w40 ∧ ∃ b41 : Bool, ∃ (a42 : Option Addr) (n43 c44 : Nat), ∃ i45 : Int, v39 = (.agg ⟨[(.bool b41), (.slice a42 n43 c44), (.int .i64 i45)]⟩) ∧ ∀ w46 : World, Ext w40 w46 → ∀ k48 : Nat, w.drew.heap.size ≤ k48 → k48 < w46.heap.size → (k48 < w14.heap.size ∨ w16.heap.size ≤ k48) → (k48 < w22.heap.size ∨ w24.heap.size ≤ k48) → (k48 < w30.heap.size ∨ w32.heap.size ≤ k48) → (k48 < w38.heap.size ∨ w40.heap.size ≤ k48) → ∀ w50 : World, Exc k48 w46 w50 → h16 k9 y9_0 y9_1p y9_1n y9_1c y9_2 k10 y10_0 y10_1p y10_1n y10_1c y10_2 k48 b41 a42 n43 c44 i45 w50
def straightedgelaw19_GrowthNear.e16 (K : Value → World → Prop) (h15 : Nat → Nat → Bool → Option Addr → Nat → Nat → Int → Nat → Bool → Option Addr → Nat → Nat → Int → World → Prop) (h16 : Nat → Bool → Option Addr → Nat → Nat → Int → Nat → Bool → Option Addr → Nat → Nat → Int → Nat → Bool → Option Addr → Nat → Nat → Int → World → Prop) (k9 : Nat) (y9_0 : Bool) (y9_1p : Option Addr) (y9_1n y9_1c : Nat) (y9_2 : Int) (k10 : Nat) (y10_0 : Bool) (y10_1p : Option Addr) (y10_1n y10_1c : Nat) (y10_2 : Int) (k11 : Nat) (y11_0 : Bool) (y11_1p : Option Addr) (y11_1n y11_1c : Nat) (y11_2 : Int) (w : World) : Prop := straightedgeref02_D_Shift.call [(.agg ⟨[(.bool y10_0), (.slice y10_1p y10_1n y10_1c), (.int .i64 y10_2)]⟩), (.int .i64 (-52))] w.drew fun v20 w21 => Stay [k9, k10, k11] w.drew w21 ∧ ∃ b22 : Bool, ∃ (a23 : Option Addr) (n24 c25 : Nat), ∃ i26 : Int, v20 = (.agg ⟨[(.bool b22), (.slice a23 n24 c25), (.int .i64 i26)]⟩) ∧ Kept w.drew w21 ∧ straightedgeref02_D_Shift.call [(.agg ⟨[(.bool y9_0), (.slice y9_1p y9_1n y9_1c), (.int .i64 y9_2)]⟩), (.int .i64 (-1074))] w21 fun v27 w28 => Stay [k9, k10, k11] w21 w28 ∧ ∃ b29 : Bool, ∃ (a30 : Option Addr) (n31 c32 : Nat), ∃ i33 : Int, v27 = (.agg ⟨[(.bool b29), (.slice a30 n31 c32), (.int .i64 i33)]⟩) ∧ Kept w21 w28 ∧ straightedgeref02_D_Add.call [(.agg ⟨[(.bool b22), (.slice a23 n24 c25), (.int .i64 i26)]⟩), (.agg ⟨[(.bool b29), (.slice a30 n31 c32), (.int .i64 i33)]⟩)] w28 fun v34 w35 => Stay [k9, k10, k11] w28 w35 ∧ ∃ b36 : Bool, ∃ (a37 : Option Addr) (n38 c39 : Nat), ∃ i40 : Int, v34 = (.agg ⟨[(.bool b36), (.slice a37 n38 c39), (.int .i64 i40)]⟩) ∧ Kept w28 w35 ∧ straightedgeref02_D_Cmp.call [(.agg ⟨[(.bool y11_0), (.slice y11_1p y11_1n y11_1c), (.int .i64 y11_2)]⟩), (.agg ⟨[(.bool b36), (.slice a37 n38 c39), (.int .i64 i40)]⟩)] w35 fun v41 w42 => Stay [k9, k10, k11] w35 w42 ∧ ∃ i43 : Int, v41 = (.int .i64 i43) ∧ br (decide (i43 ≤ 0)) (straightedgelaw19_awake.call [] w42 fun v44 w45 => Stay [k9, k10, k11] w42 w45 ∧ ∃ b46 : Bool, v44 = (.bool b46) ∧ K (.bool b46) w45) (K (.bool false) w42)
def straightedgelaw19_GrowthNear.I (K : Value → World → Prop) : Nat → (Nat → Nat → Bool → Option Addr → Nat → Nat → Int → Nat → Bool → Option Addr → Nat → Nat → Int → World → Prop) × (Nat → Bool → Option Addr → Nat → Nat → Int → Nat → Bool → Option Addr → Nat → Nat → Int → Nat → Bool → Option Addr → Nat → Nat → Int → World → Prop)
  | 0 => (fun _ _ _ _ _ _ _ _ _ _ _ _ _ _ => False, fun _ _ _ _ _ _ _ _ _ _ _ _ _ _ _ _ _ _ _ => False)
  | fu + 1 => (straightedgelaw19_GrowthNear.e15 K (straightedgelaw19_GrowthNear.I K fu).1 (straightedgelaw19_GrowthNear.I K fu).2, straightedgelaw19_GrowthNear.e16 K (straightedgelaw19_GrowthNear.I K fu).1 (straightedgelaw19_GrowthNear.I K fu).2)
def straightedgelaw19_GrowthNear.s (fu : Nat) (A0_0p : Option Addr) (A0_0n A0_0c : Nat) (A0_1 : Int) (A0_2 : Int) (A0_3 : Int) (A0_4 : Int) (w : World) (K : Value → World → Prop) : Prop := ∀ (k3 : Nat) (w2 : World), k3 = w.heap.size → k3 < w2.heap.size → Ext w w2 → straightedgelaw19_awake.call [] w2 fun v5 w6 => Stay [k3] w2 w6 ∧ ∃ b7 : Bool, v5 = (.bool b7) ∧ br (!b7) (K (.bool false) w6) (straightedgeref03_Great.call [(.agg ⟨[(.slice A0_0p A0_0n A0_0c), (.int .i64 A0_1), (.int .i64 A0_2), (.int .i64 A0_3), (.int .i64 A0_4)]⟩)] w6 fun v15 w16 => Stay [k3] w6 w16 ∧ ∃ b17 : Bool, v15 = (.bool b17) ∧ br b17 (straightedgelaw19_awake.call [] w16 fun v18 w19 => Stay [k3] w16 w19 ∧ ∃ b20 : Bool, v18 = (.bool b20) ∧ K (.bool b20) w19) (straightedgeref03_Good.call [(.agg ⟨[(.slice A0_0p A0_0n A0_0c), (.int .i64 A0_1), (.int .i64 A0_2), (.int .i64 A0_3), (.int .i64 A0_4)]⟩)] w16 fun v28 w29 => Stay [k3] w16 w29 ∧ ∃ b30 : Bool, v28 = (.bool b30) ∧ br (!b30) (straightedgelaw19_awake.call [] w29 fun v31 w32 => Stay [k3] w29 w32 ∧ ∃ b33 : Bool, v31 = (.bool b33) ∧ K (.bool b33) w32) (straightedgeref03_Of.call [(.agg ⟨[(.slice A0_0p A0_0n A0_0c), (.int .i64 A0_1), (.int .i64 A0_2), (.int .i64 A0_3), (.int .i64 A0_4)]⟩)] w29 fun v41 w42 => Stay [k3] w29 w42 ∧ ∃ i43 : Int, ∃ i44 : Int, ∃ (a45 : Option Addr) (n46 c47 : Nat), v41 = (.agg ⟨[(.int .i64 i43), (.int .i64 i44), (.slice a45 n46 c47)]⟩) ∧ straightedgeref01_Finite.call [(.slice a45 n46 c47)] w42 fun v48 w49 => Stay [k3] w42 w49 ∧ ∃ b50 : Bool, v48 = (.bool b50) ∧ br (!b50) (straightedgelaw19_awake.call [] w49 fun v51 w52 => Stay [k3] w49 w52 ∧ ∃ b53 : Bool, v51 = (.bool b53) ∧ K (.bool b53) w52) (lu_Factor.call [(.agg ⟨[(.slice A0_0p A0_0n A0_0c), (.int .i64 A0_1), (.int .i64 A0_2), (.int .i64 A0_3), (.int .i64 A0_4)]⟩)] w49 fun v61 w62 => Stay [k3] w49 w62 ∧ ∃ (a63 : Option Addr) (n64 c65 : Nat), ∃ i66 : Int, ∃ i67 : Int, ∃ i68 : Int, ∃ i69 : Int, ∃ (a70 : Option Addr) (n71 c72 : Nat), ∃ i73 : Int, ∃ i74 : Int, v61 = (.tuple ⟨[(.agg ⟨[(.slice a63 n64 c65), (.int .i64 i66), (.int .i64 i67), (.int .i64 i68), (.int .i64 i69), (.slice a70 n71 c72)]⟩), (.int .i64 i73), (.int .i64 i74)]⟩) ∧ ∀ (k77 : Nat) (w76 : World), k77 = w62.heap.size → k77 < w76.heap.size → Ext w62 w76 → ∀ w79 : World, Exc k77 w76 w79 → br (i74 != 0) (straightedgelaw19_awake.call [] w79 fun v80 w81 => Stay [k77, k3] w79 w81 ∧ ∃ b82 : Bool, v80 = (.bool b82) ∧ K (.bool b82) w81) (straightedgeref03_Good.call [(.agg ⟨[(.slice a63 n64 c65), (.int .i64 i66), (.int .i64 i67), (.int .i64 i68), (.int .i64 i69)]⟩)] w79 fun v90 w91 => Stay [k77, k3] w79 w91 ∧ ∃ b92 : Bool, v90 = (.bool b92) ∧ br (!b92) (K (.bool false) w91) (br (i67 != A0_2) (K (.bool false) w91) (br (i68 != A0_3) (K (.bool false) w91) (straightedgeref03_Of.call [(.agg ⟨[(.slice a63 n64 c65), (.int .i64 i66), (.int .i64 i67), (.int .i64 i68), (.int .i64 i69)]⟩)] w91 fun v104 w105 => Stay [k77, k3] w91 w105 ∧ ∃ i106 : Int, ∃ i107 : Int, ∃ (a108 : Option Addr) (n109 c110 : Nat), v104 = (.agg ⟨[(.int .i64 i106), (.int .i64 i107), (.slice a108 n109 c110)]⟩) ∧ ∀ (k113 : Nat) (w112 : World), k113 = w105.heap.size → k113 < w112.heap.size → Ext w105 w112 → ∀ w115 : World, Exc k113 w112 w115 → growth_Growth.call [(.agg ⟨[(.slice A0_0p A0_0n A0_0c), (.int .i64 A0_1), (.int .i64 A0_2), (.int .i64 A0_3), (.int .i64 A0_4)]⟩), (.agg ⟨[(.slice a63 n64 c65), (.int .i64 i66), (.int .i64 i67), (.int .i64 i68), (.int .i64 i69), (.slice a70 n71 c72)]⟩)] w115 fun v133 w134 => Stay [k113, k77, k3] w115 w134 ∧ ∃ x135 : Nat, ∃ i136 : Int, v133 = (.tuple ⟨[(.float .f64 x135), (.int .i64 i136)]⟩) ∧ br (i136 != 0) (br (i136 == 0) (straightedgelaw19_awake.call [] w134 fun v137 w138 => Stay [k113, k77, k3] w134 w138 ∧ ∃ b139 : Bool, v137 = (.bool b139) ∧ K (.bool b139) w138) (K (.bool false) w134)) (newB [(.float .f64 x135)] 38 w134 fun q140 w141 => Raw prog (Builtin.append_ #[22, 22] 22 ⟨[(.slice (some q140) 1 1), (.slice a108 n109 c110)]⟩) w141 fun v145 w146 => Stay [k113, k77, k3] w141 w146 ∧ ∃ (a147 : Option Addr) (n148 c149 : Nat), v145 = .slice a147 n148 c149 ∧ straightedgeref01_Finite.call [(.slice a147 n148 c149)] w146 fun v150 w151 => Stay [k113, k77, k3] w146 w151 ∧ ∃ b152 : Bool, v150 = (.bool b152) ∧ br (!b152) (br (i136 == 0) (straightedgelaw19_awake.call [] w151 fun v153 w154 => Stay [k113, k77, k3] w151 w154 ∧ ∃ b155 : Bool, v153 = (.bool b155) ∧ K (.bool b155) w154) (K (.bool false) w151)) (∀ w171 : World, Ext w151.drew w171 → straightedgeref03_Of.call [(.agg ⟨[(.slice A0_0p A0_0n A0_0c), (.int .i64 A0_1), (.int .i64 A0_2), (.int .i64 A0_3), (.int .i64 A0_4)]⟩)] w171 fun v172 w173 => Ext w171 w173 ∧ ∃ i174 : Int, ∃ i175 : Int, ∃ (a176 : Option Addr) (n177 c178 : Nat), v172 = (.agg ⟨[(.int .i64 i174), (.int .i64 i175), (.slice a176 n177 c178)]⟩) ∧ ∀ w179 : World, Ext w173 w179 → straightedgeref19_Most.call [(.agg ⟨[(.int .i64 i174), (.int .i64 i175), (.slice a176 n177 c178)]⟩), (.int .i64 A0_3), (.bool false)] w179 fun v180 w181 => Ext w179 w181 ∧ ∃ x182 : Nat, v180 = (.float .f64 x182) ∧ ∀ w183 : World, Ext w181 w183 → straightedgeref02_Of.call [(.float .f64 x182)] w183 fun v184 w185 => Ext w183 w185 ∧ ∃ b186 : Bool, ∃ (a187 : Option Addr) (n188 c189 : Nat), ∃ i190 : Int, v184 = (.agg ⟨[(.bool b186), (.slice a187 n188 c189), (.int .i64 i190)]⟩) ∧ ∀ w191 : World, Ext w185 w191 → straightedgeref19_Most.call [(.agg ⟨[(.int .i64 i106), (.int .i64 i107), (.slice a108 n109 c110)]⟩), (.int .i64 i106), (.bool true)] w191 fun v192 w193 => Ext w191 w193 ∧ ∃ x194 : Nat, v192 = (.float .f64 x194) ∧ ∀ w195 : World, Ext w193 w195 → straightedgeref02_Of.call [(.float .f64 x194)] w195 fun v196 w197 => Ext w195 w197 ∧ ∃ b198 : Bool, ∃ (a199 : Option Addr) (n200 c201 : Nat), ∃ i202 : Int, v196 = (.agg ⟨[(.bool b198), (.slice a199 n200 c201), (.int .i64 i202)]⟩) ∧ ∀ w203 : World, Ext w197 w203 → ∀ k205 : Nat, w151.drew.heap.size ≤ k205 → k205 < w203.heap.size → (k205 < w171.heap.size ∨ w173.heap.size ≤ k205) → (k205 < w179.heap.size ∨ w181.heap.size ≤ k205) → (k205 < w183.heap.size ∨ w185.heap.size ≤ k205) → (k205 < w191.heap.size ∨ w193.heap.size ≤ k205) → (k205 < w195.heap.size ∨ w197.heap.size ≤ k205) → ∀ k208 : Nat, w151.drew.heap.size ≤ k208 → k208 < w203.heap.size → (k208 < w171.heap.size ∨ w173.heap.size ≤ k208) → (k208 < w179.heap.size ∨ w181.heap.size ≤ k208) → (k208 < w183.heap.size ∨ w185.heap.size ≤ k208) → (k208 < w191.heap.size ∨ w193.heap.size ≤ k208) → (k208 < w195.heap.size ∨ w197.heap.size ≤ k208) → k205 ≠ k208 → ∀ w210 : World, Exc k205 w203 w210 → ∀ w211 : World, Exc k208 w210 w211 → (straightedgelaw19_GrowthNear.I K fu).1 x135 k205 b186 a187 n188 c189 i190 k208 b198 a199 n200 c201 i202 w211))))))))))
theorem straightedgelaw19_GrowthNear.b15_s {K : Value → World → Prop} {x15 : Nat → Option Addr → Option Addr → World → Prop} {x16 : Option Addr → Option Addr → Option Addr → World → Prop} {s15 : Nat → Nat → Bool → Option Addr → Nat → Nat → Int → Nat → Bool → Option Addr → Nat → Nat → Int → World → Prop} {s16 : Nat → Bool → Option Addr → Nat → Nat → Int → Nat → Bool → Option Addr → Nat → Nat → Int → Nat → Bool → Option Addr → Nat → Nat → Int → World → Prop} (i15 : ∀ {z7 : Nat} {q9 : Addr} {y9_0 : Bool} {y9_1p : Option Addr} {y9_1n y9_1c : Nat} {y9_2 : Int} {q10 : Addr} {y10_0 : Bool} {y10_1p : Option Addr} {y10_1n y10_1c : Nat} {y10_2 : Int} {w : World}, s15 z7 q9.block y9_0 y9_1p y9_1n y9_1c y9_2 q10.block y10_0 y10_1p y10_1n y10_1c y10_2 w → St w [(q9, [(.bool y9_0), (.slice y9_1p y9_1n y9_1c), (.int .i64 y9_2)]), (q10, [(.bool y10_0), (.slice y10_1p y10_1n y10_1c), (.int .i64 y10_2)])] → x15 z7 (some q9) (some q10) w) (i16 : ∀ {q9 : Addr} {y9_0 : Bool} {y9_1p : Option Addr} {y9_1n y9_1c : Nat} {y9_2 : Int} {q10 : Addr} {y10_0 : Bool} {y10_1p : Option Addr} {y10_1n y10_1c : Nat} {y10_2 : Int} {q11 : Addr} {y11_0 : Bool} {y11_1p : Option Addr} {y11_1n y11_1c : Nat} {y11_2 : Int} {w : World}, s16 q9.block y9_0 y9_1p y9_1n y9_1c y9_2 q10.block y10_0 y10_1p y10_1n y10_1c y10_2 q11.block y11_0 y11_1p y11_1n y11_1c y11_2 w → St w [(q9, [(.bool y9_0), (.slice y9_1p y9_1n y9_1c), (.int .i64 y9_2)]), (q10, [(.bool y10_0), (.slice y10_1p y10_1n y10_1c), (.int .i64 y10_2)]), (q11, [(.bool y11_0), (.slice y11_1p y11_1n y11_1c), (.int .i64 y11_2)])] → x16 (some q9) (some q10) (some q11) w) {z7 : Nat} {q9 : Addr} {y9_0 : Bool} {y9_1p : Option Addr} {y9_1n y9_1c : Nat} {y9_2 : Int} {q10 : Addr} {y10_0 : Bool} {y10_1p : Option Addr} {y10_1n y10_1c : Nat} {y10_2 : Int} {w : World} (h : straightedgelaw19_GrowthNear.e15 K s15 s16 z7 q9.block y9_0 y9_1p y9_1n y9_1c y9_2 q10.block y10_0 y10_1p y10_1n y10_1c y10_2 w) (st : St w [(q9, [(.bool y9_0), (.slice y9_1p y9_1n y9_1c), (.int .i64 y9_2)]), (q10, [(.bool y10_0), (.slice y10_1p y10_1n y10_1c), (.int .i64 y10_2)])]) : straightedgelaw19_GrowthNear.b15 K x15 x16 z7 (some q9) (some q10) w := by
  unfold straightedgelaw19_GrowthNear.b15
  unfold straightedgelaw19_GrowthNear.e15 at h
  replace st := st.drew
  have st1 := st
  refine ptrSome_intro rfl ?_
  refine rd_b_l_i64.bx 0 0 st1 rfl rfl rfl rfl rfl ?_
  refine ptrSome_intro rfl ?_
  refine rd_b_l_i64.bx 1 0 st1 rfl rfl rfl rfl rfl ?_
  refine ⟨?_, ?_⟩
  · replace h := h _ (Ext.refl _)
    refine CallF.mono h (fun v15 w16 h => ?_)
    obtain ⟨hE1, h⟩ := h
    replace st := st.ext hE1
    obtain ⟨b17, a18, n19, c20, i21, h⟩ := h
    refine ⟨b17, a18, n19, c20, i21, ?_⟩
    refine And.imp_right (fun h => ?_) h
    refine ⟨hE1.kept, ?_⟩
    refine ⟨?_, ?_⟩
    · replace h := h _ (Ext.refl _)
      refine CallF.mono h (fun v23 w24 h => ?_)
      obtain ⟨hE3, h⟩ := h
      replace st := st.ext hE3
      obtain ⟨b25, a26, n27, c28, i29, h⟩ := h
      refine ⟨b25, a26, n27, c28, i29, ?_⟩
      refine And.imp_right (fun h => ?_) h
      refine ⟨hE3.kept, ?_⟩
      refine ⟨?_, ?_⟩
      · replace h := h _ (Ext.refl _)
        refine CallF.mono h (fun v31 w32 h => ?_)
        obtain ⟨hE5, h⟩ := h
        replace st := st.ext hE5
        obtain ⟨b33, a34, n35, c36, i37, h⟩ := h
        refine ⟨b33, a34, n35, c36, i37, ?_⟩
        refine And.imp_right (fun h => ?_) h
        refine ⟨?_, ?_⟩
        · replace h := h _ (Ext.refl _)
          refine CallF.mono h (fun v39 w40 h => ?_)
          obtain ⟨hE6, h⟩ := h
          replace st := st.ext hE6
          obtain ⟨b41, a42, n43, c44, i45, h⟩ := h
          refine ⟨b41, a42, n43, c44, i45, ?_⟩
          refine And.imp_right (fun h => ?_) h
          refine St.new st (fun q49 w51 hk7 hlt7 he7 st => ?_)
          refine ⟨he7.kept, ?_⟩
          replace h := h _ he7 q49.block (Nat.le_trans ((Ext.trans (Ext.trans (Ext.trans hE1 hE3) hE5) hE6)).size (Nat.le_of_eq hk7.symm)) (st.row (i := 0) rfl).lt (.inr (Nat.le_trans ((Ext.trans (Ext.trans hE3 hE5) hE6)).size (Nat.le_of_eq hk7.symm))) (.inr (Nat.le_trans ((Ext.trans hE5 hE6)).size (Nat.le_of_eq hk7.symm))) (.inr (Nat.le_trans (hE6).size (Nat.le_of_eq hk7.symm))) (.inr (Nat.le_trans ((Ext.refl _)).size (Nat.le_of_eq hk7.symm)))
          refine St.put 0 0 st rfl rfl rfl rfl (fun w50 he st => ?_)
          replace h := h w50 he
          exact i16 h (st.pick [1, 2, 0] (by decide))
        · refine St.new st (fun q49 w52 hk7 hlt7 he7 st => ?_)
          refine ⟨he7.kept, ?_⟩
          replace h := h _ he7
          refine CallF.mono h (fun v39 w40 h => ?_)
          obtain ⟨hE6, h⟩ := h
          replace st := st.ext hE6
          obtain ⟨b41, a42, n43, c44, i45, h⟩ := h
          refine ⟨b41, a42, n43, c44, i45, ?_⟩
          refine And.imp_right (fun h => ?_) h
          replace h := h _ (Ext.refl _) q49.block (Nat.le_trans ((Ext.trans (Ext.trans hE1 hE3) hE5)).size (Nat.le_of_eq hk7.symm)) (st.row (i := 0) rfl).lt (.inr (Nat.le_trans ((Ext.trans hE3 hE5)).size (Nat.le_of_eq hk7.symm))) (.inr (Nat.le_trans (hE5).size (Nat.le_of_eq hk7.symm))) (.inr (Nat.le_trans ((Ext.refl _)).size (Nat.le_of_eq hk7.symm))) (.inl (Nat.lt_of_lt_of_le hlt7 ((Ext.refl _)).size))
          refine St.put 0 0 st rfl rfl rfl rfl (fun w50 he st => ?_)
          replace h := h w50 he
          exact i16 h (st.pick [1, 2, 0] (by decide))
      · refine St.new st (fun q49 w53 hk7 hlt7 he7 st => ?_)
        refine ⟨he7.kept, ?_⟩
        replace h := h _ he7
        refine CallF.mono h (fun v31 w32 h => ?_)
        obtain ⟨hE5, h⟩ := h
        replace st := st.ext hE5
        obtain ⟨b33, a34, n35, c36, i37, h⟩ := h
        refine ⟨b33, a34, n35, c36, i37, ?_⟩
        refine And.imp_right (fun h => ?_) h
        replace h := h _ (Ext.refl _)
        refine CallF.mono h (fun v39 w40 h => ?_)
        obtain ⟨hE6, h⟩ := h
        replace st := st.ext hE6
        obtain ⟨b41, a42, n43, c44, i45, h⟩ := h
        refine ⟨b41, a42, n43, c44, i45, ?_⟩
        refine And.imp_right (fun h => ?_) h
        replace h := h _ (Ext.refl _) q49.block (Nat.le_trans ((Ext.trans hE1 hE3)).size (Nat.le_of_eq hk7.symm)) (st.row (i := 0) rfl).lt (.inr (Nat.le_trans (hE3).size (Nat.le_of_eq hk7.symm))) (.inr (Nat.le_trans ((Ext.refl _)).size (Nat.le_of_eq hk7.symm))) (.inl (Nat.lt_of_lt_of_le hlt7 ((Ext.refl _)).size)) (.inl (Nat.lt_of_lt_of_le hlt7 (hE5).size))
        refine St.put 0 0 st rfl rfl rfl rfl (fun w50 he st => ?_)
        replace h := h w50 he
        exact i16 h (st.pick [1, 2, 0] (by decide))
    · refine St.new st (fun q49 w54 hk7 hlt7 he7 st => ?_)
      refine ⟨he7.kept, ?_⟩
      replace h := h _ he7
      refine CallF.mono h (fun v23 w24 h => ?_)
      obtain ⟨hE3, h⟩ := h
      replace st := st.ext hE3
      obtain ⟨b25, a26, n27, c28, i29, h⟩ := h
      refine ⟨b25, a26, n27, c28, i29, ?_⟩
      refine And.imp_right (fun h => ?_) h
      refine ⟨hE3.kept, ?_⟩
      replace h := h _ (Ext.refl _)
      refine CallF.mono h (fun v31 w32 h => ?_)
      obtain ⟨hE5, h⟩ := h
      replace st := st.ext hE5
      obtain ⟨b33, a34, n35, c36, i37, h⟩ := h
      refine ⟨b33, a34, n35, c36, i37, ?_⟩
      refine And.imp_right (fun h => ?_) h
      replace h := h _ (Ext.refl _)
      refine CallF.mono h (fun v39 w40 h => ?_)
      obtain ⟨hE6, h⟩ := h
      replace st := st.ext hE6
      obtain ⟨b41, a42, n43, c44, i45, h⟩ := h
      refine ⟨b41, a42, n43, c44, i45, ?_⟩
      refine And.imp_right (fun h => ?_) h
      replace h := h _ (Ext.refl _) q49.block (Nat.le_trans (hE1).size (Nat.le_of_eq hk7.symm)) (st.row (i := 0) rfl).lt (.inr (Nat.le_trans ((Ext.refl _)).size (Nat.le_of_eq hk7.symm))) (.inl (Nat.lt_of_lt_of_le hlt7 ((Ext.refl _)).size)) (.inl (Nat.lt_of_lt_of_le hlt7 (hE3).size)) (.inl (Nat.lt_of_lt_of_le hlt7 ((Ext.trans hE3 hE5)).size))
      refine St.put 0 0 st rfl rfl rfl rfl (fun w50 he st => ?_)
      replace h := h w50 he
      exact i16 h (st.pick [1, 2, 0] (by decide))
  · refine St.new st (fun q49 w55 hk7 hlt7 he7 st => ?_)
    refine ⟨he7.kept, ?_⟩
    replace h := h _ he7
    refine CallF.mono h (fun v15 w16 h => ?_)
    obtain ⟨hE1, h⟩ := h
    replace st := st.ext hE1
    obtain ⟨b17, a18, n19, c20, i21, h⟩ := h
    refine ⟨b17, a18, n19, c20, i21, ?_⟩
    refine And.imp_right (fun h => ?_) h
    refine ⟨hE1.kept, ?_⟩
    replace h := h _ (Ext.refl _)
    refine CallF.mono h (fun v23 w24 h => ?_)
    obtain ⟨hE3, h⟩ := h
    replace st := st.ext hE3
    obtain ⟨b25, a26, n27, c28, i29, h⟩ := h
    refine ⟨b25, a26, n27, c28, i29, ?_⟩
    refine And.imp_right (fun h => ?_) h
    refine ⟨hE3.kept, ?_⟩
    replace h := h _ (Ext.refl _)
    refine CallF.mono h (fun v31 w32 h => ?_)
    obtain ⟨hE5, h⟩ := h
    replace st := st.ext hE5
    obtain ⟨b33, a34, n35, c36, i37, h⟩ := h
    refine ⟨b33, a34, n35, c36, i37, ?_⟩
    refine And.imp_right (fun h => ?_) h
    replace h := h _ (Ext.refl _)
    refine CallF.mono h (fun v39 w40 h => ?_)
    obtain ⟨hE6, h⟩ := h
    replace st := st.ext hE6
    obtain ⟨b41, a42, n43, c44, i45, h⟩ := h
    refine ⟨b41, a42, n43, c44, i45, ?_⟩
    refine And.imp_right (fun h => ?_) h
    replace h := h _ (Ext.refl _) q49.block (Nat.le_trans ((Ext.refl _)).size (Nat.le_of_eq hk7.symm)) (st.row (i := 0) rfl).lt (.inl (Nat.lt_of_lt_of_le hlt7 ((Ext.refl _)).size)) (.inl (Nat.lt_of_lt_of_le hlt7 (hE1).size)) (.inl (Nat.lt_of_lt_of_le hlt7 ((Ext.trans hE1 hE3)).size)) (.inl (Nat.lt_of_lt_of_le hlt7 ((Ext.trans (Ext.trans hE1 hE3) hE5)).size))
    refine St.put 0 0 st rfl rfl rfl rfl (fun w50 he st => ?_)
    replace h := h w50 he
    exact i16 h (st.pick [1, 2, 0] (by decide))
theorem straightedgelaw19_GrowthNear.b16_s {K : Value → World → Prop} {x15 : Nat → Option Addr → Option Addr → World → Prop} {x16 : Option Addr → Option Addr → Option Addr → World → Prop} {s15 : Nat → Nat → Bool → Option Addr → Nat → Nat → Int → Nat → Bool → Option Addr → Nat → Nat → Int → World → Prop} {s16 : Nat → Bool → Option Addr → Nat → Nat → Int → Nat → Bool → Option Addr → Nat → Nat → Int → Nat → Bool → Option Addr → Nat → Nat → Int → World → Prop} (i15 : ∀ {z7 : Nat} {q9 : Addr} {y9_0 : Bool} {y9_1p : Option Addr} {y9_1n y9_1c : Nat} {y9_2 : Int} {q10 : Addr} {y10_0 : Bool} {y10_1p : Option Addr} {y10_1n y10_1c : Nat} {y10_2 : Int} {w : World}, s15 z7 q9.block y9_0 y9_1p y9_1n y9_1c y9_2 q10.block y10_0 y10_1p y10_1n y10_1c y10_2 w → St w [(q9, [(.bool y9_0), (.slice y9_1p y9_1n y9_1c), (.int .i64 y9_2)]), (q10, [(.bool y10_0), (.slice y10_1p y10_1n y10_1c), (.int .i64 y10_2)])] → x15 z7 (some q9) (some q10) w) (i16 : ∀ {q9 : Addr} {y9_0 : Bool} {y9_1p : Option Addr} {y9_1n y9_1c : Nat} {y9_2 : Int} {q10 : Addr} {y10_0 : Bool} {y10_1p : Option Addr} {y10_1n y10_1c : Nat} {y10_2 : Int} {q11 : Addr} {y11_0 : Bool} {y11_1p : Option Addr} {y11_1n y11_1c : Nat} {y11_2 : Int} {w : World}, s16 q9.block y9_0 y9_1p y9_1n y9_1c y9_2 q10.block y10_0 y10_1p y10_1n y10_1c y10_2 q11.block y11_0 y11_1p y11_1n y11_1c y11_2 w → St w [(q9, [(.bool y9_0), (.slice y9_1p y9_1n y9_1c), (.int .i64 y9_2)]), (q10, [(.bool y10_0), (.slice y10_1p y10_1n y10_1c), (.int .i64 y10_2)]), (q11, [(.bool y11_0), (.slice y11_1p y11_1n y11_1c), (.int .i64 y11_2)])] → x16 (some q9) (some q10) (some q11) w) {q9 : Addr} {y9_0 : Bool} {y9_1p : Option Addr} {y9_1n y9_1c : Nat} {y9_2 : Int} {q10 : Addr} {y10_0 : Bool} {y10_1p : Option Addr} {y10_1n y10_1c : Nat} {y10_2 : Int} {q11 : Addr} {y11_0 : Bool} {y11_1p : Option Addr} {y11_1n y11_1c : Nat} {y11_2 : Int} {w : World} (h : straightedgelaw19_GrowthNear.e16 K s15 s16 q9.block y9_0 y9_1p y9_1n y9_1c y9_2 q10.block y10_0 y10_1p y10_1n y10_1c y10_2 q11.block y11_0 y11_1p y11_1n y11_1c y11_2 w) (st : St w [(q9, [(.bool y9_0), (.slice y9_1p y9_1n y9_1c), (.int .i64 y9_2)]), (q10, [(.bool y10_0), (.slice y10_1p y10_1n y10_1c), (.int .i64 y10_2)]), (q11, [(.bool y11_0), (.slice y11_1p y11_1n y11_1c), (.int .i64 y11_2)])]) : straightedgelaw19_GrowthNear.b16 K x15 x16 (some q9) (some q10) (some q11) w := by
  unfold straightedgelaw19_GrowthNear.b16
  unfold straightedgelaw19_GrowthNear.e16 at h
  replace st := st.drew
  have st1 := st
  refine ptrSome_intro rfl ?_
  refine rd_b_l_i64.bx 2 0 st1 rfl rfl rfl rfl rfl ?_
  refine ptrSome_intro rfl ?_
  refine rd_b_l_i64.bx 1 0 st1 rfl rfl rfl rfl rfl ?_
  refine ptrSome_intro rfl ?_
  refine rd_b_l_i64.bx 0 0 st1 rfl rfl rfl rfl rfl ?_
  refine CallF.mono h (fun v20 w21 h => ?_)
  obtain ⟨hK, h⟩ := h
  replace st := st.stay hK
  obtain ⟨b22, a23, n24, c25, i26, h⟩ := h
  refine ⟨b22, a23, n24, c25, i26, ?_⟩
  refine And.imp_right (fun h => ?_) h
  refine And.imp_right (fun h => ?_) h
  refine CallF.mono h (fun v27 w28 h => ?_)
  obtain ⟨hK, h⟩ := h
  replace st := st.stay hK
  obtain ⟨b29, a30, n31, c32, i33, h⟩ := h
  refine ⟨b29, a30, n31, c32, i33, ?_⟩
  refine And.imp_right (fun h => ?_) h
  refine And.imp_right (fun h => ?_) h
  refine CallF.mono h (fun v34 w35 h => ?_)
  obtain ⟨hK, h⟩ := h
  replace st := st.stay hK
  obtain ⟨b36, a37, n38, c39, i40, h⟩ := h
  refine ⟨b36, a37, n38, c39, i40, ?_⟩
  refine And.imp_right (fun h => ?_) h
  refine And.imp_right (fun h => ?_) h
  refine CallF.mono h (fun v41 w42 h => ?_)
  obtain ⟨hK, h⟩ := h
  replace st := st.stay hK
  obtain ⟨i43, h⟩ := h
  refine ⟨i43, ?_⟩
  refine And.imp_right (fun h => ?_) h
  refine br_mono (fun h => ?_) (fun h => ?_) h
  · refine CallF.mono h (fun v44 w45 h => ?_)
    obtain ⟨hK, h⟩ := h
    replace st := st.stay hK
    exact h
  · exact h
theorem straightedgelaw19_GrowthNear.H_s {K : Value → World → Prop} (fu : Nat) : (∀ {z7 : Nat} {q9 : Addr} {y9_0 : Bool} {y9_1p : Option Addr} {y9_1n y9_1c : Nat} {y9_2 : Int} {q10 : Addr} {y10_0 : Bool} {y10_1p : Option Addr} {y10_1n y10_1c : Nat} {y10_2 : Int} {w : World}, (straightedgelaw19_GrowthNear.I K fu).1 z7 q9.block y9_0 y9_1p y9_1n y9_1c y9_2 q10.block y10_0 y10_1p y10_1n y10_1c y10_2 w → St w [(q9, [(.bool y9_0), (.slice y9_1p y9_1n y9_1c), (.int .i64 y9_2)]), (q10, [(.bool y10_0), (.slice y10_1p y10_1n y10_1c), (.int .i64 y10_2)])] → (straightedgelaw19_GrowthNear.H K fu).1 z7 (some q9) (some q10) w) ∧ (∀ {q9 : Addr} {y9_0 : Bool} {y9_1p : Option Addr} {y9_1n y9_1c : Nat} {y9_2 : Int} {q10 : Addr} {y10_0 : Bool} {y10_1p : Option Addr} {y10_1n y10_1c : Nat} {y10_2 : Int} {q11 : Addr} {y11_0 : Bool} {y11_1p : Option Addr} {y11_1n y11_1c : Nat} {y11_2 : Int} {w : World}, (straightedgelaw19_GrowthNear.I K fu).2 q9.block y9_0 y9_1p y9_1n y9_1c y9_2 q10.block y10_0 y10_1p y10_1n y10_1c y10_2 q11.block y11_0 y11_1p y11_1n y11_1c y11_2 w → St w [(q9, [(.bool y9_0), (.slice y9_1p y9_1n y9_1c), (.int .i64 y9_2)]), (q10, [(.bool y10_0), (.slice y10_1p y10_1n y10_1c), (.int .i64 y10_2)]), (q11, [(.bool y11_0), (.slice y11_1p y11_1n y11_1c), (.int .i64 y11_2)])] → (straightedgelaw19_GrowthNear.H K fu).2 (some q9) (some q10) (some q11) w) := by
  induction fu with
  | zero => exact ⟨fun h _ => False.elim h, fun h _ => False.elim h⟩
  | succ fu ih => exact ⟨fun h st => straightedgelaw19_GrowthNear.b15_s (K := K) (x15 := (straightedgelaw19_GrowthNear.H K fu).1) (s15 := (straightedgelaw19_GrowthNear.I K fu).1) (x16 := (straightedgelaw19_GrowthNear.H K fu).2) (s16 := (straightedgelaw19_GrowthNear.I K fu).2) ih.1 ih.2 h st, fun h st => straightedgelaw19_GrowthNear.b16_s (K := K) (x15 := (straightedgelaw19_GrowthNear.H K fu).1) (s15 := (straightedgelaw19_GrowthNear.I K fu).1) (x16 := (straightedgelaw19_GrowthNear.H K fu).2) (s16 := (straightedgelaw19_GrowthNear.I K fu).2) ih.1 ih.2 h st⟩
theorem straightedgelaw19_GrowthNear.os (fu : Nat) {A0_0p : Option Addr} {A0_0n A0_0c : Nat} {A0_1 : Int} {A0_2 : Int} {A0_3 : Int} {A0_4 : Int} {w : World} {K : Value → World → Prop} (h : straightedgelaw19_GrowthNear.s fu A0_0p A0_0n A0_0c A0_1 A0_2 A0_3 A0_4 w K) : straightedgelaw19_GrowthNear.call [(.agg ⟨[(.slice A0_0p A0_0n A0_0c), (.int .i64 A0_1), (.int .i64 A0_2), (.int .i64 A0_3), (.int .i64 A0_4)]⟩)] w K := by
  refine straightedgelaw19_GrowthNear.ok fu ?_
  have st := St.nil w
  unfold straightedgelaw19_GrowthNear.x
  unfold straightedgelaw19_GrowthNear.s at h
  refine St.new (St.nil _) (fun q1 w2 hk hlt he st => ?_)
  replace h := h q1.block w2 hk hlt he
  refine CallF.mono h (fun v5 w6 h => ?_)
  obtain ⟨hK, h⟩ := h
  replace st := st.stay hK
  obtain ⟨b7, h⟩ := h
  refine ⟨b7, ?_⟩
  refine And.imp_right (fun h => ?_) h
  refine br_mono (fun h => ?_) (fun h => ?_) h
  · exact h
  · refine rd_l_i64_i64_i64_i64.bx 0 0 st rfl rfl rfl rfl rfl rfl rfl ?_
    refine CallF.mono h (fun v15 w16 h => ?_)
    obtain ⟨hK, h⟩ := h
    replace st := st.stay hK
    obtain ⟨b17, h⟩ := h
    refine ⟨b17, ?_⟩
    refine And.imp_right (fun h => ?_) h
    refine br_mono (fun h => ?_) (fun h => ?_) h
    · refine CallF.mono h (fun v18 w19 h => ?_)
      obtain ⟨hK, h⟩ := h
      replace st := st.stay hK
      exact h
    · refine rd_l_i64_i64_i64_i64.bx 0 0 st rfl rfl rfl rfl rfl rfl rfl ?_
      refine CallF.mono h (fun v28 w29 h => ?_)
      obtain ⟨hK, h⟩ := h
      replace st := st.stay hK
      obtain ⟨b30, h⟩ := h
      refine ⟨b30, ?_⟩
      refine And.imp_right (fun h => ?_) h
      refine br_mono (fun h => ?_) (fun h => ?_) h
      · refine CallF.mono h (fun v31 w32 h => ?_)
        obtain ⟨hK, h⟩ := h
        replace st := st.stay hK
        exact h
      · refine rd_l_i64_i64_i64_i64.bx 0 0 st rfl rfl rfl rfl rfl rfl rfl ?_
        refine CallF.mono h (fun v41 w42 h => ?_)
        obtain ⟨hK, h⟩ := h
        replace st := st.stay hK
        obtain ⟨i43, i44, a45, n46, c47, h⟩ := h
        refine ⟨i43, i44, a45, n46, c47, ?_⟩
        refine And.imp_right (fun h => ?_) h
        refine CallF.mono h (fun v48 w49 h => ?_)
        obtain ⟨hK, h⟩ := h
        replace st := st.stay hK
        obtain ⟨b50, h⟩ := h
        refine ⟨b50, ?_⟩
        refine And.imp_right (fun h => ?_) h
        refine br_mono (fun h => ?_) (fun h => ?_) h
        · refine CallF.mono h (fun v51 w52 h => ?_)
          obtain ⟨hK, h⟩ := h
          replace st := st.stay hK
          exact h
        · refine rd_l_i64_i64_i64_i64.bx 0 0 st rfl rfl rfl rfl rfl rfl rfl ?_
          refine CallF.mono h (fun v61 w62 h => ?_)
          obtain ⟨hK, h⟩ := h
          replace st := st.stay hK
          obtain ⟨a63, n64, c65, i66, i67, i68, i69, a70, n71, c72, i73, i74, h⟩ := h
          refine ⟨a63, n64, c65, i66, i67, i68, i69, a70, n71, c72, i73, i74, ?_⟩
          refine And.imp_right (fun h => ?_) h
          refine St.new st (fun q75 w76 hk hlt he st => ?_)
          replace h := h q75.block w76 hk hlt he
          refine St.put 0 0 st rfl rfl rfl rfl (fun w79 he st => ?_)
          replace h := h w79 he
          refine br_mono (fun h => ?_) (fun h => ?_) h
          · refine CallF.mono h (fun v80 w81 h => ?_)
            obtain ⟨hK, h⟩ := h
            replace st := st.stay hK
            exact h
          · refine rd_l_i64_i64_i64_i64.bx 0 0 st rfl rfl rfl rfl rfl rfl rfl ?_
            refine CallF.mono h (fun v90 w91 h => ?_)
            obtain ⟨hK, h⟩ := h
            replace st := st.stay hK
            obtain ⟨b92, h⟩ := h
            refine ⟨b92, ?_⟩
            refine And.imp_right (fun h => ?_) h
            refine br_mono (fun h => ?_) (fun h => ?_) h
            · exact h
            · refine rd_i64.bx 0 2 st rfl rfl rfl ?_
              refine rd_i64.bx 1 2 st rfl rfl rfl ?_
              refine br_mono (fun h => ?_) (fun h => ?_) h
              · exact h
              · refine rd_i64.bx 0 3 st rfl rfl rfl ?_
                refine rd_i64.bx 1 3 st rfl rfl rfl ?_
                refine br_mono (fun h => ?_) (fun h => ?_) h
                · exact h
                · refine rd_l_i64_i64_i64_i64.bx 0 0 st rfl rfl rfl rfl rfl rfl rfl ?_
                  refine CallF.mono h (fun v104 w105 h => ?_)
                  obtain ⟨hK, h⟩ := h
                  replace st := st.stay hK
                  obtain ⟨i106, i107, a108, n109, c110, h⟩ := h
                  refine ⟨i106, i107, a108, n109, c110, ?_⟩
                  refine And.imp_right (fun h => ?_) h
                  refine St.new st (fun q111 w112 hk hlt he st => ?_)
                  replace h := h q111.block w112 hk hlt he
                  refine St.put 0 0 st rfl rfl rfl rfl (fun w115 he st => ?_)
                  replace h := h w115 he
                  refine rd_l_i64_i64_i64_i64.bx 2 0 st rfl rfl rfl rfl rfl rfl rfl ?_
                  refine rd_l_i64_i64_i64_i64_l.bx 1 0 st rfl rfl rfl rfl rfl rfl rfl rfl ?_
                  refine CallF.mono h (fun v133 w134 h => ?_)
                  obtain ⟨hK, h⟩ := h
                  replace st := st.stay hK
                  obtain ⟨x135, i136, h⟩ := h
                  refine ⟨x135, i136, ?_⟩
                  refine And.imp_right (fun h => ?_) h
                  refine br_mono (fun h => ?_) (fun h => ?_) h
                  · refine br_mono (fun h => ?_) (fun h => ?_) h
                    · refine CallF.mono h (fun v137 w138 h => ?_)
                      obtain ⟨hK, h⟩ := h
                      replace st := st.stay hK
                      exact h
                    · exact h
                  · refine newB_mono st h (fun q140 w141 st h => ?_)
                    refine rd_l.bx 0 2 st rfl rfl rfl ?_
                    refine Raw.mono h (fun v145 w146 h => ?_)
                    obtain ⟨hK, h⟩ := h
                    replace st := st.stay hK
                    obtain ⟨a147, n148, c149, h⟩ := h
                    refine ⟨a147, n148, c149, ?_⟩
                    refine And.imp_right (fun h => ?_) h
                    refine CallF.mono h (fun v150 w151 h => ?_)
                    obtain ⟨hK, h⟩ := h
                    replace st := st.stay hK
                    obtain ⟨b152, h⟩ := h
                    refine ⟨b152, ?_⟩
                    refine And.imp_right (fun h => ?_) h
                    refine br_mono (fun h => ?_) (fun h => ?_) h
                    · refine br_mono (fun h => ?_) (fun h => ?_) h
                      · refine CallF.mono h (fun v153 w154 h => ?_)
                        obtain ⟨hK, h⟩ := h
                        replace st := st.stay hK
                        exact h
                      · exact h
                    · replace st := st.drew
                      have st156 := st
                      refine rd_l_i64_i64_i64_i64.bx 2 0 st156 rfl rfl rfl rfl rfl rfl rfl ?_
                      refine rd_i64.bx 2 3 st156 rfl rfl rfl ?_
                      refine rd_i64_i64_l.bx 0 0 st156 rfl rfl rfl rfl rfl ?_
                      refine rd_i64.bx 0 0 st156 rfl rfl rfl ?_
                      refine ⟨?_, ?_, ?_⟩
                      · replace h := h _ (Ext.refl _)
                        refine CallF.mono h (fun v172 w173 h => ?_)
                        obtain ⟨hE1, h⟩ := h
                        replace st := st.ext hE1
                        obtain ⟨i174, i175, a176, n177, c178, h⟩ := h
                        refine ⟨i174, i175, a176, n177, c178, ?_⟩
                        refine And.imp_right (fun h => ?_) h
                        refine ⟨hE1.kept, ?_⟩
                        refine ⟨?_, ?_, ?_⟩
                        · replace h := h _ (Ext.refl _)
                          refine CallF.mono h (fun v180 w181 h => ?_)
                          obtain ⟨hE4, h⟩ := h
                          replace st := st.ext hE4
                          obtain ⟨x182, h⟩ := h
                          refine ⟨x182, ?_⟩
                          refine And.imp_right (fun h => ?_) h
                          refine ⟨hE4.kept, ?_⟩
                          refine ⟨?_, ?_, ?_⟩
                          · replace h := h _ (Ext.refl _)
                            refine CallF.mono h (fun v184 w185 h => ?_)
                            obtain ⟨hE5, h⟩ := h
                            replace st := st.ext hE5
                            obtain ⟨b186, a187, n188, c189, i190, h⟩ := h
                            refine ⟨b186, a187, n188, c189, i190, ?_⟩
                            refine And.imp_right (fun h => ?_) h
                            refine ⟨hE5.kept, ?_⟩
                            refine ⟨?_, ?_, ?_⟩
                            · replace h := h _ (Ext.refl _)
                              refine CallF.mono h (fun v192 w193 h => ?_)
                              obtain ⟨hE9, h⟩ := h
                              replace st := st.ext hE9
                              obtain ⟨x194, h⟩ := h
                              refine ⟨x194, ?_⟩
                              refine And.imp_right (fun h => ?_) h
                              refine ⟨?_, ?_, ?_⟩
                              · replace h := h _ (Ext.refl _)
                                refine CallF.mono h (fun v196 w197 h => ?_)
                                obtain ⟨hE10, h⟩ := h
                                replace st := st.ext hE10
                                obtain ⟨b198, a199, n200, c201, i202, h⟩ := h
                                refine ⟨b198, a199, n200, c201, i202, ?_⟩
                                refine And.imp_right (fun h => ?_) h
                                refine ⟨?_, ?_⟩
                                · refine St.new st (fun q206 w212 hk11 hlt11 he11 st => ?_)
                                  refine ⟨he11.kept, ?_⟩
                                  refine St.new st (fun q209 w213 hk12 hlt12 he12 st => ?_)
                                  refine ⟨he12.kept, ?_⟩
                                  replace h := h _ (Ext.trans he11 he12) q206.block (Nat.le_trans ((Ext.trans (Ext.trans (Ext.trans (Ext.trans hE1 hE4) hE5) hE9) hE10)).size (Nat.le_of_eq hk11.symm)) (st.row (i := 1) rfl).lt (.inr (Nat.le_trans ((Ext.trans (Ext.trans (Ext.trans hE4 hE5) hE9) hE10)).size (Nat.le_of_eq hk11.symm))) (.inr (Nat.le_trans ((Ext.trans (Ext.trans hE5 hE9) hE10)).size (Nat.le_of_eq hk11.symm))) (.inr (Nat.le_trans ((Ext.trans hE9 hE10)).size (Nat.le_of_eq hk11.symm))) (.inr (Nat.le_trans (hE10).size (Nat.le_of_eq hk11.symm))) (.inr (Nat.le_trans ((Ext.refl _)).size (Nat.le_of_eq hk11.symm))) q209.block (Nat.le_trans ((Ext.trans (Ext.trans (Ext.trans (Ext.trans (Ext.trans hE1 hE4) hE5) hE9) hE10) he11)).size (Nat.le_of_eq hk12.symm)) (st.row (i := 0) rfl).lt (.inr (Nat.le_trans ((Ext.trans (Ext.trans (Ext.trans (Ext.trans hE4 hE5) hE9) hE10) he11)).size (Nat.le_of_eq hk12.symm))) (.inr (Nat.le_trans ((Ext.trans (Ext.trans (Ext.trans hE5 hE9) hE10) he11)).size (Nat.le_of_eq hk12.symm))) (.inr (Nat.le_trans ((Ext.trans (Ext.trans hE9 hE10) he11)).size (Nat.le_of_eq hk12.symm))) (.inr (Nat.le_trans ((Ext.trans hE10 he11)).size (Nat.le_of_eq hk12.symm))) (.inr (Nat.le_trans (he11).size (Nat.le_of_eq hk12.symm))) (St.nb 1 0 0 st rfl rfl (by decide))
                                  replace st := st.pick [1, 0, 2, 3, 4] (by decide)
                                  refine St.put 0 0 st rfl rfl rfl rfl (fun w210 he st => ?_)
                                  replace h := h w210 he
                                  refine St.put 1 0 st rfl rfl rfl rfl (fun w211 he st => ?_)
                                  replace h := h w211 he
                                  exact (straightedgelaw19_GrowthNear.H_s fu).1 h (st.pick [0, 1] (by decide))
                                · refine St.new st (fun q209 w214 hk12 hlt12 he12 st => ?_)
                                  refine ⟨he12.kept, ?_⟩
                                  refine St.new st (fun q206 w215 hk11 hlt11 he11 st => ?_)
                                  refine ⟨he11.kept, ?_⟩
                                  replace h := h _ (Ext.trans he12 he11) q206.block (Nat.le_trans ((Ext.trans (Ext.trans (Ext.trans (Ext.trans (Ext.trans hE1 hE4) hE5) hE9) hE10) he12)).size (Nat.le_of_eq hk11.symm)) (st.row (i := 0) rfl).lt (.inr (Nat.le_trans ((Ext.trans (Ext.trans (Ext.trans (Ext.trans hE4 hE5) hE9) hE10) he12)).size (Nat.le_of_eq hk11.symm))) (.inr (Nat.le_trans ((Ext.trans (Ext.trans (Ext.trans hE5 hE9) hE10) he12)).size (Nat.le_of_eq hk11.symm))) (.inr (Nat.le_trans ((Ext.trans (Ext.trans hE9 hE10) he12)).size (Nat.le_of_eq hk11.symm))) (.inr (Nat.le_trans ((Ext.trans hE10 he12)).size (Nat.le_of_eq hk11.symm))) (.inr (Nat.le_trans (he12).size (Nat.le_of_eq hk11.symm))) q209.block (Nat.le_trans ((Ext.trans (Ext.trans (Ext.trans (Ext.trans hE1 hE4) hE5) hE9) hE10)).size (Nat.le_of_eq hk12.symm)) (st.row (i := 1) rfl).lt (.inr (Nat.le_trans ((Ext.trans (Ext.trans (Ext.trans hE4 hE5) hE9) hE10)).size (Nat.le_of_eq hk12.symm))) (.inr (Nat.le_trans ((Ext.trans (Ext.trans hE5 hE9) hE10)).size (Nat.le_of_eq hk12.symm))) (.inr (Nat.le_trans ((Ext.trans hE9 hE10)).size (Nat.le_of_eq hk12.symm))) (.inr (Nat.le_trans (hE10).size (Nat.le_of_eq hk12.symm))) (.inr (Nat.le_trans ((Ext.refl _)).size (Nat.le_of_eq hk12.symm))) (St.nb 0 1 0 st rfl rfl (by decide))
                                  refine St.put 0 0 st rfl rfl rfl rfl (fun w210 he st => ?_)
                                  replace h := h w210 he
                                  refine St.put 1 0 st rfl rfl rfl rfl (fun w211 he st => ?_)
                                  replace h := h w211 he
                                  exact (straightedgelaw19_GrowthNear.H_s fu).1 h (st.pick [0, 1] (by decide))
                              · refine St.new st (fun q206 w216 hk11 hlt11 he11 st => ?_)
                                refine ⟨he11.kept, ?_⟩
                                refine ⟨?_, ?_⟩
                                · replace h := h _ he11
                                  refine CallF.mono h (fun v196 w197 h => ?_)
                                  obtain ⟨hE10, h⟩ := h
                                  replace st := st.ext hE10
                                  obtain ⟨b198, a199, n200, c201, i202, h⟩ := h
                                  refine ⟨b198, a199, n200, c201, i202, ?_⟩
                                  refine And.imp_right (fun h => ?_) h
                                  refine St.new st (fun q209 w217 hk12 hlt12 he12 st => ?_)
                                  refine ⟨he12.kept, ?_⟩
                                  replace h := h _ he12 q206.block (Nat.le_trans ((Ext.trans (Ext.trans (Ext.trans hE1 hE4) hE5) hE9)).size (Nat.le_of_eq hk11.symm)) (st.row (i := 1) rfl).lt (.inr (Nat.le_trans ((Ext.trans (Ext.trans hE4 hE5) hE9)).size (Nat.le_of_eq hk11.symm))) (.inr (Nat.le_trans ((Ext.trans hE5 hE9)).size (Nat.le_of_eq hk11.symm))) (.inr (Nat.le_trans (hE9).size (Nat.le_of_eq hk11.symm))) (.inr (Nat.le_trans ((Ext.refl _)).size (Nat.le_of_eq hk11.symm))) (.inl (Nat.lt_of_lt_of_le hlt11 ((Ext.refl _)).size)) q209.block (Nat.le_trans ((Ext.trans (Ext.trans (Ext.trans (Ext.trans (Ext.trans hE1 hE4) hE5) hE9) he11) hE10)).size (Nat.le_of_eq hk12.symm)) (st.row (i := 0) rfl).lt (.inr (Nat.le_trans ((Ext.trans (Ext.trans (Ext.trans (Ext.trans hE4 hE5) hE9) he11) hE10)).size (Nat.le_of_eq hk12.symm))) (.inr (Nat.le_trans ((Ext.trans (Ext.trans (Ext.trans hE5 hE9) he11) hE10)).size (Nat.le_of_eq hk12.symm))) (.inr (Nat.le_trans ((Ext.trans (Ext.trans hE9 he11) hE10)).size (Nat.le_of_eq hk12.symm))) (.inr (Nat.le_trans ((Ext.trans he11 hE10)).size (Nat.le_of_eq hk12.symm))) (.inr (Nat.le_trans ((Ext.refl _)).size (Nat.le_of_eq hk12.symm))) (St.nb 1 0 0 st rfl rfl (by decide))
                                  replace st := st.pick [1, 0, 2, 3, 4] (by decide)
                                  refine St.put 0 0 st rfl rfl rfl rfl (fun w210 he st => ?_)
                                  replace h := h w210 he
                                  refine St.put 1 0 st rfl rfl rfl rfl (fun w211 he st => ?_)
                                  replace h := h w211 he
                                  exact (straightedgelaw19_GrowthNear.H_s fu).1 h (st.pick [0, 1] (by decide))
                                · refine St.new st (fun q209 w218 hk12 hlt12 he12 st => ?_)
                                  refine ⟨he12.kept, ?_⟩
                                  replace h := h _ (Ext.trans he11 he12)
                                  refine CallF.mono h (fun v196 w197 h => ?_)
                                  obtain ⟨hE10, h⟩ := h
                                  replace st := st.ext hE10
                                  obtain ⟨b198, a199, n200, c201, i202, h⟩ := h
                                  refine ⟨b198, a199, n200, c201, i202, ?_⟩
                                  refine And.imp_right (fun h => ?_) h
                                  replace h := h _ (Ext.refl _) q206.block (Nat.le_trans ((Ext.trans (Ext.trans (Ext.trans hE1 hE4) hE5) hE9)).size (Nat.le_of_eq hk11.symm)) (st.row (i := 1) rfl).lt (.inr (Nat.le_trans ((Ext.trans (Ext.trans hE4 hE5) hE9)).size (Nat.le_of_eq hk11.symm))) (.inr (Nat.le_trans ((Ext.trans hE5 hE9)).size (Nat.le_of_eq hk11.symm))) (.inr (Nat.le_trans (hE9).size (Nat.le_of_eq hk11.symm))) (.inr (Nat.le_trans ((Ext.refl _)).size (Nat.le_of_eq hk11.symm))) (.inl (Nat.lt_of_lt_of_le hlt11 (he12).size)) q209.block (Nat.le_trans ((Ext.trans (Ext.trans (Ext.trans (Ext.trans hE1 hE4) hE5) hE9) he11)).size (Nat.le_of_eq hk12.symm)) (st.row (i := 0) rfl).lt (.inr (Nat.le_trans ((Ext.trans (Ext.trans (Ext.trans hE4 hE5) hE9) he11)).size (Nat.le_of_eq hk12.symm))) (.inr (Nat.le_trans ((Ext.trans (Ext.trans hE5 hE9) he11)).size (Nat.le_of_eq hk12.symm))) (.inr (Nat.le_trans ((Ext.trans hE9 he11)).size (Nat.le_of_eq hk12.symm))) (.inr (Nat.le_trans (he11).size (Nat.le_of_eq hk12.symm))) (.inl (Nat.lt_of_lt_of_le hlt12 ((Ext.refl _)).size)) (St.nb 1 0 0 st rfl rfl (by decide))
                                  replace st := st.pick [1, 0, 2, 3, 4] (by decide)
                                  refine St.put 0 0 st rfl rfl rfl rfl (fun w210 he st => ?_)
                                  replace h := h w210 he
                                  refine St.put 1 0 st rfl rfl rfl rfl (fun w211 he st => ?_)
                                  replace h := h w211 he
                                  exact (straightedgelaw19_GrowthNear.H_s fu).1 h (st.pick [0, 1] (by decide))
                              · refine St.new st (fun q209 w219 hk12 hlt12 he12 st => ?_)
                                refine ⟨he12.kept, ?_⟩
                                refine ⟨?_, ?_⟩
                                · replace h := h _ he12
                                  refine CallF.mono h (fun v196 w197 h => ?_)
                                  obtain ⟨hE10, h⟩ := h
                                  replace st := st.ext hE10
                                  obtain ⟨b198, a199, n200, c201, i202, h⟩ := h
                                  refine ⟨b198, a199, n200, c201, i202, ?_⟩
                                  refine And.imp_right (fun h => ?_) h
                                  refine St.new st (fun q206 w220 hk11 hlt11 he11 st => ?_)
                                  refine ⟨he11.kept, ?_⟩
                                  replace h := h _ he11 q206.block (Nat.le_trans ((Ext.trans (Ext.trans (Ext.trans (Ext.trans (Ext.trans hE1 hE4) hE5) hE9) he12) hE10)).size (Nat.le_of_eq hk11.symm)) (st.row (i := 0) rfl).lt (.inr (Nat.le_trans ((Ext.trans (Ext.trans (Ext.trans (Ext.trans hE4 hE5) hE9) he12) hE10)).size (Nat.le_of_eq hk11.symm))) (.inr (Nat.le_trans ((Ext.trans (Ext.trans (Ext.trans hE5 hE9) he12) hE10)).size (Nat.le_of_eq hk11.symm))) (.inr (Nat.le_trans ((Ext.trans (Ext.trans hE9 he12) hE10)).size (Nat.le_of_eq hk11.symm))) (.inr (Nat.le_trans ((Ext.trans he12 hE10)).size (Nat.le_of_eq hk11.symm))) (.inr (Nat.le_trans ((Ext.refl _)).size (Nat.le_of_eq hk11.symm))) q209.block (Nat.le_trans ((Ext.trans (Ext.trans (Ext.trans hE1 hE4) hE5) hE9)).size (Nat.le_of_eq hk12.symm)) (st.row (i := 1) rfl).lt (.inr (Nat.le_trans ((Ext.trans (Ext.trans hE4 hE5) hE9)).size (Nat.le_of_eq hk12.symm))) (.inr (Nat.le_trans ((Ext.trans hE5 hE9)).size (Nat.le_of_eq hk12.symm))) (.inr (Nat.le_trans (hE9).size (Nat.le_of_eq hk12.symm))) (.inr (Nat.le_trans ((Ext.refl _)).size (Nat.le_of_eq hk12.symm))) (.inl (Nat.lt_of_lt_of_le hlt12 ((Ext.refl _)).size)) (St.nb 0 1 0 st rfl rfl (by decide))
                                  refine St.put 0 0 st rfl rfl rfl rfl (fun w210 he st => ?_)
                                  replace h := h w210 he
                                  refine St.put 1 0 st rfl rfl rfl rfl (fun w211 he st => ?_)
                                  replace h := h w211 he
                                  exact (straightedgelaw19_GrowthNear.H_s fu).1 h (st.pick [0, 1] (by decide))
                                · refine St.new st (fun q206 w221 hk11 hlt11 he11 st => ?_)
                                  refine ⟨he11.kept, ?_⟩
                                  replace h := h _ (Ext.trans he12 he11)
                                  refine CallF.mono h (fun v196 w197 h => ?_)
                                  obtain ⟨hE10, h⟩ := h
                                  replace st := st.ext hE10
                                  obtain ⟨b198, a199, n200, c201, i202, h⟩ := h
                                  refine ⟨b198, a199, n200, c201, i202, ?_⟩
                                  refine And.imp_right (fun h => ?_) h
                                  replace h := h _ (Ext.refl _) q206.block (Nat.le_trans ((Ext.trans (Ext.trans (Ext.trans (Ext.trans hE1 hE4) hE5) hE9) he12)).size (Nat.le_of_eq hk11.symm)) (st.row (i := 0) rfl).lt (.inr (Nat.le_trans ((Ext.trans (Ext.trans (Ext.trans hE4 hE5) hE9) he12)).size (Nat.le_of_eq hk11.symm))) (.inr (Nat.le_trans ((Ext.trans (Ext.trans hE5 hE9) he12)).size (Nat.le_of_eq hk11.symm))) (.inr (Nat.le_trans ((Ext.trans hE9 he12)).size (Nat.le_of_eq hk11.symm))) (.inr (Nat.le_trans (he12).size (Nat.le_of_eq hk11.symm))) (.inl (Nat.lt_of_lt_of_le hlt11 ((Ext.refl _)).size)) q209.block (Nat.le_trans ((Ext.trans (Ext.trans (Ext.trans hE1 hE4) hE5) hE9)).size (Nat.le_of_eq hk12.symm)) (st.row (i := 1) rfl).lt (.inr (Nat.le_trans ((Ext.trans (Ext.trans hE4 hE5) hE9)).size (Nat.le_of_eq hk12.symm))) (.inr (Nat.le_trans ((Ext.trans hE5 hE9)).size (Nat.le_of_eq hk12.symm))) (.inr (Nat.le_trans (hE9).size (Nat.le_of_eq hk12.symm))) (.inr (Nat.le_trans ((Ext.refl _)).size (Nat.le_of_eq hk12.symm))) (.inl (Nat.lt_of_lt_of_le hlt12 (he11).size)) (St.nb 0 1 0 st rfl rfl (by decide))
                                  refine St.put 0 0 st rfl rfl rfl rfl (fun w210 he st => ?_)
                                  replace h := h w210 he
                                  refine St.put 1 0 st rfl rfl rfl rfl (fun w211 he st => ?_)
                                  replace h := h w211 he
                                  exact (straightedgelaw19_GrowthNear.H_s fu).1 h (st.pick [0, 1] (by decide))
                            · refine St.new st (fun q206 w222 hk11 hlt11 he11 st => ?_)
                              refine ⟨he11.kept, ?_⟩
                              refine ⟨?_, ?_⟩
                              · replace h := h _ he11
                                refine CallF.mono h (fun v192 w193 h => ?_)
                                obtain ⟨hE9, h⟩ := h
                                replace st := st.ext hE9
                                obtain ⟨x194, h⟩ := h
                                refine ⟨x194, ?_⟩
                                refine And.imp_right (fun h => ?_) h
                                refine ⟨?_, ?_⟩
                                · replace h := h _ (Ext.refl _)
                                  refine CallF.mono h (fun v196 w197 h => ?_)
                                  obtain ⟨hE10, h⟩ := h
                                  replace st := st.ext hE10
                                  obtain ⟨b198, a199, n200, c201, i202, h⟩ := h
                                  refine ⟨b198, a199, n200, c201, i202, ?_⟩
                                  refine And.imp_right (fun h => ?_) h
                                  refine St.new st (fun q209 w223 hk12 hlt12 he12 st => ?_)
                                  refine ⟨he12.kept, ?_⟩
                                  replace h := h _ he12 q206.block (Nat.le_trans ((Ext.trans (Ext.trans hE1 hE4) hE5)).size (Nat.le_of_eq hk11.symm)) (st.row (i := 1) rfl).lt (.inr (Nat.le_trans ((Ext.trans hE4 hE5)).size (Nat.le_of_eq hk11.symm))) (.inr (Nat.le_trans (hE5).size (Nat.le_of_eq hk11.symm))) (.inr (Nat.le_trans ((Ext.refl _)).size (Nat.le_of_eq hk11.symm))) (.inl (Nat.lt_of_lt_of_le hlt11 ((Ext.refl _)).size)) (.inl (Nat.lt_of_lt_of_le hlt11 (hE9).size)) q209.block (Nat.le_trans ((Ext.trans (Ext.trans (Ext.trans (Ext.trans (Ext.trans hE1 hE4) hE5) he11) hE9) hE10)).size (Nat.le_of_eq hk12.symm)) (st.row (i := 0) rfl).lt (.inr (Nat.le_trans ((Ext.trans (Ext.trans (Ext.trans (Ext.trans hE4 hE5) he11) hE9) hE10)).size (Nat.le_of_eq hk12.symm))) (.inr (Nat.le_trans ((Ext.trans (Ext.trans (Ext.trans hE5 he11) hE9) hE10)).size (Nat.le_of_eq hk12.symm))) (.inr (Nat.le_trans ((Ext.trans (Ext.trans he11 hE9) hE10)).size (Nat.le_of_eq hk12.symm))) (.inr (Nat.le_trans (hE10).size (Nat.le_of_eq hk12.symm))) (.inr (Nat.le_trans ((Ext.refl _)).size (Nat.le_of_eq hk12.symm))) (St.nb 1 0 0 st rfl rfl (by decide))
                                  replace st := st.pick [1, 0, 2, 3, 4] (by decide)
                                  refine St.put 0 0 st rfl rfl rfl rfl (fun w210 he st => ?_)
                                  replace h := h w210 he
                                  refine St.put 1 0 st rfl rfl rfl rfl (fun w211 he st => ?_)
                                  replace h := h w211 he
                                  exact (straightedgelaw19_GrowthNear.H_s fu).1 h (st.pick [0, 1] (by decide))
                                · refine St.new st (fun q209 w224 hk12 hlt12 he12 st => ?_)
                                  refine ⟨he12.kept, ?_⟩
                                  replace h := h _ he12
                                  refine CallF.mono h (fun v196 w197 h => ?_)
                                  obtain ⟨hE10, h⟩ := h
                                  replace st := st.ext hE10
                                  obtain ⟨b198, a199, n200, c201, i202, h⟩ := h
                                  refine ⟨b198, a199, n200, c201, i202, ?_⟩
                                  refine And.imp_right (fun h => ?_) h
                                  replace h := h _ (Ext.refl _) q206.block (Nat.le_trans ((Ext.trans (Ext.trans hE1 hE4) hE5)).size (Nat.le_of_eq hk11.symm)) (st.row (i := 1) rfl).lt (.inr (Nat.le_trans ((Ext.trans hE4 hE5)).size (Nat.le_of_eq hk11.symm))) (.inr (Nat.le_trans (hE5).size (Nat.le_of_eq hk11.symm))) (.inr (Nat.le_trans ((Ext.refl _)).size (Nat.le_of_eq hk11.symm))) (.inl (Nat.lt_of_lt_of_le hlt11 ((Ext.refl _)).size)) (.inl (Nat.lt_of_lt_of_le hlt11 ((Ext.trans hE9 he12)).size)) q209.block (Nat.le_trans ((Ext.trans (Ext.trans (Ext.trans (Ext.trans hE1 hE4) hE5) he11) hE9)).size (Nat.le_of_eq hk12.symm)) (st.row (i := 0) rfl).lt (.inr (Nat.le_trans ((Ext.trans (Ext.trans (Ext.trans hE4 hE5) he11) hE9)).size (Nat.le_of_eq hk12.symm))) (.inr (Nat.le_trans ((Ext.trans (Ext.trans hE5 he11) hE9)).size (Nat.le_of_eq hk12.symm))) (.inr (Nat.le_trans ((Ext.trans he11 hE9)).size (Nat.le_of_eq hk12.symm))) (.inr (Nat.le_trans ((Ext.refl _)).size (Nat.le_of_eq hk12.symm))) (.inl (Nat.lt_of_lt_of_le hlt12 ((Ext.refl _)).size)) (St.nb 1 0 0 st rfl rfl (by decide))
                                  replace st := st.pick [1, 0, 2, 3, 4] (by decide)
                                  refine St.put 0 0 st rfl rfl rfl rfl (fun w210 he st => ?_)
                                  replace h := h w210 he
                                  refine St.put 1 0 st rfl rfl rfl rfl (fun w211 he st => ?_)
                                  replace h := h w211 he
                                  exact (straightedgelaw19_GrowthNear.H_s fu).1 h (st.pick [0, 1] (by decide))
                              · refine St.new st (fun q209 w225 hk12 hlt12 he12 st => ?_)
                                refine ⟨he12.kept, ?_⟩
                                replace h := h _ (Ext.trans he11 he12)
                                refine CallF.mono h (fun v192 w193 h => ?_)
                                obtain ⟨hE9, h⟩ := h
                                replace st := st.ext hE9
                                obtain ⟨x194, h⟩ := h
                                refine ⟨x194, ?_⟩
                                refine And.imp_right (fun h => ?_) h
                                replace h := h _ (Ext.refl _)
                                refine CallF.mono h (fun v196 w197 h => ?_)
                                obtain ⟨hE10, h⟩ := h
                                replace st := st.ext hE10
                                obtain ⟨b198, a199, n200, c201, i202, h⟩ := h
                                refine ⟨b198, a199, n200, c201, i202, ?_⟩
                                refine And.imp_right (fun h => ?_) h
                                replace h := h _ (Ext.refl _) q206.block (Nat.le_trans ((Ext.trans (Ext.trans hE1 hE4) hE5)).size (Nat.le_of_eq hk11.symm)) (st.row (i := 1) rfl).lt (.inr (Nat.le_trans ((Ext.trans hE4 hE5)).size (Nat.le_of_eq hk11.symm))) (.inr (Nat.le_trans (hE5).size (Nat.le_of_eq hk11.symm))) (.inr (Nat.le_trans ((Ext.refl _)).size (Nat.le_of_eq hk11.symm))) (.inl (Nat.lt_of_lt_of_le hlt11 (he12).size)) (.inl (Nat.lt_of_lt_of_le hlt11 ((Ext.trans he12 hE9)).size)) q209.block (Nat.le_trans ((Ext.trans (Ext.trans (Ext.trans hE1 hE4) hE5) he11)).size (Nat.le_of_eq hk12.symm)) (st.row (i := 0) rfl).lt (.inr (Nat.le_trans ((Ext.trans (Ext.trans hE4 hE5) he11)).size (Nat.le_of_eq hk12.symm))) (.inr (Nat.le_trans ((Ext.trans hE5 he11)).size (Nat.le_of_eq hk12.symm))) (.inr (Nat.le_trans (he11).size (Nat.le_of_eq hk12.symm))) (.inl (Nat.lt_of_lt_of_le hlt12 ((Ext.refl _)).size)) (.inl (Nat.lt_of_lt_of_le hlt12 (hE9).size)) (St.nb 1 0 0 st rfl rfl (by decide))
                                replace st := st.pick [1, 0, 2, 3, 4] (by decide)
                                refine St.put 0 0 st rfl rfl rfl rfl (fun w210 he st => ?_)
                                replace h := h w210 he
                                refine St.put 1 0 st rfl rfl rfl rfl (fun w211 he st => ?_)
                                replace h := h w211 he
                                exact (straightedgelaw19_GrowthNear.H_s fu).1 h (st.pick [0, 1] (by decide))
                            · refine St.new st (fun q209 w226 hk12 hlt12 he12 st => ?_)
                              refine ⟨he12.kept, ?_⟩
                              refine ⟨?_, ?_⟩
                              · replace h := h _ he12
                                refine CallF.mono h (fun v192 w193 h => ?_)
                                obtain ⟨hE9, h⟩ := h
                                replace st := st.ext hE9
                                obtain ⟨x194, h⟩ := h
                                refine ⟨x194, ?_⟩
                                refine And.imp_right (fun h => ?_) h
                                refine ⟨?_, ?_⟩
                                · replace h := h _ (Ext.refl _)
                                  refine CallF.mono h (fun v196 w197 h => ?_)
                                  obtain ⟨hE10, h⟩ := h
                                  replace st := st.ext hE10
                                  obtain ⟨b198, a199, n200, c201, i202, h⟩ := h
                                  refine ⟨b198, a199, n200, c201, i202, ?_⟩
                                  refine And.imp_right (fun h => ?_) h
                                  refine St.new st (fun q206 w227 hk11 hlt11 he11 st => ?_)
                                  refine ⟨he11.kept, ?_⟩
                                  replace h := h _ he11 q206.block (Nat.le_trans ((Ext.trans (Ext.trans (Ext.trans (Ext.trans (Ext.trans hE1 hE4) hE5) he12) hE9) hE10)).size (Nat.le_of_eq hk11.symm)) (st.row (i := 0) rfl).lt (.inr (Nat.le_trans ((Ext.trans (Ext.trans (Ext.trans (Ext.trans hE4 hE5) he12) hE9) hE10)).size (Nat.le_of_eq hk11.symm))) (.inr (Nat.le_trans ((Ext.trans (Ext.trans (Ext.trans hE5 he12) hE9) hE10)).size (Nat.le_of_eq hk11.symm))) (.inr (Nat.le_trans ((Ext.trans (Ext.trans he12 hE9) hE10)).size (Nat.le_of_eq hk11.symm))) (.inr (Nat.le_trans (hE10).size (Nat.le_of_eq hk11.symm))) (.inr (Nat.le_trans ((Ext.refl _)).size (Nat.le_of_eq hk11.symm))) q209.block (Nat.le_trans ((Ext.trans (Ext.trans hE1 hE4) hE5)).size (Nat.le_of_eq hk12.symm)) (st.row (i := 1) rfl).lt (.inr (Nat.le_trans ((Ext.trans hE4 hE5)).size (Nat.le_of_eq hk12.symm))) (.inr (Nat.le_trans (hE5).size (Nat.le_of_eq hk12.symm))) (.inr (Nat.le_trans ((Ext.refl _)).size (Nat.le_of_eq hk12.symm))) (.inl (Nat.lt_of_lt_of_le hlt12 ((Ext.refl _)).size)) (.inl (Nat.lt_of_lt_of_le hlt12 (hE9).size)) (St.nb 0 1 0 st rfl rfl (by decide))
                                  refine St.put 0 0 st rfl rfl rfl rfl (fun w210 he st => ?_)
                                  replace h := h w210 he
                                  refine St.put 1 0 st rfl rfl rfl rfl (fun w211 he st => ?_)
                                  replace h := h w211 he
                                  exact (straightedgelaw19_GrowthNear.H_s fu).1 h (st.pick [0, 1] (by decide))
                                · refine St.new st (fun q206 w228 hk11 hlt11 he11 st => ?_)
                                  refine ⟨he11.kept, ?_⟩
                                  replace h := h _ he11
                                  refine CallF.mono h (fun v196 w197 h => ?_)
                                  obtain ⟨hE10, h⟩ := h
                                  replace st := st.ext hE10
                                  obtain ⟨b198, a199, n200, c201, i202, h⟩ := h
                                  refine ⟨b198, a199, n200, c201, i202, ?_⟩
                                  refine And.imp_right (fun h => ?_) h
                                  replace h := h _ (Ext.refl _) q206.block (Nat.le_trans ((Ext.trans (Ext.trans (Ext.trans (Ext.trans hE1 hE4) hE5) he12) hE9)).size (Nat.le_of_eq hk11.symm)) (st.row (i := 0) rfl).lt (.inr (Nat.le_trans ((Ext.trans (Ext.trans (Ext.trans hE4 hE5) he12) hE9)).size (Nat.le_of_eq hk11.symm))) (.inr (Nat.le_trans ((Ext.trans (Ext.trans hE5 he12) hE9)).size (Nat.le_of_eq hk11.symm))) (.inr (Nat.le_trans ((Ext.trans he12 hE9)).size (Nat.le_of_eq hk11.symm))) (.inr (Nat.le_trans ((Ext.refl _)).size (Nat.le_of_eq hk11.symm))) (.inl (Nat.lt_of_lt_of_le hlt11 ((Ext.refl _)).size)) q209.block (Nat.le_trans ((Ext.trans (Ext.trans hE1 hE4) hE5)).size (Nat.le_of_eq hk12.symm)) (st.row (i := 1) rfl).lt (.inr (Nat.le_trans ((Ext.trans hE4 hE5)).size (Nat.le_of_eq hk12.symm))) (.inr (Nat.le_trans (hE5).size (Nat.le_of_eq hk12.symm))) (.inr (Nat.le_trans ((Ext.refl _)).size (Nat.le_of_eq hk12.symm))) (.inl (Nat.lt_of_lt_of_le hlt12 ((Ext.refl _)).size)) (.inl (Nat.lt_of_lt_of_le hlt12 ((Ext.trans hE9 he11)).size)) (St.nb 0 1 0 st rfl rfl (by decide))
                                  refine St.put 0 0 st rfl rfl rfl rfl (fun w210 he st => ?_)
                                  replace h := h w210 he
                                  refine St.put 1 0 st rfl rfl rfl rfl (fun w211 he st => ?_)
                                  replace h := h w211 he
                                  exact (straightedgelaw19_GrowthNear.H_s fu).1 h (st.pick [0, 1] (by decide))
                              · refine St.new st (fun q206 w229 hk11 hlt11 he11 st => ?_)
                                refine ⟨he11.kept, ?_⟩
                                replace h := h _ (Ext.trans he12 he11)
                                refine CallF.mono h (fun v192 w193 h => ?_)
                                obtain ⟨hE9, h⟩ := h
                                replace st := st.ext hE9
                                obtain ⟨x194, h⟩ := h
                                refine ⟨x194, ?_⟩
                                refine And.imp_right (fun h => ?_) h
                                replace h := h _ (Ext.refl _)
                                refine CallF.mono h (fun v196 w197 h => ?_)
                                obtain ⟨hE10, h⟩ := h
                                replace st := st.ext hE10
                                obtain ⟨b198, a199, n200, c201, i202, h⟩ := h
                                refine ⟨b198, a199, n200, c201, i202, ?_⟩
                                refine And.imp_right (fun h => ?_) h
                                replace h := h _ (Ext.refl _) q206.block (Nat.le_trans ((Ext.trans (Ext.trans (Ext.trans hE1 hE4) hE5) he12)).size (Nat.le_of_eq hk11.symm)) (st.row (i := 0) rfl).lt (.inr (Nat.le_trans ((Ext.trans (Ext.trans hE4 hE5) he12)).size (Nat.le_of_eq hk11.symm))) (.inr (Nat.le_trans ((Ext.trans hE5 he12)).size (Nat.le_of_eq hk11.symm))) (.inr (Nat.le_trans (he12).size (Nat.le_of_eq hk11.symm))) (.inl (Nat.lt_of_lt_of_le hlt11 ((Ext.refl _)).size)) (.inl (Nat.lt_of_lt_of_le hlt11 (hE9).size)) q209.block (Nat.le_trans ((Ext.trans (Ext.trans hE1 hE4) hE5)).size (Nat.le_of_eq hk12.symm)) (st.row (i := 1) rfl).lt (.inr (Nat.le_trans ((Ext.trans hE4 hE5)).size (Nat.le_of_eq hk12.symm))) (.inr (Nat.le_trans (hE5).size (Nat.le_of_eq hk12.symm))) (.inr (Nat.le_trans ((Ext.refl _)).size (Nat.le_of_eq hk12.symm))) (.inl (Nat.lt_of_lt_of_le hlt12 (he11).size)) (.inl (Nat.lt_of_lt_of_le hlt12 ((Ext.trans he11 hE9)).size)) (St.nb 0 1 0 st rfl rfl (by decide))
                                refine St.put 0 0 st rfl rfl rfl rfl (fun w210 he st => ?_)
                                replace h := h w210 he
                                refine St.put 1 0 st rfl rfl rfl rfl (fun w211 he st => ?_)
                                replace h := h w211 he
                                exact (straightedgelaw19_GrowthNear.H_s fu).1 h (st.pick [0, 1] (by decide))
                          · refine St.new st (fun q206 w230 hk11 hlt11 he11 st => ?_)
                            refine ⟨he11.kept, ?_⟩
                            refine ⟨?_, ?_⟩
                            · replace h := h _ he11
                              refine CallF.mono h (fun v184 w185 h => ?_)
                              obtain ⟨hE5, h⟩ := h
                              replace st := st.ext hE5
                              obtain ⟨b186, a187, n188, c189, i190, h⟩ := h
                              refine ⟨b186, a187, n188, c189, i190, ?_⟩
                              refine And.imp_right (fun h => ?_) h
                              refine ⟨hE5.kept, ?_⟩
                              refine ⟨?_, ?_⟩
                              · replace h := h _ (Ext.refl _)
                                refine CallF.mono h (fun v192 w193 h => ?_)
                                obtain ⟨hE9, h⟩ := h
                                replace st := st.ext hE9
                                obtain ⟨x194, h⟩ := h
                                refine ⟨x194, ?_⟩
                                refine And.imp_right (fun h => ?_) h
                                refine ⟨?_, ?_⟩
                                · replace h := h _ (Ext.refl _)
                                  refine CallF.mono h (fun v196 w197 h => ?_)
                                  obtain ⟨hE10, h⟩ := h
                                  replace st := st.ext hE10
                                  obtain ⟨b198, a199, n200, c201, i202, h⟩ := h
                                  refine ⟨b198, a199, n200, c201, i202, ?_⟩
                                  refine And.imp_right (fun h => ?_) h
                                  refine St.new st (fun q209 w231 hk12 hlt12 he12 st => ?_)
                                  refine ⟨he12.kept, ?_⟩
                                  replace h := h _ he12 q206.block (Nat.le_trans ((Ext.trans hE1 hE4)).size (Nat.le_of_eq hk11.symm)) (st.row (i := 1) rfl).lt (.inr (Nat.le_trans (hE4).size (Nat.le_of_eq hk11.symm))) (.inr (Nat.le_trans ((Ext.refl _)).size (Nat.le_of_eq hk11.symm))) (.inl (Nat.lt_of_lt_of_le hlt11 ((Ext.refl _)).size)) (.inl (Nat.lt_of_lt_of_le hlt11 (hE5).size)) (.inl (Nat.lt_of_lt_of_le hlt11 ((Ext.trans hE5 hE9)).size)) q209.block (Nat.le_trans ((Ext.trans (Ext.trans (Ext.trans (Ext.trans (Ext.trans hE1 hE4) he11) hE5) hE9) hE10)).size (Nat.le_of_eq hk12.symm)) (st.row (i := 0) rfl).lt (.inr (Nat.le_trans ((Ext.trans (Ext.trans (Ext.trans (Ext.trans hE4 he11) hE5) hE9) hE10)).size (Nat.le_of_eq hk12.symm))) (.inr (Nat.le_trans ((Ext.trans (Ext.trans (Ext.trans he11 hE5) hE9) hE10)).size (Nat.le_of_eq hk12.symm))) (.inr (Nat.le_trans ((Ext.trans hE9 hE10)).size (Nat.le_of_eq hk12.symm))) (.inr (Nat.le_trans (hE10).size (Nat.le_of_eq hk12.symm))) (.inr (Nat.le_trans ((Ext.refl _)).size (Nat.le_of_eq hk12.symm))) (St.nb 1 0 0 st rfl rfl (by decide))
                                  replace st := st.pick [1, 0, 2, 3, 4] (by decide)
                                  refine St.put 0 0 st rfl rfl rfl rfl (fun w210 he st => ?_)
                                  replace h := h w210 he
                                  refine St.put 1 0 st rfl rfl rfl rfl (fun w211 he st => ?_)
                                  replace h := h w211 he
                                  exact (straightedgelaw19_GrowthNear.H_s fu).1 h (st.pick [0, 1] (by decide))
                                · refine St.new st (fun q209 w232 hk12 hlt12 he12 st => ?_)
                                  refine ⟨he12.kept, ?_⟩
                                  replace h := h _ he12
                                  refine CallF.mono h (fun v196 w197 h => ?_)
                                  obtain ⟨hE10, h⟩ := h
                                  replace st := st.ext hE10
                                  obtain ⟨b198, a199, n200, c201, i202, h⟩ := h
                                  refine ⟨b198, a199, n200, c201, i202, ?_⟩
                                  refine And.imp_right (fun h => ?_) h
                                  replace h := h _ (Ext.refl _) q206.block (Nat.le_trans ((Ext.trans hE1 hE4)).size (Nat.le_of_eq hk11.symm)) (st.row (i := 1) rfl).lt (.inr (Nat.le_trans (hE4).size (Nat.le_of_eq hk11.symm))) (.inr (Nat.le_trans ((Ext.refl _)).size (Nat.le_of_eq hk11.symm))) (.inl (Nat.lt_of_lt_of_le hlt11 ((Ext.refl _)).size)) (.inl (Nat.lt_of_lt_of_le hlt11 (hE5).size)) (.inl (Nat.lt_of_lt_of_le hlt11 ((Ext.trans (Ext.trans hE5 hE9) he12)).size)) q209.block (Nat.le_trans ((Ext.trans (Ext.trans (Ext.trans (Ext.trans hE1 hE4) he11) hE5) hE9)).size (Nat.le_of_eq hk12.symm)) (st.row (i := 0) rfl).lt (.inr (Nat.le_trans ((Ext.trans (Ext.trans (Ext.trans hE4 he11) hE5) hE9)).size (Nat.le_of_eq hk12.symm))) (.inr (Nat.le_trans ((Ext.trans (Ext.trans he11 hE5) hE9)).size (Nat.le_of_eq hk12.symm))) (.inr (Nat.le_trans (hE9).size (Nat.le_of_eq hk12.symm))) (.inr (Nat.le_trans ((Ext.refl _)).size (Nat.le_of_eq hk12.symm))) (.inl (Nat.lt_of_lt_of_le hlt12 ((Ext.refl _)).size)) (St.nb 1 0 0 st rfl rfl (by decide))
                                  replace st := st.pick [1, 0, 2, 3, 4] (by decide)
                                  refine St.put 0 0 st rfl rfl rfl rfl (fun w210 he st => ?_)
                                  replace h := h w210 he
                                  refine St.put 1 0 st rfl rfl rfl rfl (fun w211 he st => ?_)
                                  replace h := h w211 he
                                  exact (straightedgelaw19_GrowthNear.H_s fu).1 h (st.pick [0, 1] (by decide))
                              · refine St.new st (fun q209 w233 hk12 hlt12 he12 st => ?_)
                                refine ⟨he12.kept, ?_⟩
                                replace h := h _ he12
                                refine CallF.mono h (fun v192 w193 h => ?_)
                                obtain ⟨hE9, h⟩ := h
                                replace st := st.ext hE9
                                obtain ⟨x194, h⟩ := h
                                refine ⟨x194, ?_⟩
                                refine And.imp_right (fun h => ?_) h
                                replace h := h _ (Ext.refl _)
                                refine CallF.mono h (fun v196 w197 h => ?_)
                                obtain ⟨hE10, h⟩ := h
                                replace st := st.ext hE10
                                obtain ⟨b198, a199, n200, c201, i202, h⟩ := h
                                refine ⟨b198, a199, n200, c201, i202, ?_⟩
                                refine And.imp_right (fun h => ?_) h
                                replace h := h _ (Ext.refl _) q206.block (Nat.le_trans ((Ext.trans hE1 hE4)).size (Nat.le_of_eq hk11.symm)) (st.row (i := 1) rfl).lt (.inr (Nat.le_trans (hE4).size (Nat.le_of_eq hk11.symm))) (.inr (Nat.le_trans ((Ext.refl _)).size (Nat.le_of_eq hk11.symm))) (.inl (Nat.lt_of_lt_of_le hlt11 ((Ext.refl _)).size)) (.inl (Nat.lt_of_lt_of_le hlt11 ((Ext.trans hE5 he12)).size)) (.inl (Nat.lt_of_lt_of_le hlt11 ((Ext.trans (Ext.trans hE5 he12) hE9)).size)) q209.block (Nat.le_trans ((Ext.trans (Ext.trans (Ext.trans hE1 hE4) he11) hE5)).size (Nat.le_of_eq hk12.symm)) (st.row (i := 0) rfl).lt (.inr (Nat.le_trans ((Ext.trans (Ext.trans hE4 he11) hE5)).size (Nat.le_of_eq hk12.symm))) (.inr (Nat.le_trans ((Ext.trans he11 hE5)).size (Nat.le_of_eq hk12.symm))) (.inr (Nat.le_trans ((Ext.refl _)).size (Nat.le_of_eq hk12.symm))) (.inl (Nat.lt_of_lt_of_le hlt12 ((Ext.refl _)).size)) (.inl (Nat.lt_of_lt_of_le hlt12 (hE9).size)) (St.nb 1 0 0 st rfl rfl (by decide))
                                replace st := st.pick [1, 0, 2, 3, 4] (by decide)
                                refine St.put 0 0 st rfl rfl rfl rfl (fun w210 he st => ?_)
                                replace h := h w210 he
                                refine St.put 1 0 st rfl rfl rfl rfl (fun w211 he st => ?_)
                                replace h := h w211 he
                                exact (straightedgelaw19_GrowthNear.H_s fu).1 h (st.pick [0, 1] (by decide))
                            · refine St.new st (fun q209 w234 hk12 hlt12 he12 st => ?_)
                              refine ⟨he12.kept, ?_⟩
                              replace h := h _ (Ext.trans he11 he12)
                              refine CallF.mono h (fun v184 w185 h => ?_)
                              obtain ⟨hE5, h⟩ := h
                              replace st := st.ext hE5
                              obtain ⟨b186, a187, n188, c189, i190, h⟩ := h
                              refine ⟨b186, a187, n188, c189, i190, ?_⟩
                              refine And.imp_right (fun h => ?_) h
                              refine ⟨hE5.kept, ?_⟩
                              replace h := h _ (Ext.refl _)
                              refine CallF.mono h (fun v192 w193 h => ?_)
                              obtain ⟨hE9, h⟩ := h
                              replace st := st.ext hE9
                              obtain ⟨x194, h⟩ := h
                              refine ⟨x194, ?_⟩
                              refine And.imp_right (fun h => ?_) h
                              replace h := h _ (Ext.refl _)
                              refine CallF.mono h (fun v196 w197 h => ?_)
                              obtain ⟨hE10, h⟩ := h
                              replace st := st.ext hE10
                              obtain ⟨b198, a199, n200, c201, i202, h⟩ := h
                              refine ⟨b198, a199, n200, c201, i202, ?_⟩
                              refine And.imp_right (fun h => ?_) h
                              replace h := h _ (Ext.refl _) q206.block (Nat.le_trans ((Ext.trans hE1 hE4)).size (Nat.le_of_eq hk11.symm)) (st.row (i := 1) rfl).lt (.inr (Nat.le_trans (hE4).size (Nat.le_of_eq hk11.symm))) (.inr (Nat.le_trans ((Ext.refl _)).size (Nat.le_of_eq hk11.symm))) (.inl (Nat.lt_of_lt_of_le hlt11 (he12).size)) (.inl (Nat.lt_of_lt_of_le hlt11 ((Ext.trans he12 hE5)).size)) (.inl (Nat.lt_of_lt_of_le hlt11 ((Ext.trans (Ext.trans he12 hE5) hE9)).size)) q209.block (Nat.le_trans ((Ext.trans (Ext.trans hE1 hE4) he11)).size (Nat.le_of_eq hk12.symm)) (st.row (i := 0) rfl).lt (.inr (Nat.le_trans ((Ext.trans hE4 he11)).size (Nat.le_of_eq hk12.symm))) (.inr (Nat.le_trans (he11).size (Nat.le_of_eq hk12.symm))) (.inl (Nat.lt_of_lt_of_le hlt12 ((Ext.refl _)).size)) (.inl (Nat.lt_of_lt_of_le hlt12 (hE5).size)) (.inl (Nat.lt_of_lt_of_le hlt12 ((Ext.trans hE5 hE9)).size)) (St.nb 1 0 0 st rfl rfl (by decide))
                              replace st := st.pick [1, 0, 2, 3, 4] (by decide)
                              refine St.put 0 0 st rfl rfl rfl rfl (fun w210 he st => ?_)
                              replace h := h w210 he
                              refine St.put 1 0 st rfl rfl rfl rfl (fun w211 he st => ?_)
                              replace h := h w211 he
                              exact (straightedgelaw19_GrowthNear.H_s fu).1 h (st.pick [0, 1] (by decide))
                          · refine St.new st (fun q209 w235 hk12 hlt12 he12 st => ?_)
                            refine ⟨he12.kept, ?_⟩
                            refine ⟨?_, ?_⟩
                            · replace h := h _ he12
                              refine CallF.mono h (fun v184 w185 h => ?_)
                              obtain ⟨hE5, h⟩ := h
                              replace st := st.ext hE5
                              obtain ⟨b186, a187, n188, c189, i190, h⟩ := h
                              refine ⟨b186, a187, n188, c189, i190, ?_⟩
                              refine And.imp_right (fun h => ?_) h
                              refine ⟨hE5.kept, ?_⟩
                              refine ⟨?_, ?_⟩
                              · replace h := h _ (Ext.refl _)
                                refine CallF.mono h (fun v192 w193 h => ?_)
                                obtain ⟨hE9, h⟩ := h
                                replace st := st.ext hE9
                                obtain ⟨x194, h⟩ := h
                                refine ⟨x194, ?_⟩
                                refine And.imp_right (fun h => ?_) h
                                refine ⟨?_, ?_⟩
                                · replace h := h _ (Ext.refl _)
                                  refine CallF.mono h (fun v196 w197 h => ?_)
                                  obtain ⟨hE10, h⟩ := h
                                  replace st := st.ext hE10
                                  obtain ⟨b198, a199, n200, c201, i202, h⟩ := h
                                  refine ⟨b198, a199, n200, c201, i202, ?_⟩
                                  refine And.imp_right (fun h => ?_) h
                                  refine St.new st (fun q206 w236 hk11 hlt11 he11 st => ?_)
                                  refine ⟨he11.kept, ?_⟩
                                  replace h := h _ he11 q206.block (Nat.le_trans ((Ext.trans (Ext.trans (Ext.trans (Ext.trans (Ext.trans hE1 hE4) he12) hE5) hE9) hE10)).size (Nat.le_of_eq hk11.symm)) (st.row (i := 0) rfl).lt (.inr (Nat.le_trans ((Ext.trans (Ext.trans (Ext.trans (Ext.trans hE4 he12) hE5) hE9) hE10)).size (Nat.le_of_eq hk11.symm))) (.inr (Nat.le_trans ((Ext.trans (Ext.trans (Ext.trans he12 hE5) hE9) hE10)).size (Nat.le_of_eq hk11.symm))) (.inr (Nat.le_trans ((Ext.trans hE9 hE10)).size (Nat.le_of_eq hk11.symm))) (.inr (Nat.le_trans (hE10).size (Nat.le_of_eq hk11.symm))) (.inr (Nat.le_trans ((Ext.refl _)).size (Nat.le_of_eq hk11.symm))) q209.block (Nat.le_trans ((Ext.trans hE1 hE4)).size (Nat.le_of_eq hk12.symm)) (st.row (i := 1) rfl).lt (.inr (Nat.le_trans (hE4).size (Nat.le_of_eq hk12.symm))) (.inr (Nat.le_trans ((Ext.refl _)).size (Nat.le_of_eq hk12.symm))) (.inl (Nat.lt_of_lt_of_le hlt12 ((Ext.refl _)).size)) (.inl (Nat.lt_of_lt_of_le hlt12 (hE5).size)) (.inl (Nat.lt_of_lt_of_le hlt12 ((Ext.trans hE5 hE9)).size)) (St.nb 0 1 0 st rfl rfl (by decide))
                                  refine St.put 0 0 st rfl rfl rfl rfl (fun w210 he st => ?_)
                                  replace h := h w210 he
                                  refine St.put 1 0 st rfl rfl rfl rfl (fun w211 he st => ?_)
                                  replace h := h w211 he
                                  exact (straightedgelaw19_GrowthNear.H_s fu).1 h (st.pick [0, 1] (by decide))
                                · refine St.new st (fun q206 w237 hk11 hlt11 he11 st => ?_)
                                  refine ⟨he11.kept, ?_⟩
                                  replace h := h _ he11
                                  refine CallF.mono h (fun v196 w197 h => ?_)
                                  obtain ⟨hE10, h⟩ := h
                                  replace st := st.ext hE10
                                  obtain ⟨b198, a199, n200, c201, i202, h⟩ := h
                                  refine ⟨b198, a199, n200, c201, i202, ?_⟩
                                  refine And.imp_right (fun h => ?_) h
                                  replace h := h _ (Ext.refl _) q206.block (Nat.le_trans ((Ext.trans (Ext.trans (Ext.trans (Ext.trans hE1 hE4) he12) hE5) hE9)).size (Nat.le_of_eq hk11.symm)) (st.row (i := 0) rfl).lt (.inr (Nat.le_trans ((Ext.trans (Ext.trans (Ext.trans hE4 he12) hE5) hE9)).size (Nat.le_of_eq hk11.symm))) (.inr (Nat.le_trans ((Ext.trans (Ext.trans he12 hE5) hE9)).size (Nat.le_of_eq hk11.symm))) (.inr (Nat.le_trans (hE9).size (Nat.le_of_eq hk11.symm))) (.inr (Nat.le_trans ((Ext.refl _)).size (Nat.le_of_eq hk11.symm))) (.inl (Nat.lt_of_lt_of_le hlt11 ((Ext.refl _)).size)) q209.block (Nat.le_trans ((Ext.trans hE1 hE4)).size (Nat.le_of_eq hk12.symm)) (st.row (i := 1) rfl).lt (.inr (Nat.le_trans (hE4).size (Nat.le_of_eq hk12.symm))) (.inr (Nat.le_trans ((Ext.refl _)).size (Nat.le_of_eq hk12.symm))) (.inl (Nat.lt_of_lt_of_le hlt12 ((Ext.refl _)).size)) (.inl (Nat.lt_of_lt_of_le hlt12 (hE5).size)) (.inl (Nat.lt_of_lt_of_le hlt12 ((Ext.trans (Ext.trans hE5 hE9) he11)).size)) (St.nb 0 1 0 st rfl rfl (by decide))
                                  refine St.put 0 0 st rfl rfl rfl rfl (fun w210 he st => ?_)
                                  replace h := h w210 he
                                  refine St.put 1 0 st rfl rfl rfl rfl (fun w211 he st => ?_)
                                  replace h := h w211 he
                                  exact (straightedgelaw19_GrowthNear.H_s fu).1 h (st.pick [0, 1] (by decide))
                              · refine St.new st (fun q206 w238 hk11 hlt11 he11 st => ?_)
                                refine ⟨he11.kept, ?_⟩
                                replace h := h _ he11
                                refine CallF.mono h (fun v192 w193 h => ?_)
                                obtain ⟨hE9, h⟩ := h
                                replace st := st.ext hE9
                                obtain ⟨x194, h⟩ := h
                                refine ⟨x194, ?_⟩
                                refine And.imp_right (fun h => ?_) h
                                replace h := h _ (Ext.refl _)
                                refine CallF.mono h (fun v196 w197 h => ?_)
                                obtain ⟨hE10, h⟩ := h
                                replace st := st.ext hE10
                                obtain ⟨b198, a199, n200, c201, i202, h⟩ := h
                                refine ⟨b198, a199, n200, c201, i202, ?_⟩
                                refine And.imp_right (fun h => ?_) h
                                replace h := h _ (Ext.refl _) q206.block (Nat.le_trans ((Ext.trans (Ext.trans (Ext.trans hE1 hE4) he12) hE5)).size (Nat.le_of_eq hk11.symm)) (st.row (i := 0) rfl).lt (.inr (Nat.le_trans ((Ext.trans (Ext.trans hE4 he12) hE5)).size (Nat.le_of_eq hk11.symm))) (.inr (Nat.le_trans ((Ext.trans he12 hE5)).size (Nat.le_of_eq hk11.symm))) (.inr (Nat.le_trans ((Ext.refl _)).size (Nat.le_of_eq hk11.symm))) (.inl (Nat.lt_of_lt_of_le hlt11 ((Ext.refl _)).size)) (.inl (Nat.lt_of_lt_of_le hlt11 (hE9).size)) q209.block (Nat.le_trans ((Ext.trans hE1 hE4)).size (Nat.le_of_eq hk12.symm)) (st.row (i := 1) rfl).lt (.inr (Nat.le_trans (hE4).size (Nat.le_of_eq hk12.symm))) (.inr (Nat.le_trans ((Ext.refl _)).size (Nat.le_of_eq hk12.symm))) (.inl (Nat.lt_of_lt_of_le hlt12 ((Ext.refl _)).size)) (.inl (Nat.lt_of_lt_of_le hlt12 ((Ext.trans hE5 he11)).size)) (.inl (Nat.lt_of_lt_of_le hlt12 ((Ext.trans (Ext.trans hE5 he11) hE9)).size)) (St.nb 0 1 0 st rfl rfl (by decide))
                                refine St.put 0 0 st rfl rfl rfl rfl (fun w210 he st => ?_)
                                replace h := h w210 he
                                refine St.put 1 0 st rfl rfl rfl rfl (fun w211 he st => ?_)
                                replace h := h w211 he
                                exact (straightedgelaw19_GrowthNear.H_s fu).1 h (st.pick [0, 1] (by decide))
                            · refine St.new st (fun q206 w239 hk11 hlt11 he11 st => ?_)
                              refine ⟨he11.kept, ?_⟩
                              replace h := h _ (Ext.trans he12 he11)
                              refine CallF.mono h (fun v184 w185 h => ?_)
                              obtain ⟨hE5, h⟩ := h
                              replace st := st.ext hE5
                              obtain ⟨b186, a187, n188, c189, i190, h⟩ := h
                              refine ⟨b186, a187, n188, c189, i190, ?_⟩
                              refine And.imp_right (fun h => ?_) h
                              refine ⟨hE5.kept, ?_⟩
                              replace h := h _ (Ext.refl _)
                              refine CallF.mono h (fun v192 w193 h => ?_)
                              obtain ⟨hE9, h⟩ := h
                              replace st := st.ext hE9
                              obtain ⟨x194, h⟩ := h
                              refine ⟨x194, ?_⟩
                              refine And.imp_right (fun h => ?_) h
                              replace h := h _ (Ext.refl _)
                              refine CallF.mono h (fun v196 w197 h => ?_)
                              obtain ⟨hE10, h⟩ := h
                              replace st := st.ext hE10
                              obtain ⟨b198, a199, n200, c201, i202, h⟩ := h
                              refine ⟨b198, a199, n200, c201, i202, ?_⟩
                              refine And.imp_right (fun h => ?_) h
                              replace h := h _ (Ext.refl _) q206.block (Nat.le_trans ((Ext.trans (Ext.trans hE1 hE4) he12)).size (Nat.le_of_eq hk11.symm)) (st.row (i := 0) rfl).lt (.inr (Nat.le_trans ((Ext.trans hE4 he12)).size (Nat.le_of_eq hk11.symm))) (.inr (Nat.le_trans (he12).size (Nat.le_of_eq hk11.symm))) (.inl (Nat.lt_of_lt_of_le hlt11 ((Ext.refl _)).size)) (.inl (Nat.lt_of_lt_of_le hlt11 (hE5).size)) (.inl (Nat.lt_of_lt_of_le hlt11 ((Ext.trans hE5 hE9)).size)) q209.block (Nat.le_trans ((Ext.trans hE1 hE4)).size (Nat.le_of_eq hk12.symm)) (st.row (i := 1) rfl).lt (.inr (Nat.le_trans (hE4).size (Nat.le_of_eq hk12.symm))) (.inr (Nat.le_trans ((Ext.refl _)).size (Nat.le_of_eq hk12.symm))) (.inl (Nat.lt_of_lt_of_le hlt12 (he11).size)) (.inl (Nat.lt_of_lt_of_le hlt12 ((Ext.trans he11 hE5)).size)) (.inl (Nat.lt_of_lt_of_le hlt12 ((Ext.trans (Ext.trans he11 hE5) hE9)).size)) (St.nb 0 1 0 st rfl rfl (by decide))
                              refine St.put 0 0 st rfl rfl rfl rfl (fun w210 he st => ?_)
                              replace h := h w210 he
                              refine St.put 1 0 st rfl rfl rfl rfl (fun w211 he st => ?_)
                              replace h := h w211 he
                              exact (straightedgelaw19_GrowthNear.H_s fu).1 h (st.pick [0, 1] (by decide))
                        · refine St.new st (fun q206 w240 hk11 hlt11 he11 st => ?_)
                          refine ⟨he11.kept, ?_⟩
                          refine ⟨?_, ?_⟩
                          · replace h := h _ he11
                            refine CallF.mono h (fun v180 w181 h => ?_)
                            obtain ⟨hE4, h⟩ := h
                            replace st := st.ext hE4
                            obtain ⟨x182, h⟩ := h
                            refine ⟨x182, ?_⟩
                            refine And.imp_right (fun h => ?_) h
                            refine ⟨hE4.kept, ?_⟩
                            refine ⟨?_, ?_⟩
                            · replace h := h _ (Ext.refl _)
                              refine CallF.mono h (fun v184 w185 h => ?_)
                              obtain ⟨hE5, h⟩ := h
                              replace st := st.ext hE5
                              obtain ⟨b186, a187, n188, c189, i190, h⟩ := h
                              refine ⟨b186, a187, n188, c189, i190, ?_⟩
                              refine And.imp_right (fun h => ?_) h
                              refine ⟨hE5.kept, ?_⟩
                              refine ⟨?_, ?_⟩
                              · replace h := h _ (Ext.refl _)
                                refine CallF.mono h (fun v192 w193 h => ?_)
                                obtain ⟨hE9, h⟩ := h
                                replace st := st.ext hE9
                                obtain ⟨x194, h⟩ := h
                                refine ⟨x194, ?_⟩
                                refine And.imp_right (fun h => ?_) h
                                refine ⟨?_, ?_⟩
                                · replace h := h _ (Ext.refl _)
                                  refine CallF.mono h (fun v196 w197 h => ?_)
                                  obtain ⟨hE10, h⟩ := h
                                  replace st := st.ext hE10
                                  obtain ⟨b198, a199, n200, c201, i202, h⟩ := h
                                  refine ⟨b198, a199, n200, c201, i202, ?_⟩
                                  refine And.imp_right (fun h => ?_) h
                                  refine St.new st (fun q209 w241 hk12 hlt12 he12 st => ?_)
                                  refine ⟨he12.kept, ?_⟩
                                  replace h := h _ he12 q206.block (Nat.le_trans (hE1).size (Nat.le_of_eq hk11.symm)) (st.row (i := 1) rfl).lt (.inr (Nat.le_trans ((Ext.refl _)).size (Nat.le_of_eq hk11.symm))) (.inl (Nat.lt_of_lt_of_le hlt11 ((Ext.refl _)).size)) (.inl (Nat.lt_of_lt_of_le hlt11 (hE4).size)) (.inl (Nat.lt_of_lt_of_le hlt11 ((Ext.trans hE4 hE5)).size)) (.inl (Nat.lt_of_lt_of_le hlt11 ((Ext.trans (Ext.trans hE4 hE5) hE9)).size)) q209.block (Nat.le_trans ((Ext.trans (Ext.trans (Ext.trans (Ext.trans (Ext.trans hE1 he11) hE4) hE5) hE9) hE10)).size (Nat.le_of_eq hk12.symm)) (st.row (i := 0) rfl).lt (.inr (Nat.le_trans ((Ext.trans (Ext.trans (Ext.trans (Ext.trans he11 hE4) hE5) hE9) hE10)).size (Nat.le_of_eq hk12.symm))) (.inr (Nat.le_trans ((Ext.trans (Ext.trans hE5 hE9) hE10)).size (Nat.le_of_eq hk12.symm))) (.inr (Nat.le_trans ((Ext.trans hE9 hE10)).size (Nat.le_of_eq hk12.symm))) (.inr (Nat.le_trans (hE10).size (Nat.le_of_eq hk12.symm))) (.inr (Nat.le_trans ((Ext.refl _)).size (Nat.le_of_eq hk12.symm))) (St.nb 1 0 0 st rfl rfl (by decide))
                                  replace st := st.pick [1, 0, 2, 3, 4] (by decide)
                                  refine St.put 0 0 st rfl rfl rfl rfl (fun w210 he st => ?_)
                                  replace h := h w210 he
                                  refine St.put 1 0 st rfl rfl rfl rfl (fun w211 he st => ?_)
                                  replace h := h w211 he
                                  exact (straightedgelaw19_GrowthNear.H_s fu).1 h (st.pick [0, 1] (by decide))
                                · refine St.new st (fun q209 w242 hk12 hlt12 he12 st => ?_)
                                  refine ⟨he12.kept, ?_⟩
                                  replace h := h _ he12
                                  refine CallF.mono h (fun v196 w197 h => ?_)
                                  obtain ⟨hE10, h⟩ := h
                                  replace st := st.ext hE10
                                  obtain ⟨b198, a199, n200, c201, i202, h⟩ := h
                                  refine ⟨b198, a199, n200, c201, i202, ?_⟩
                                  refine And.imp_right (fun h => ?_) h
                                  replace h := h _ (Ext.refl _) q206.block (Nat.le_trans (hE1).size (Nat.le_of_eq hk11.symm)) (st.row (i := 1) rfl).lt (.inr (Nat.le_trans ((Ext.refl _)).size (Nat.le_of_eq hk11.symm))) (.inl (Nat.lt_of_lt_of_le hlt11 ((Ext.refl _)).size)) (.inl (Nat.lt_of_lt_of_le hlt11 (hE4).size)) (.inl (Nat.lt_of_lt_of_le hlt11 ((Ext.trans hE4 hE5)).size)) (.inl (Nat.lt_of_lt_of_le hlt11 ((Ext.trans (Ext.trans (Ext.trans hE4 hE5) hE9) he12)).size)) q209.block (Nat.le_trans ((Ext.trans (Ext.trans (Ext.trans (Ext.trans hE1 he11) hE4) hE5) hE9)).size (Nat.le_of_eq hk12.symm)) (st.row (i := 0) rfl).lt (.inr (Nat.le_trans ((Ext.trans (Ext.trans (Ext.trans he11 hE4) hE5) hE9)).size (Nat.le_of_eq hk12.symm))) (.inr (Nat.le_trans ((Ext.trans hE5 hE9)).size (Nat.le_of_eq hk12.symm))) (.inr (Nat.le_trans (hE9).size (Nat.le_of_eq hk12.symm))) (.inr (Nat.le_trans ((Ext.refl _)).size (Nat.le_of_eq hk12.symm))) (.inl (Nat.lt_of_lt_of_le hlt12 ((Ext.refl _)).size)) (St.nb 1 0 0 st rfl rfl (by decide))
                                  replace st := st.pick [1, 0, 2, 3, 4] (by decide)
                                  refine St.put 0 0 st rfl rfl rfl rfl (fun w210 he st => ?_)
                                  replace h := h w210 he
                                  refine St.put 1 0 st rfl rfl rfl rfl (fun w211 he st => ?_)
                                  replace h := h w211 he
                                  exact (straightedgelaw19_GrowthNear.H_s fu).1 h (st.pick [0, 1] (by decide))
                              · refine St.new st (fun q209 w243 hk12 hlt12 he12 st => ?_)
                                refine ⟨he12.kept, ?_⟩
                                replace h := h _ he12
                                refine CallF.mono h (fun v192 w193 h => ?_)
                                obtain ⟨hE9, h⟩ := h
                                replace st := st.ext hE9
                                obtain ⟨x194, h⟩ := h
                                refine ⟨x194, ?_⟩
                                refine And.imp_right (fun h => ?_) h
                                replace h := h _ (Ext.refl _)
                                refine CallF.mono h (fun v196 w197 h => ?_)
                                obtain ⟨hE10, h⟩ := h
                                replace st := st.ext hE10
                                obtain ⟨b198, a199, n200, c201, i202, h⟩ := h
                                refine ⟨b198, a199, n200, c201, i202, ?_⟩
                                refine And.imp_right (fun h => ?_) h
                                replace h := h _ (Ext.refl _) q206.block (Nat.le_trans (hE1).size (Nat.le_of_eq hk11.symm)) (st.row (i := 1) rfl).lt (.inr (Nat.le_trans ((Ext.refl _)).size (Nat.le_of_eq hk11.symm))) (.inl (Nat.lt_of_lt_of_le hlt11 ((Ext.refl _)).size)) (.inl (Nat.lt_of_lt_of_le hlt11 (hE4).size)) (.inl (Nat.lt_of_lt_of_le hlt11 ((Ext.trans (Ext.trans hE4 hE5) he12)).size)) (.inl (Nat.lt_of_lt_of_le hlt11 ((Ext.trans (Ext.trans (Ext.trans hE4 hE5) he12) hE9)).size)) q209.block (Nat.le_trans ((Ext.trans (Ext.trans (Ext.trans hE1 he11) hE4) hE5)).size (Nat.le_of_eq hk12.symm)) (st.row (i := 0) rfl).lt (.inr (Nat.le_trans ((Ext.trans (Ext.trans he11 hE4) hE5)).size (Nat.le_of_eq hk12.symm))) (.inr (Nat.le_trans (hE5).size (Nat.le_of_eq hk12.symm))) (.inr (Nat.le_trans ((Ext.refl _)).size (Nat.le_of_eq hk12.symm))) (.inl (Nat.lt_of_lt_of_le hlt12 ((Ext.refl _)).size)) (.inl (Nat.lt_of_lt_of_le hlt12 (hE9).size)) (St.nb 1 0 0 st rfl rfl (by decide))
                                replace st := st.pick [1, 0, 2, 3, 4] (by decide)
                                refine St.put 0 0 st rfl rfl rfl rfl (fun w210 he st => ?_)
                                replace h := h w210 he
                                refine St.put 1 0 st rfl rfl rfl rfl (fun w211 he st => ?_)
                                replace h := h w211 he
                                exact (straightedgelaw19_GrowthNear.H_s fu).1 h (st.pick [0, 1] (by decide))
                            · refine St.new st (fun q209 w244 hk12 hlt12 he12 st => ?_)
                              refine ⟨he12.kept, ?_⟩
                              replace h := h _ he12
                              refine CallF.mono h (fun v184 w185 h => ?_)
                              obtain ⟨hE5, h⟩ := h
                              replace st := st.ext hE5
                              obtain ⟨b186, a187, n188, c189, i190, h⟩ := h
                              refine ⟨b186, a187, n188, c189, i190, ?_⟩
                              refine And.imp_right (fun h => ?_) h
                              refine ⟨hE5.kept, ?_⟩
                              replace h := h _ (Ext.refl _)
                              refine CallF.mono h (fun v192 w193 h => ?_)
                              obtain ⟨hE9, h⟩ := h
                              replace st := st.ext hE9
                              obtain ⟨x194, h⟩ := h
                              refine ⟨x194, ?_⟩
                              refine And.imp_right (fun h => ?_) h
                              replace h := h _ (Ext.refl _)
                              refine CallF.mono h (fun v196 w197 h => ?_)
                              obtain ⟨hE10, h⟩ := h
                              replace st := st.ext hE10
                              obtain ⟨b198, a199, n200, c201, i202, h⟩ := h
                              refine ⟨b198, a199, n200, c201, i202, ?_⟩
                              refine And.imp_right (fun h => ?_) h
                              replace h := h _ (Ext.refl _) q206.block (Nat.le_trans (hE1).size (Nat.le_of_eq hk11.symm)) (st.row (i := 1) rfl).lt (.inr (Nat.le_trans ((Ext.refl _)).size (Nat.le_of_eq hk11.symm))) (.inl (Nat.lt_of_lt_of_le hlt11 ((Ext.refl _)).size)) (.inl (Nat.lt_of_lt_of_le hlt11 ((Ext.trans hE4 he12)).size)) (.inl (Nat.lt_of_lt_of_le hlt11 ((Ext.trans (Ext.trans hE4 he12) hE5)).size)) (.inl (Nat.lt_of_lt_of_le hlt11 ((Ext.trans (Ext.trans (Ext.trans hE4 he12) hE5) hE9)).size)) q209.block (Nat.le_trans ((Ext.trans (Ext.trans hE1 he11) hE4)).size (Nat.le_of_eq hk12.symm)) (st.row (i := 0) rfl).lt (.inr (Nat.le_trans ((Ext.trans he11 hE4)).size (Nat.le_of_eq hk12.symm))) (.inr (Nat.le_trans ((Ext.refl _)).size (Nat.le_of_eq hk12.symm))) (.inl (Nat.lt_of_lt_of_le hlt12 ((Ext.refl _)).size)) (.inl (Nat.lt_of_lt_of_le hlt12 (hE5).size)) (.inl (Nat.lt_of_lt_of_le hlt12 ((Ext.trans hE5 hE9)).size)) (St.nb 1 0 0 st rfl rfl (by decide))
                              replace st := st.pick [1, 0, 2, 3, 4] (by decide)
                              refine St.put 0 0 st rfl rfl rfl rfl (fun w210 he st => ?_)
                              replace h := h w210 he
                              refine St.put 1 0 st rfl rfl rfl rfl (fun w211 he st => ?_)
                              replace h := h w211 he
                              exact (straightedgelaw19_GrowthNear.H_s fu).1 h (st.pick [0, 1] (by decide))
                          · refine St.new st (fun q209 w245 hk12 hlt12 he12 st => ?_)
                            refine ⟨he12.kept, ?_⟩
                            replace h := h _ (Ext.trans he11 he12)
                            refine CallF.mono h (fun v180 w181 h => ?_)
                            obtain ⟨hE4, h⟩ := h
                            replace st := st.ext hE4
                            obtain ⟨x182, h⟩ := h
                            refine ⟨x182, ?_⟩
                            refine And.imp_right (fun h => ?_) h
                            refine ⟨hE4.kept, ?_⟩
                            replace h := h _ (Ext.refl _)
                            refine CallF.mono h (fun v184 w185 h => ?_)
                            obtain ⟨hE5, h⟩ := h
                            replace st := st.ext hE5
                            obtain ⟨b186, a187, n188, c189, i190, h⟩ := h
                            refine ⟨b186, a187, n188, c189, i190, ?_⟩
                            refine And.imp_right (fun h => ?_) h
                            refine ⟨hE5.kept, ?_⟩
                            replace h := h _ (Ext.refl _)
                            refine CallF.mono h (fun v192 w193 h => ?_)
                            obtain ⟨hE9, h⟩ := h
                            replace st := st.ext hE9
                            obtain ⟨x194, h⟩ := h
                            refine ⟨x194, ?_⟩
                            refine And.imp_right (fun h => ?_) h
                            replace h := h _ (Ext.refl _)
                            refine CallF.mono h (fun v196 w197 h => ?_)
                            obtain ⟨hE10, h⟩ := h
                            replace st := st.ext hE10
                            obtain ⟨b198, a199, n200, c201, i202, h⟩ := h
                            refine ⟨b198, a199, n200, c201, i202, ?_⟩
                            refine And.imp_right (fun h => ?_) h
                            replace h := h _ (Ext.refl _) q206.block (Nat.le_trans (hE1).size (Nat.le_of_eq hk11.symm)) (st.row (i := 1) rfl).lt (.inr (Nat.le_trans ((Ext.refl _)).size (Nat.le_of_eq hk11.symm))) (.inl (Nat.lt_of_lt_of_le hlt11 (he12).size)) (.inl (Nat.lt_of_lt_of_le hlt11 ((Ext.trans he12 hE4)).size)) (.inl (Nat.lt_of_lt_of_le hlt11 ((Ext.trans (Ext.trans he12 hE4) hE5)).size)) (.inl (Nat.lt_of_lt_of_le hlt11 ((Ext.trans (Ext.trans (Ext.trans he12 hE4) hE5) hE9)).size)) q209.block (Nat.le_trans ((Ext.trans hE1 he11)).size (Nat.le_of_eq hk12.symm)) (st.row (i := 0) rfl).lt (.inr (Nat.le_trans (he11).size (Nat.le_of_eq hk12.symm))) (.inl (Nat.lt_of_lt_of_le hlt12 ((Ext.refl _)).size)) (.inl (Nat.lt_of_lt_of_le hlt12 (hE4).size)) (.inl (Nat.lt_of_lt_of_le hlt12 ((Ext.trans hE4 hE5)).size)) (.inl (Nat.lt_of_lt_of_le hlt12 ((Ext.trans (Ext.trans hE4 hE5) hE9)).size)) (St.nb 1 0 0 st rfl rfl (by decide))
                            replace st := st.pick [1, 0, 2, 3, 4] (by decide)
                            refine St.put 0 0 st rfl rfl rfl rfl (fun w210 he st => ?_)
                            replace h := h w210 he
                            refine St.put 1 0 st rfl rfl rfl rfl (fun w211 he st => ?_)
                            replace h := h w211 he
                            exact (straightedgelaw19_GrowthNear.H_s fu).1 h (st.pick [0, 1] (by decide))
                        · refine St.new st (fun q209 w246 hk12 hlt12 he12 st => ?_)
                          refine ⟨he12.kept, ?_⟩
                          refine ⟨?_, ?_⟩
                          · replace h := h _ he12
                            refine CallF.mono h (fun v180 w181 h => ?_)
                            obtain ⟨hE4, h⟩ := h
                            replace st := st.ext hE4
                            obtain ⟨x182, h⟩ := h
                            refine ⟨x182, ?_⟩
                            refine And.imp_right (fun h => ?_) h
                            refine ⟨hE4.kept, ?_⟩
                            refine ⟨?_, ?_⟩
                            · replace h := h _ (Ext.refl _)
                              refine CallF.mono h (fun v184 w185 h => ?_)
                              obtain ⟨hE5, h⟩ := h
                              replace st := st.ext hE5
                              obtain ⟨b186, a187, n188, c189, i190, h⟩ := h
                              refine ⟨b186, a187, n188, c189, i190, ?_⟩
                              refine And.imp_right (fun h => ?_) h
                              refine ⟨hE5.kept, ?_⟩
                              refine ⟨?_, ?_⟩
                              · replace h := h _ (Ext.refl _)
                                refine CallF.mono h (fun v192 w193 h => ?_)
                                obtain ⟨hE9, h⟩ := h
                                replace st := st.ext hE9
                                obtain ⟨x194, h⟩ := h
                                refine ⟨x194, ?_⟩
                                refine And.imp_right (fun h => ?_) h
                                refine ⟨?_, ?_⟩
                                · replace h := h _ (Ext.refl _)
                                  refine CallF.mono h (fun v196 w197 h => ?_)
                                  obtain ⟨hE10, h⟩ := h
                                  replace st := st.ext hE10
                                  obtain ⟨b198, a199, n200, c201, i202, h⟩ := h
                                  refine ⟨b198, a199, n200, c201, i202, ?_⟩
                                  refine And.imp_right (fun h => ?_) h
                                  refine St.new st (fun q206 w247 hk11 hlt11 he11 st => ?_)
                                  refine ⟨he11.kept, ?_⟩
                                  replace h := h _ he11 q206.block (Nat.le_trans ((Ext.trans (Ext.trans (Ext.trans (Ext.trans (Ext.trans hE1 he12) hE4) hE5) hE9) hE10)).size (Nat.le_of_eq hk11.symm)) (st.row (i := 0) rfl).lt (.inr (Nat.le_trans ((Ext.trans (Ext.trans (Ext.trans (Ext.trans he12 hE4) hE5) hE9) hE10)).size (Nat.le_of_eq hk11.symm))) (.inr (Nat.le_trans ((Ext.trans (Ext.trans hE5 hE9) hE10)).size (Nat.le_of_eq hk11.symm))) (.inr (Nat.le_trans ((Ext.trans hE9 hE10)).size (Nat.le_of_eq hk11.symm))) (.inr (Nat.le_trans (hE10).size (Nat.le_of_eq hk11.symm))) (.inr (Nat.le_trans ((Ext.refl _)).size (Nat.le_of_eq hk11.symm))) q209.block (Nat.le_trans (hE1).size (Nat.le_of_eq hk12.symm)) (st.row (i := 1) rfl).lt (.inr (Nat.le_trans ((Ext.refl _)).size (Nat.le_of_eq hk12.symm))) (.inl (Nat.lt_of_lt_of_le hlt12 ((Ext.refl _)).size)) (.inl (Nat.lt_of_lt_of_le hlt12 (hE4).size)) (.inl (Nat.lt_of_lt_of_le hlt12 ((Ext.trans hE4 hE5)).size)) (.inl (Nat.lt_of_lt_of_le hlt12 ((Ext.trans (Ext.trans hE4 hE5) hE9)).size)) (St.nb 0 1 0 st rfl rfl (by decide))
                                  refine St.put 0 0 st rfl rfl rfl rfl (fun w210 he st => ?_)
                                  replace h := h w210 he
                                  refine St.put 1 0 st rfl rfl rfl rfl (fun w211 he st => ?_)
                                  replace h := h w211 he
                                  exact (straightedgelaw19_GrowthNear.H_s fu).1 h (st.pick [0, 1] (by decide))
                                · refine St.new st (fun q206 w248 hk11 hlt11 he11 st => ?_)
                                  refine ⟨he11.kept, ?_⟩
                                  replace h := h _ he11
                                  refine CallF.mono h (fun v196 w197 h => ?_)
                                  obtain ⟨hE10, h⟩ := h
                                  replace st := st.ext hE10
                                  obtain ⟨b198, a199, n200, c201, i202, h⟩ := h
                                  refine ⟨b198, a199, n200, c201, i202, ?_⟩
                                  refine And.imp_right (fun h => ?_) h
                                  replace h := h _ (Ext.refl _) q206.block (Nat.le_trans ((Ext.trans (Ext.trans (Ext.trans (Ext.trans hE1 he12) hE4) hE5) hE9)).size (Nat.le_of_eq hk11.symm)) (st.row (i := 0) rfl).lt (.inr (Nat.le_trans ((Ext.trans (Ext.trans (Ext.trans he12 hE4) hE5) hE9)).size (Nat.le_of_eq hk11.symm))) (.inr (Nat.le_trans ((Ext.trans hE5 hE9)).size (Nat.le_of_eq hk11.symm))) (.inr (Nat.le_trans (hE9).size (Nat.le_of_eq hk11.symm))) (.inr (Nat.le_trans ((Ext.refl _)).size (Nat.le_of_eq hk11.symm))) (.inl (Nat.lt_of_lt_of_le hlt11 ((Ext.refl _)).size)) q209.block (Nat.le_trans (hE1).size (Nat.le_of_eq hk12.symm)) (st.row (i := 1) rfl).lt (.inr (Nat.le_trans ((Ext.refl _)).size (Nat.le_of_eq hk12.symm))) (.inl (Nat.lt_of_lt_of_le hlt12 ((Ext.refl _)).size)) (.inl (Nat.lt_of_lt_of_le hlt12 (hE4).size)) (.inl (Nat.lt_of_lt_of_le hlt12 ((Ext.trans hE4 hE5)).size)) (.inl (Nat.lt_of_lt_of_le hlt12 ((Ext.trans (Ext.trans (Ext.trans hE4 hE5) hE9) he11)).size)) (St.nb 0 1 0 st rfl rfl (by decide))
                                  refine St.put 0 0 st rfl rfl rfl rfl (fun w210 he st => ?_)
                                  replace h := h w210 he
                                  refine St.put 1 0 st rfl rfl rfl rfl (fun w211 he st => ?_)
                                  replace h := h w211 he
                                  exact (straightedgelaw19_GrowthNear.H_s fu).1 h (st.pick [0, 1] (by decide))
                              · refine St.new st (fun q206 w249 hk11 hlt11 he11 st => ?_)
                                refine ⟨he11.kept, ?_⟩
                                replace h := h _ he11
                                refine CallF.mono h (fun v192 w193 h => ?_)
                                obtain ⟨hE9, h⟩ := h
                                replace st := st.ext hE9
                                obtain ⟨x194, h⟩ := h
                                refine ⟨x194, ?_⟩
                                refine And.imp_right (fun h => ?_) h
                                replace h := h _ (Ext.refl _)
                                refine CallF.mono h (fun v196 w197 h => ?_)
                                obtain ⟨hE10, h⟩ := h
                                replace st := st.ext hE10
                                obtain ⟨b198, a199, n200, c201, i202, h⟩ := h
                                refine ⟨b198, a199, n200, c201, i202, ?_⟩
                                refine And.imp_right (fun h => ?_) h
                                replace h := h _ (Ext.refl _) q206.block (Nat.le_trans ((Ext.trans (Ext.trans (Ext.trans hE1 he12) hE4) hE5)).size (Nat.le_of_eq hk11.symm)) (st.row (i := 0) rfl).lt (.inr (Nat.le_trans ((Ext.trans (Ext.trans he12 hE4) hE5)).size (Nat.le_of_eq hk11.symm))) (.inr (Nat.le_trans (hE5).size (Nat.le_of_eq hk11.symm))) (.inr (Nat.le_trans ((Ext.refl _)).size (Nat.le_of_eq hk11.symm))) (.inl (Nat.lt_of_lt_of_le hlt11 ((Ext.refl _)).size)) (.inl (Nat.lt_of_lt_of_le hlt11 (hE9).size)) q209.block (Nat.le_trans (hE1).size (Nat.le_of_eq hk12.symm)) (st.row (i := 1) rfl).lt (.inr (Nat.le_trans ((Ext.refl _)).size (Nat.le_of_eq hk12.symm))) (.inl (Nat.lt_of_lt_of_le hlt12 ((Ext.refl _)).size)) (.inl (Nat.lt_of_lt_of_le hlt12 (hE4).size)) (.inl (Nat.lt_of_lt_of_le hlt12 ((Ext.trans (Ext.trans hE4 hE5) he11)).size)) (.inl (Nat.lt_of_lt_of_le hlt12 ((Ext.trans (Ext.trans (Ext.trans hE4 hE5) he11) hE9)).size)) (St.nb 0 1 0 st rfl rfl (by decide))
                                refine St.put 0 0 st rfl rfl rfl rfl (fun w210 he st => ?_)
                                replace h := h w210 he
                                refine St.put 1 0 st rfl rfl rfl rfl (fun w211 he st => ?_)
                                replace h := h w211 he
                                exact (straightedgelaw19_GrowthNear.H_s fu).1 h (st.pick [0, 1] (by decide))
                            · refine St.new st (fun q206 w250 hk11 hlt11 he11 st => ?_)
                              refine ⟨he11.kept, ?_⟩
                              replace h := h _ he11
                              refine CallF.mono h (fun v184 w185 h => ?_)
                              obtain ⟨hE5, h⟩ := h
                              replace st := st.ext hE5
                              obtain ⟨b186, a187, n188, c189, i190, h⟩ := h
                              refine ⟨b186, a187, n188, c189, i190, ?_⟩
                              refine And.imp_right (fun h => ?_) h
                              refine ⟨hE5.kept, ?_⟩
                              replace h := h _ (Ext.refl _)
                              refine CallF.mono h (fun v192 w193 h => ?_)
                              obtain ⟨hE9, h⟩ := h
                              replace st := st.ext hE9
                              obtain ⟨x194, h⟩ := h
                              refine ⟨x194, ?_⟩
                              refine And.imp_right (fun h => ?_) h
                              replace h := h _ (Ext.refl _)
                              refine CallF.mono h (fun v196 w197 h => ?_)
                              obtain ⟨hE10, h⟩ := h
                              replace st := st.ext hE10
                              obtain ⟨b198, a199, n200, c201, i202, h⟩ := h
                              refine ⟨b198, a199, n200, c201, i202, ?_⟩
                              refine And.imp_right (fun h => ?_) h
                              replace h := h _ (Ext.refl _) q206.block (Nat.le_trans ((Ext.trans (Ext.trans hE1 he12) hE4)).size (Nat.le_of_eq hk11.symm)) (st.row (i := 0) rfl).lt (.inr (Nat.le_trans ((Ext.trans he12 hE4)).size (Nat.le_of_eq hk11.symm))) (.inr (Nat.le_trans ((Ext.refl _)).size (Nat.le_of_eq hk11.symm))) (.inl (Nat.lt_of_lt_of_le hlt11 ((Ext.refl _)).size)) (.inl (Nat.lt_of_lt_of_le hlt11 (hE5).size)) (.inl (Nat.lt_of_lt_of_le hlt11 ((Ext.trans hE5 hE9)).size)) q209.block (Nat.le_trans (hE1).size (Nat.le_of_eq hk12.symm)) (st.row (i := 1) rfl).lt (.inr (Nat.le_trans ((Ext.refl _)).size (Nat.le_of_eq hk12.symm))) (.inl (Nat.lt_of_lt_of_le hlt12 ((Ext.refl _)).size)) (.inl (Nat.lt_of_lt_of_le hlt12 ((Ext.trans hE4 he11)).size)) (.inl (Nat.lt_of_lt_of_le hlt12 ((Ext.trans (Ext.trans hE4 he11) hE5)).size)) (.inl (Nat.lt_of_lt_of_le hlt12 ((Ext.trans (Ext.trans (Ext.trans hE4 he11) hE5) hE9)).size)) (St.nb 0 1 0 st rfl rfl (by decide))
                              refine St.put 0 0 st rfl rfl rfl rfl (fun w210 he st => ?_)
                              replace h := h w210 he
                              refine St.put 1 0 st rfl rfl rfl rfl (fun w211 he st => ?_)
                              replace h := h w211 he
                              exact (straightedgelaw19_GrowthNear.H_s fu).1 h (st.pick [0, 1] (by decide))
                          · refine St.new st (fun q206 w251 hk11 hlt11 he11 st => ?_)
                            refine ⟨he11.kept, ?_⟩
                            replace h := h _ (Ext.trans he12 he11)
                            refine CallF.mono h (fun v180 w181 h => ?_)
                            obtain ⟨hE4, h⟩ := h
                            replace st := st.ext hE4
                            obtain ⟨x182, h⟩ := h
                            refine ⟨x182, ?_⟩
                            refine And.imp_right (fun h => ?_) h
                            refine ⟨hE4.kept, ?_⟩
                            replace h := h _ (Ext.refl _)
                            refine CallF.mono h (fun v184 w185 h => ?_)
                            obtain ⟨hE5, h⟩ := h
                            replace st := st.ext hE5
                            obtain ⟨b186, a187, n188, c189, i190, h⟩ := h
                            refine ⟨b186, a187, n188, c189, i190, ?_⟩
                            refine And.imp_right (fun h => ?_) h
                            refine ⟨hE5.kept, ?_⟩
                            replace h := h _ (Ext.refl _)
                            refine CallF.mono h (fun v192 w193 h => ?_)
                            obtain ⟨hE9, h⟩ := h
                            replace st := st.ext hE9
                            obtain ⟨x194, h⟩ := h
                            refine ⟨x194, ?_⟩
                            refine And.imp_right (fun h => ?_) h
                            replace h := h _ (Ext.refl _)
                            refine CallF.mono h (fun v196 w197 h => ?_)
                            obtain ⟨hE10, h⟩ := h
                            replace st := st.ext hE10
                            obtain ⟨b198, a199, n200, c201, i202, h⟩ := h
                            refine ⟨b198, a199, n200, c201, i202, ?_⟩
                            refine And.imp_right (fun h => ?_) h
                            replace h := h _ (Ext.refl _) q206.block (Nat.le_trans ((Ext.trans hE1 he12)).size (Nat.le_of_eq hk11.symm)) (st.row (i := 0) rfl).lt (.inr (Nat.le_trans (he12).size (Nat.le_of_eq hk11.symm))) (.inl (Nat.lt_of_lt_of_le hlt11 ((Ext.refl _)).size)) (.inl (Nat.lt_of_lt_of_le hlt11 (hE4).size)) (.inl (Nat.lt_of_lt_of_le hlt11 ((Ext.trans hE4 hE5)).size)) (.inl (Nat.lt_of_lt_of_le hlt11 ((Ext.trans (Ext.trans hE4 hE5) hE9)).size)) q209.block (Nat.le_trans (hE1).size (Nat.le_of_eq hk12.symm)) (st.row (i := 1) rfl).lt (.inr (Nat.le_trans ((Ext.refl _)).size (Nat.le_of_eq hk12.symm))) (.inl (Nat.lt_of_lt_of_le hlt12 (he11).size)) (.inl (Nat.lt_of_lt_of_le hlt12 ((Ext.trans he11 hE4)).size)) (.inl (Nat.lt_of_lt_of_le hlt12 ((Ext.trans (Ext.trans he11 hE4) hE5)).size)) (.inl (Nat.lt_of_lt_of_le hlt12 ((Ext.trans (Ext.trans (Ext.trans he11 hE4) hE5) hE9)).size)) (St.nb 0 1 0 st rfl rfl (by decide))
                            refine St.put 0 0 st rfl rfl rfl rfl (fun w210 he st => ?_)
                            replace h := h w210 he
                            refine St.put 1 0 st rfl rfl rfl rfl (fun w211 he st => ?_)
                            replace h := h w211 he
                            exact (straightedgelaw19_GrowthNear.H_s fu).1 h (st.pick [0, 1] (by decide))
                      · refine St.new st (fun q206 w252 hk11 hlt11 he11 st => ?_)
                        refine ⟨he11.kept, ?_⟩
                        refine ⟨?_, ?_⟩
                        · replace h := h _ he11
                          refine CallF.mono h (fun v172 w173 h => ?_)
                          obtain ⟨hE1, h⟩ := h
                          replace st := st.ext hE1
                          obtain ⟨i174, i175, a176, n177, c178, h⟩ := h
                          refine ⟨i174, i175, a176, n177, c178, ?_⟩
                          refine And.imp_right (fun h => ?_) h
                          refine ⟨hE1.kept, ?_⟩
                          refine ⟨?_, ?_⟩
                          · replace h := h _ (Ext.refl _)
                            refine CallF.mono h (fun v180 w181 h => ?_)
                            obtain ⟨hE4, h⟩ := h
                            replace st := st.ext hE4
                            obtain ⟨x182, h⟩ := h
                            refine ⟨x182, ?_⟩
                            refine And.imp_right (fun h => ?_) h
                            refine ⟨hE4.kept, ?_⟩
                            refine ⟨?_, ?_⟩
                            · replace h := h _ (Ext.refl _)
                              refine CallF.mono h (fun v184 w185 h => ?_)
                              obtain ⟨hE5, h⟩ := h
                              replace st := st.ext hE5
                              obtain ⟨b186, a187, n188, c189, i190, h⟩ := h
                              refine ⟨b186, a187, n188, c189, i190, ?_⟩
                              refine And.imp_right (fun h => ?_) h
                              refine ⟨hE5.kept, ?_⟩
                              refine ⟨?_, ?_⟩
                              · replace h := h _ (Ext.refl _)
                                refine CallF.mono h (fun v192 w193 h => ?_)
                                obtain ⟨hE9, h⟩ := h
                                replace st := st.ext hE9
                                obtain ⟨x194, h⟩ := h
                                refine ⟨x194, ?_⟩
                                refine And.imp_right (fun h => ?_) h
                                refine ⟨?_, ?_⟩
                                · replace h := h _ (Ext.refl _)
                                  refine CallF.mono h (fun v196 w197 h => ?_)
                                  obtain ⟨hE10, h⟩ := h
                                  replace st := st.ext hE10
                                  obtain ⟨b198, a199, n200, c201, i202, h⟩ := h
                                  refine ⟨b198, a199, n200, c201, i202, ?_⟩
                                  refine And.imp_right (fun h => ?_) h
                                  refine St.new st (fun q209 w253 hk12 hlt12 he12 st => ?_)
                                  refine ⟨he12.kept, ?_⟩
                                  replace h := h _ he12 q206.block (Nat.le_trans ((Ext.refl _)).size (Nat.le_of_eq hk11.symm)) (st.row (i := 1) rfl).lt (.inl (Nat.lt_of_lt_of_le hlt11 ((Ext.refl _)).size)) (.inl (Nat.lt_of_lt_of_le hlt11 (hE1).size)) (.inl (Nat.lt_of_lt_of_le hlt11 ((Ext.trans hE1 hE4)).size)) (.inl (Nat.lt_of_lt_of_le hlt11 ((Ext.trans (Ext.trans hE1 hE4) hE5)).size)) (.inl (Nat.lt_of_lt_of_le hlt11 ((Ext.trans (Ext.trans (Ext.trans hE1 hE4) hE5) hE9)).size)) q209.block (Nat.le_trans ((Ext.trans (Ext.trans (Ext.trans (Ext.trans (Ext.trans he11 hE1) hE4) hE5) hE9) hE10)).size (Nat.le_of_eq hk12.symm)) (st.row (i := 0) rfl).lt (.inr (Nat.le_trans ((Ext.trans (Ext.trans (Ext.trans hE4 hE5) hE9) hE10)).size (Nat.le_of_eq hk12.symm))) (.inr (Nat.le_trans ((Ext.trans (Ext.trans hE5 hE9) hE10)).size (Nat.le_of_eq hk12.symm))) (.inr (Nat.le_trans ((Ext.trans hE9 hE10)).size (Nat.le_of_eq hk12.symm))) (.inr (Nat.le_trans (hE10).size (Nat.le_of_eq hk12.symm))) (.inr (Nat.le_trans ((Ext.refl _)).size (Nat.le_of_eq hk12.symm))) (St.nb 1 0 0 st rfl rfl (by decide))
                                  replace st := st.pick [1, 0, 2, 3, 4] (by decide)
                                  refine St.put 0 0 st rfl rfl rfl rfl (fun w210 he st => ?_)
                                  replace h := h w210 he
                                  refine St.put 1 0 st rfl rfl rfl rfl (fun w211 he st => ?_)
                                  replace h := h w211 he
                                  exact (straightedgelaw19_GrowthNear.H_s fu).1 h (st.pick [0, 1] (by decide))
                                · refine St.new st (fun q209 w254 hk12 hlt12 he12 st => ?_)
                                  refine ⟨he12.kept, ?_⟩
                                  replace h := h _ he12
                                  refine CallF.mono h (fun v196 w197 h => ?_)
                                  obtain ⟨hE10, h⟩ := h
                                  replace st := st.ext hE10
                                  obtain ⟨b198, a199, n200, c201, i202, h⟩ := h
                                  refine ⟨b198, a199, n200, c201, i202, ?_⟩
                                  refine And.imp_right (fun h => ?_) h
                                  replace h := h _ (Ext.refl _) q206.block (Nat.le_trans ((Ext.refl _)).size (Nat.le_of_eq hk11.symm)) (st.row (i := 1) rfl).lt (.inl (Nat.lt_of_lt_of_le hlt11 ((Ext.refl _)).size)) (.inl (Nat.lt_of_lt_of_le hlt11 (hE1).size)) (.inl (Nat.lt_of_lt_of_le hlt11 ((Ext.trans hE1 hE4)).size)) (.inl (Nat.lt_of_lt_of_le hlt11 ((Ext.trans (Ext.trans hE1 hE4) hE5)).size)) (.inl (Nat.lt_of_lt_of_le hlt11 ((Ext.trans (Ext.trans (Ext.trans (Ext.trans hE1 hE4) hE5) hE9) he12)).size)) q209.block (Nat.le_trans ((Ext.trans (Ext.trans (Ext.trans (Ext.trans he11 hE1) hE4) hE5) hE9)).size (Nat.le_of_eq hk12.symm)) (st.row (i := 0) rfl).lt (.inr (Nat.le_trans ((Ext.trans (Ext.trans hE4 hE5) hE9)).size (Nat.le_of_eq hk12.symm))) (.inr (Nat.le_trans ((Ext.trans hE5 hE9)).size (Nat.le_of_eq hk12.symm))) (.inr (Nat.le_trans (hE9).size (Nat.le_of_eq hk12.symm))) (.inr (Nat.le_trans ((Ext.refl _)).size (Nat.le_of_eq hk12.symm))) (.inl (Nat.lt_of_lt_of_le hlt12 ((Ext.refl _)).size)) (St.nb 1 0 0 st rfl rfl (by decide))
                                  replace st := st.pick [1, 0, 2, 3, 4] (by decide)
                                  refine St.put 0 0 st rfl rfl rfl rfl (fun w210 he st => ?_)
                                  replace h := h w210 he
                                  refine St.put 1 0 st rfl rfl rfl rfl (fun w211 he st => ?_)
                                  replace h := h w211 he
                                  exact (straightedgelaw19_GrowthNear.H_s fu).1 h (st.pick [0, 1] (by decide))
                              · refine St.new st (fun q209 w255 hk12 hlt12 he12 st => ?_)
                                refine ⟨he12.kept, ?_⟩
                                replace h := h _ he12
                                refine CallF.mono h (fun v192 w193 h => ?_)
                                obtain ⟨hE9, h⟩ := h
                                replace st := st.ext hE9
                                obtain ⟨x194, h⟩ := h
                                refine ⟨x194, ?_⟩
                                refine And.imp_right (fun h => ?_) h
                                replace h := h _ (Ext.refl _)
                                refine CallF.mono h (fun v196 w197 h => ?_)
                                obtain ⟨hE10, h⟩ := h
                                replace st := st.ext hE10
                                obtain ⟨b198, a199, n200, c201, i202, h⟩ := h
                                refine ⟨b198, a199, n200, c201, i202, ?_⟩
                                refine And.imp_right (fun h => ?_) h
                                replace h := h _ (Ext.refl _) q206.block (Nat.le_trans ((Ext.refl _)).size (Nat.le_of_eq hk11.symm)) (st.row (i := 1) rfl).lt (.inl (Nat.lt_of_lt_of_le hlt11 ((Ext.refl _)).size)) (.inl (Nat.lt_of_lt_of_le hlt11 (hE1).size)) (.inl (Nat.lt_of_lt_of_le hlt11 ((Ext.trans hE1 hE4)).size)) (.inl (Nat.lt_of_lt_of_le hlt11 ((Ext.trans (Ext.trans (Ext.trans hE1 hE4) hE5) he12)).size)) (.inl (Nat.lt_of_lt_of_le hlt11 ((Ext.trans (Ext.trans (Ext.trans (Ext.trans hE1 hE4) hE5) he12) hE9)).size)) q209.block (Nat.le_trans ((Ext.trans (Ext.trans (Ext.trans he11 hE1) hE4) hE5)).size (Nat.le_of_eq hk12.symm)) (st.row (i := 0) rfl).lt (.inr (Nat.le_trans ((Ext.trans hE4 hE5)).size (Nat.le_of_eq hk12.symm))) (.inr (Nat.le_trans (hE5).size (Nat.le_of_eq hk12.symm))) (.inr (Nat.le_trans ((Ext.refl _)).size (Nat.le_of_eq hk12.symm))) (.inl (Nat.lt_of_lt_of_le hlt12 ((Ext.refl _)).size)) (.inl (Nat.lt_of_lt_of_le hlt12 (hE9).size)) (St.nb 1 0 0 st rfl rfl (by decide))
                                replace st := st.pick [1, 0, 2, 3, 4] (by decide)
                                refine St.put 0 0 st rfl rfl rfl rfl (fun w210 he st => ?_)
                                replace h := h w210 he
                                refine St.put 1 0 st rfl rfl rfl rfl (fun w211 he st => ?_)
                                replace h := h w211 he
                                exact (straightedgelaw19_GrowthNear.H_s fu).1 h (st.pick [0, 1] (by decide))
                            · refine St.new st (fun q209 w256 hk12 hlt12 he12 st => ?_)
                              refine ⟨he12.kept, ?_⟩
                              replace h := h _ he12
                              refine CallF.mono h (fun v184 w185 h => ?_)
                              obtain ⟨hE5, h⟩ := h
                              replace st := st.ext hE5
                              obtain ⟨b186, a187, n188, c189, i190, h⟩ := h
                              refine ⟨b186, a187, n188, c189, i190, ?_⟩
                              refine And.imp_right (fun h => ?_) h
                              refine ⟨hE5.kept, ?_⟩
                              replace h := h _ (Ext.refl _)
                              refine CallF.mono h (fun v192 w193 h => ?_)
                              obtain ⟨hE9, h⟩ := h
                              replace st := st.ext hE9
                              obtain ⟨x194, h⟩ := h
                              refine ⟨x194, ?_⟩
                              refine And.imp_right (fun h => ?_) h
                              replace h := h _ (Ext.refl _)
                              refine CallF.mono h (fun v196 w197 h => ?_)
                              obtain ⟨hE10, h⟩ := h
                              replace st := st.ext hE10
                              obtain ⟨b198, a199, n200, c201, i202, h⟩ := h
                              refine ⟨b198, a199, n200, c201, i202, ?_⟩
                              refine And.imp_right (fun h => ?_) h
                              replace h := h _ (Ext.refl _) q206.block (Nat.le_trans ((Ext.refl _)).size (Nat.le_of_eq hk11.symm)) (st.row (i := 1) rfl).lt (.inl (Nat.lt_of_lt_of_le hlt11 ((Ext.refl _)).size)) (.inl (Nat.lt_of_lt_of_le hlt11 (hE1).size)) (.inl (Nat.lt_of_lt_of_le hlt11 ((Ext.trans (Ext.trans hE1 hE4) he12)).size)) (.inl (Nat.lt_of_lt_of_le hlt11 ((Ext.trans (Ext.trans (Ext.trans hE1 hE4) he12) hE5)).size)) (.inl (Nat.lt_of_lt_of_le hlt11 ((Ext.trans (Ext.trans (Ext.trans (Ext.trans hE1 hE4) he12) hE5) hE9)).size)) q209.block (Nat.le_trans ((Ext.trans (Ext.trans he11 hE1) hE4)).size (Nat.le_of_eq hk12.symm)) (st.row (i := 0) rfl).lt (.inr (Nat.le_trans (hE4).size (Nat.le_of_eq hk12.symm))) (.inr (Nat.le_trans ((Ext.refl _)).size (Nat.le_of_eq hk12.symm))) (.inl (Nat.lt_of_lt_of_le hlt12 ((Ext.refl _)).size)) (.inl (Nat.lt_of_lt_of_le hlt12 (hE5).size)) (.inl (Nat.lt_of_lt_of_le hlt12 ((Ext.trans hE5 hE9)).size)) (St.nb 1 0 0 st rfl rfl (by decide))
                              replace st := st.pick [1, 0, 2, 3, 4] (by decide)
                              refine St.put 0 0 st rfl rfl rfl rfl (fun w210 he st => ?_)
                              replace h := h w210 he
                              refine St.put 1 0 st rfl rfl rfl rfl (fun w211 he st => ?_)
                              replace h := h w211 he
                              exact (straightedgelaw19_GrowthNear.H_s fu).1 h (st.pick [0, 1] (by decide))
                          · refine St.new st (fun q209 w257 hk12 hlt12 he12 st => ?_)
                            refine ⟨he12.kept, ?_⟩
                            replace h := h _ he12
                            refine CallF.mono h (fun v180 w181 h => ?_)
                            obtain ⟨hE4, h⟩ := h
                            replace st := st.ext hE4
                            obtain ⟨x182, h⟩ := h
                            refine ⟨x182, ?_⟩
                            refine And.imp_right (fun h => ?_) h
                            refine ⟨hE4.kept, ?_⟩
                            replace h := h _ (Ext.refl _)
                            refine CallF.mono h (fun v184 w185 h => ?_)
                            obtain ⟨hE5, h⟩ := h
                            replace st := st.ext hE5
                            obtain ⟨b186, a187, n188, c189, i190, h⟩ := h
                            refine ⟨b186, a187, n188, c189, i190, ?_⟩
                            refine And.imp_right (fun h => ?_) h
                            refine ⟨hE5.kept, ?_⟩
                            replace h := h _ (Ext.refl _)
                            refine CallF.mono h (fun v192 w193 h => ?_)
                            obtain ⟨hE9, h⟩ := h
                            replace st := st.ext hE9
                            obtain ⟨x194, h⟩ := h
                            refine ⟨x194, ?_⟩
                            refine And.imp_right (fun h => ?_) h
                            replace h := h _ (Ext.refl _)
                            refine CallF.mono h (fun v196 w197 h => ?_)
                            obtain ⟨hE10, h⟩ := h
                            replace st := st.ext hE10
                            obtain ⟨b198, a199, n200, c201, i202, h⟩ := h
                            refine ⟨b198, a199, n200, c201, i202, ?_⟩
                            refine And.imp_right (fun h => ?_) h
                            replace h := h _ (Ext.refl _) q206.block (Nat.le_trans ((Ext.refl _)).size (Nat.le_of_eq hk11.symm)) (st.row (i := 1) rfl).lt (.inl (Nat.lt_of_lt_of_le hlt11 ((Ext.refl _)).size)) (.inl (Nat.lt_of_lt_of_le hlt11 ((Ext.trans hE1 he12)).size)) (.inl (Nat.lt_of_lt_of_le hlt11 ((Ext.trans (Ext.trans hE1 he12) hE4)).size)) (.inl (Nat.lt_of_lt_of_le hlt11 ((Ext.trans (Ext.trans (Ext.trans hE1 he12) hE4) hE5)).size)) (.inl (Nat.lt_of_lt_of_le hlt11 ((Ext.trans (Ext.trans (Ext.trans (Ext.trans hE1 he12) hE4) hE5) hE9)).size)) q209.block (Nat.le_trans ((Ext.trans he11 hE1)).size (Nat.le_of_eq hk12.symm)) (st.row (i := 0) rfl).lt (.inr (Nat.le_trans ((Ext.refl _)).size (Nat.le_of_eq hk12.symm))) (.inl (Nat.lt_of_lt_of_le hlt12 ((Ext.refl _)).size)) (.inl (Nat.lt_of_lt_of_le hlt12 (hE4).size)) (.inl (Nat.lt_of_lt_of_le hlt12 ((Ext.trans hE4 hE5)).size)) (.inl (Nat.lt_of_lt_of_le hlt12 ((Ext.trans (Ext.trans hE4 hE5) hE9)).size)) (St.nb 1 0 0 st rfl rfl (by decide))
                            replace st := st.pick [1, 0, 2, 3, 4] (by decide)
                            refine St.put 0 0 st rfl rfl rfl rfl (fun w210 he st => ?_)
                            replace h := h w210 he
                            refine St.put 1 0 st rfl rfl rfl rfl (fun w211 he st => ?_)
                            replace h := h w211 he
                            exact (straightedgelaw19_GrowthNear.H_s fu).1 h (st.pick [0, 1] (by decide))
                        · refine St.new st (fun q209 w258 hk12 hlt12 he12 st => ?_)
                          refine ⟨he12.kept, ?_⟩
                          replace h := h _ (Ext.trans he11 he12)
                          refine CallF.mono h (fun v172 w173 h => ?_)
                          obtain ⟨hE1, h⟩ := h
                          replace st := st.ext hE1
                          obtain ⟨i174, i175, a176, n177, c178, h⟩ := h
                          refine ⟨i174, i175, a176, n177, c178, ?_⟩
                          refine And.imp_right (fun h => ?_) h
                          refine ⟨hE1.kept, ?_⟩
                          replace h := h _ (Ext.refl _)
                          refine CallF.mono h (fun v180 w181 h => ?_)
                          obtain ⟨hE4, h⟩ := h
                          replace st := st.ext hE4
                          obtain ⟨x182, h⟩ := h
                          refine ⟨x182, ?_⟩
                          refine And.imp_right (fun h => ?_) h
                          refine ⟨hE4.kept, ?_⟩
                          replace h := h _ (Ext.refl _)
                          refine CallF.mono h (fun v184 w185 h => ?_)
                          obtain ⟨hE5, h⟩ := h
                          replace st := st.ext hE5
                          obtain ⟨b186, a187, n188, c189, i190, h⟩ := h
                          refine ⟨b186, a187, n188, c189, i190, ?_⟩
                          refine And.imp_right (fun h => ?_) h
                          refine ⟨hE5.kept, ?_⟩
                          replace h := h _ (Ext.refl _)
                          refine CallF.mono h (fun v192 w193 h => ?_)
                          obtain ⟨hE9, h⟩ := h
                          replace st := st.ext hE9
                          obtain ⟨x194, h⟩ := h
                          refine ⟨x194, ?_⟩
                          refine And.imp_right (fun h => ?_) h
                          replace h := h _ (Ext.refl _)
                          refine CallF.mono h (fun v196 w197 h => ?_)
                          obtain ⟨hE10, h⟩ := h
                          replace st := st.ext hE10
                          obtain ⟨b198, a199, n200, c201, i202, h⟩ := h
                          refine ⟨b198, a199, n200, c201, i202, ?_⟩
                          refine And.imp_right (fun h => ?_) h
                          replace h := h _ (Ext.refl _) q206.block (Nat.le_trans ((Ext.refl _)).size (Nat.le_of_eq hk11.symm)) (st.row (i := 1) rfl).lt (.inl (Nat.lt_of_lt_of_le hlt11 (he12).size)) (.inl (Nat.lt_of_lt_of_le hlt11 ((Ext.trans he12 hE1)).size)) (.inl (Nat.lt_of_lt_of_le hlt11 ((Ext.trans (Ext.trans he12 hE1) hE4)).size)) (.inl (Nat.lt_of_lt_of_le hlt11 ((Ext.trans (Ext.trans (Ext.trans he12 hE1) hE4) hE5)).size)) (.inl (Nat.lt_of_lt_of_le hlt11 ((Ext.trans (Ext.trans (Ext.trans (Ext.trans he12 hE1) hE4) hE5) hE9)).size)) q209.block (Nat.le_trans (he11).size (Nat.le_of_eq hk12.symm)) (st.row (i := 0) rfl).lt (.inl (Nat.lt_of_lt_of_le hlt12 ((Ext.refl _)).size)) (.inl (Nat.lt_of_lt_of_le hlt12 (hE1).size)) (.inl (Nat.lt_of_lt_of_le hlt12 ((Ext.trans hE1 hE4)).size)) (.inl (Nat.lt_of_lt_of_le hlt12 ((Ext.trans (Ext.trans hE1 hE4) hE5)).size)) (.inl (Nat.lt_of_lt_of_le hlt12 ((Ext.trans (Ext.trans (Ext.trans hE1 hE4) hE5) hE9)).size)) (St.nb 1 0 0 st rfl rfl (by decide))
                          replace st := st.pick [1, 0, 2, 3, 4] (by decide)
                          refine St.put 0 0 st rfl rfl rfl rfl (fun w210 he st => ?_)
                          replace h := h w210 he
                          refine St.put 1 0 st rfl rfl rfl rfl (fun w211 he st => ?_)
                          replace h := h w211 he
                          exact (straightedgelaw19_GrowthNear.H_s fu).1 h (st.pick [0, 1] (by decide))
                      · refine St.new st (fun q209 w259 hk12 hlt12 he12 st => ?_)
                        refine ⟨he12.kept, ?_⟩
                        refine ⟨?_, ?_⟩
                        · replace h := h _ he12
                          refine CallF.mono h (fun v172 w173 h => ?_)
                          obtain ⟨hE1, h⟩ := h
                          replace st := st.ext hE1
                          obtain ⟨i174, i175, a176, n177, c178, h⟩ := h
                          refine ⟨i174, i175, a176, n177, c178, ?_⟩
                          refine And.imp_right (fun h => ?_) h
                          refine ⟨hE1.kept, ?_⟩
                          refine ⟨?_, ?_⟩
                          · replace h := h _ (Ext.refl _)
                            refine CallF.mono h (fun v180 w181 h => ?_)
                            obtain ⟨hE4, h⟩ := h
                            replace st := st.ext hE4
                            obtain ⟨x182, h⟩ := h
                            refine ⟨x182, ?_⟩
                            refine And.imp_right (fun h => ?_) h
                            refine ⟨hE4.kept, ?_⟩
                            refine ⟨?_, ?_⟩
                            · replace h := h _ (Ext.refl _)
                              refine CallF.mono h (fun v184 w185 h => ?_)
                              obtain ⟨hE5, h⟩ := h
                              replace st := st.ext hE5
                              obtain ⟨b186, a187, n188, c189, i190, h⟩ := h
                              refine ⟨b186, a187, n188, c189, i190, ?_⟩
                              refine And.imp_right (fun h => ?_) h
                              refine ⟨hE5.kept, ?_⟩
                              refine ⟨?_, ?_⟩
                              · replace h := h _ (Ext.refl _)
                                refine CallF.mono h (fun v192 w193 h => ?_)
                                obtain ⟨hE9, h⟩ := h
                                replace st := st.ext hE9
                                obtain ⟨x194, h⟩ := h
                                refine ⟨x194, ?_⟩
                                refine And.imp_right (fun h => ?_) h
                                refine ⟨?_, ?_⟩
                                · replace h := h _ (Ext.refl _)
                                  refine CallF.mono h (fun v196 w197 h => ?_)
                                  obtain ⟨hE10, h⟩ := h
                                  replace st := st.ext hE10
                                  obtain ⟨b198, a199, n200, c201, i202, h⟩ := h
                                  refine ⟨b198, a199, n200, c201, i202, ?_⟩
                                  refine And.imp_right (fun h => ?_) h
                                  refine St.new st (fun q206 w260 hk11 hlt11 he11 st => ?_)
                                  refine ⟨he11.kept, ?_⟩
                                  replace h := h _ he11 q206.block (Nat.le_trans ((Ext.trans (Ext.trans (Ext.trans (Ext.trans (Ext.trans he12 hE1) hE4) hE5) hE9) hE10)).size (Nat.le_of_eq hk11.symm)) (st.row (i := 0) rfl).lt (.inr (Nat.le_trans ((Ext.trans (Ext.trans (Ext.trans hE4 hE5) hE9) hE10)).size (Nat.le_of_eq hk11.symm))) (.inr (Nat.le_trans ((Ext.trans (Ext.trans hE5 hE9) hE10)).size (Nat.le_of_eq hk11.symm))) (.inr (Nat.le_trans ((Ext.trans hE9 hE10)).size (Nat.le_of_eq hk11.symm))) (.inr (Nat.le_trans (hE10).size (Nat.le_of_eq hk11.symm))) (.inr (Nat.le_trans ((Ext.refl _)).size (Nat.le_of_eq hk11.symm))) q209.block (Nat.le_trans ((Ext.refl _)).size (Nat.le_of_eq hk12.symm)) (st.row (i := 1) rfl).lt (.inl (Nat.lt_of_lt_of_le hlt12 ((Ext.refl _)).size)) (.inl (Nat.lt_of_lt_of_le hlt12 (hE1).size)) (.inl (Nat.lt_of_lt_of_le hlt12 ((Ext.trans hE1 hE4)).size)) (.inl (Nat.lt_of_lt_of_le hlt12 ((Ext.trans (Ext.trans hE1 hE4) hE5)).size)) (.inl (Nat.lt_of_lt_of_le hlt12 ((Ext.trans (Ext.trans (Ext.trans hE1 hE4) hE5) hE9)).size)) (St.nb 0 1 0 st rfl rfl (by decide))
                                  refine St.put 0 0 st rfl rfl rfl rfl (fun w210 he st => ?_)
                                  replace h := h w210 he
                                  refine St.put 1 0 st rfl rfl rfl rfl (fun w211 he st => ?_)
                                  replace h := h w211 he
                                  exact (straightedgelaw19_GrowthNear.H_s fu).1 h (st.pick [0, 1] (by decide))
                                · refine St.new st (fun q206 w261 hk11 hlt11 he11 st => ?_)
                                  refine ⟨he11.kept, ?_⟩
                                  replace h := h _ he11
                                  refine CallF.mono h (fun v196 w197 h => ?_)
                                  obtain ⟨hE10, h⟩ := h
                                  replace st := st.ext hE10
                                  obtain ⟨b198, a199, n200, c201, i202, h⟩ := h
                                  refine ⟨b198, a199, n200, c201, i202, ?_⟩
                                  refine And.imp_right (fun h => ?_) h
                                  replace h := h _ (Ext.refl _) q206.block (Nat.le_trans ((Ext.trans (Ext.trans (Ext.trans (Ext.trans he12 hE1) hE4) hE5) hE9)).size (Nat.le_of_eq hk11.symm)) (st.row (i := 0) rfl).lt (.inr (Nat.le_trans ((Ext.trans (Ext.trans hE4 hE5) hE9)).size (Nat.le_of_eq hk11.symm))) (.inr (Nat.le_trans ((Ext.trans hE5 hE9)).size (Nat.le_of_eq hk11.symm))) (.inr (Nat.le_trans (hE9).size (Nat.le_of_eq hk11.symm))) (.inr (Nat.le_trans ((Ext.refl _)).size (Nat.le_of_eq hk11.symm))) (.inl (Nat.lt_of_lt_of_le hlt11 ((Ext.refl _)).size)) q209.block (Nat.le_trans ((Ext.refl _)).size (Nat.le_of_eq hk12.symm)) (st.row (i := 1) rfl).lt (.inl (Nat.lt_of_lt_of_le hlt12 ((Ext.refl _)).size)) (.inl (Nat.lt_of_lt_of_le hlt12 (hE1).size)) (.inl (Nat.lt_of_lt_of_le hlt12 ((Ext.trans hE1 hE4)).size)) (.inl (Nat.lt_of_lt_of_le hlt12 ((Ext.trans (Ext.trans hE1 hE4) hE5)).size)) (.inl (Nat.lt_of_lt_of_le hlt12 ((Ext.trans (Ext.trans (Ext.trans (Ext.trans hE1 hE4) hE5) hE9) he11)).size)) (St.nb 0 1 0 st rfl rfl (by decide))
                                  refine St.put 0 0 st rfl rfl rfl rfl (fun w210 he st => ?_)
                                  replace h := h w210 he
                                  refine St.put 1 0 st rfl rfl rfl rfl (fun w211 he st => ?_)
                                  replace h := h w211 he
                                  exact (straightedgelaw19_GrowthNear.H_s fu).1 h (st.pick [0, 1] (by decide))
                              · refine St.new st (fun q206 w262 hk11 hlt11 he11 st => ?_)
                                refine ⟨he11.kept, ?_⟩
                                replace h := h _ he11
                                refine CallF.mono h (fun v192 w193 h => ?_)
                                obtain ⟨hE9, h⟩ := h
                                replace st := st.ext hE9
                                obtain ⟨x194, h⟩ := h
                                refine ⟨x194, ?_⟩
                                refine And.imp_right (fun h => ?_) h
                                replace h := h _ (Ext.refl _)
                                refine CallF.mono h (fun v196 w197 h => ?_)
                                obtain ⟨hE10, h⟩ := h
                                replace st := st.ext hE10
                                obtain ⟨b198, a199, n200, c201, i202, h⟩ := h
                                refine ⟨b198, a199, n200, c201, i202, ?_⟩
                                refine And.imp_right (fun h => ?_) h
                                replace h := h _ (Ext.refl _) q206.block (Nat.le_trans ((Ext.trans (Ext.trans (Ext.trans he12 hE1) hE4) hE5)).size (Nat.le_of_eq hk11.symm)) (st.row (i := 0) rfl).lt (.inr (Nat.le_trans ((Ext.trans hE4 hE5)).size (Nat.le_of_eq hk11.symm))) (.inr (Nat.le_trans (hE5).size (Nat.le_of_eq hk11.symm))) (.inr (Nat.le_trans ((Ext.refl _)).size (Nat.le_of_eq hk11.symm))) (.inl (Nat.lt_of_lt_of_le hlt11 ((Ext.refl _)).size)) (.inl (Nat.lt_of_lt_of_le hlt11 (hE9).size)) q209.block (Nat.le_trans ((Ext.refl _)).size (Nat.le_of_eq hk12.symm)) (st.row (i := 1) rfl).lt (.inl (Nat.lt_of_lt_of_le hlt12 ((Ext.refl _)).size)) (.inl (Nat.lt_of_lt_of_le hlt12 (hE1).size)) (.inl (Nat.lt_of_lt_of_le hlt12 ((Ext.trans hE1 hE4)).size)) (.inl (Nat.lt_of_lt_of_le hlt12 ((Ext.trans (Ext.trans (Ext.trans hE1 hE4) hE5) he11)).size)) (.inl (Nat.lt_of_lt_of_le hlt12 ((Ext.trans (Ext.trans (Ext.trans (Ext.trans hE1 hE4) hE5) he11) hE9)).size)) (St.nb 0 1 0 st rfl rfl (by decide))
                                refine St.put 0 0 st rfl rfl rfl rfl (fun w210 he st => ?_)
                                replace h := h w210 he
                                refine St.put 1 0 st rfl rfl rfl rfl (fun w211 he st => ?_)
                                replace h := h w211 he
                                exact (straightedgelaw19_GrowthNear.H_s fu).1 h (st.pick [0, 1] (by decide))
                            · refine St.new st (fun q206 w263 hk11 hlt11 he11 st => ?_)
                              refine ⟨he11.kept, ?_⟩
                              replace h := h _ he11
                              refine CallF.mono h (fun v184 w185 h => ?_)
                              obtain ⟨hE5, h⟩ := h
                              replace st := st.ext hE5
                              obtain ⟨b186, a187, n188, c189, i190, h⟩ := h
                              refine ⟨b186, a187, n188, c189, i190, ?_⟩
                              refine And.imp_right (fun h => ?_) h
                              refine ⟨hE5.kept, ?_⟩
                              replace h := h _ (Ext.refl _)
                              refine CallF.mono h (fun v192 w193 h => ?_)
                              obtain ⟨hE9, h⟩ := h
                              replace st := st.ext hE9
                              obtain ⟨x194, h⟩ := h
                              refine ⟨x194, ?_⟩
                              refine And.imp_right (fun h => ?_) h
                              replace h := h _ (Ext.refl _)
                              refine CallF.mono h (fun v196 w197 h => ?_)
                              obtain ⟨hE10, h⟩ := h
                              replace st := st.ext hE10
                              obtain ⟨b198, a199, n200, c201, i202, h⟩ := h
                              refine ⟨b198, a199, n200, c201, i202, ?_⟩
                              refine And.imp_right (fun h => ?_) h
                              replace h := h _ (Ext.refl _) q206.block (Nat.le_trans ((Ext.trans (Ext.trans he12 hE1) hE4)).size (Nat.le_of_eq hk11.symm)) (st.row (i := 0) rfl).lt (.inr (Nat.le_trans (hE4).size (Nat.le_of_eq hk11.symm))) (.inr (Nat.le_trans ((Ext.refl _)).size (Nat.le_of_eq hk11.symm))) (.inl (Nat.lt_of_lt_of_le hlt11 ((Ext.refl _)).size)) (.inl (Nat.lt_of_lt_of_le hlt11 (hE5).size)) (.inl (Nat.lt_of_lt_of_le hlt11 ((Ext.trans hE5 hE9)).size)) q209.block (Nat.le_trans ((Ext.refl _)).size (Nat.le_of_eq hk12.symm)) (st.row (i := 1) rfl).lt (.inl (Nat.lt_of_lt_of_le hlt12 ((Ext.refl _)).size)) (.inl (Nat.lt_of_lt_of_le hlt12 (hE1).size)) (.inl (Nat.lt_of_lt_of_le hlt12 ((Ext.trans (Ext.trans hE1 hE4) he11)).size)) (.inl (Nat.lt_of_lt_of_le hlt12 ((Ext.trans (Ext.trans (Ext.trans hE1 hE4) he11) hE5)).size)) (.inl (Nat.lt_of_lt_of_le hlt12 ((Ext.trans (Ext.trans (Ext.trans (Ext.trans hE1 hE4) he11) hE5) hE9)).size)) (St.nb 0 1 0 st rfl rfl (by decide))
                              refine St.put 0 0 st rfl rfl rfl rfl (fun w210 he st => ?_)
                              replace h := h w210 he
                              refine St.put 1 0 st rfl rfl rfl rfl (fun w211 he st => ?_)
                              replace h := h w211 he
                              exact (straightedgelaw19_GrowthNear.H_s fu).1 h (st.pick [0, 1] (by decide))
                          · refine St.new st (fun q206 w264 hk11 hlt11 he11 st => ?_)
                            refine ⟨he11.kept, ?_⟩
                            replace h := h _ he11
                            refine CallF.mono h (fun v180 w181 h => ?_)
                            obtain ⟨hE4, h⟩ := h
                            replace st := st.ext hE4
                            obtain ⟨x182, h⟩ := h
                            refine ⟨x182, ?_⟩
                            refine And.imp_right (fun h => ?_) h
                            refine ⟨hE4.kept, ?_⟩
                            replace h := h _ (Ext.refl _)
                            refine CallF.mono h (fun v184 w185 h => ?_)
                            obtain ⟨hE5, h⟩ := h
                            replace st := st.ext hE5
                            obtain ⟨b186, a187, n188, c189, i190, h⟩ := h
                            refine ⟨b186, a187, n188, c189, i190, ?_⟩
                            refine And.imp_right (fun h => ?_) h
                            refine ⟨hE5.kept, ?_⟩
                            replace h := h _ (Ext.refl _)
                            refine CallF.mono h (fun v192 w193 h => ?_)
                            obtain ⟨hE9, h⟩ := h
                            replace st := st.ext hE9
                            obtain ⟨x194, h⟩ := h
                            refine ⟨x194, ?_⟩
                            refine And.imp_right (fun h => ?_) h
                            replace h := h _ (Ext.refl _)
                            refine CallF.mono h (fun v196 w197 h => ?_)
                            obtain ⟨hE10, h⟩ := h
                            replace st := st.ext hE10
                            obtain ⟨b198, a199, n200, c201, i202, h⟩ := h
                            refine ⟨b198, a199, n200, c201, i202, ?_⟩
                            refine And.imp_right (fun h => ?_) h
                            replace h := h _ (Ext.refl _) q206.block (Nat.le_trans ((Ext.trans he12 hE1)).size (Nat.le_of_eq hk11.symm)) (st.row (i := 0) rfl).lt (.inr (Nat.le_trans ((Ext.refl _)).size (Nat.le_of_eq hk11.symm))) (.inl (Nat.lt_of_lt_of_le hlt11 ((Ext.refl _)).size)) (.inl (Nat.lt_of_lt_of_le hlt11 (hE4).size)) (.inl (Nat.lt_of_lt_of_le hlt11 ((Ext.trans hE4 hE5)).size)) (.inl (Nat.lt_of_lt_of_le hlt11 ((Ext.trans (Ext.trans hE4 hE5) hE9)).size)) q209.block (Nat.le_trans ((Ext.refl _)).size (Nat.le_of_eq hk12.symm)) (st.row (i := 1) rfl).lt (.inl (Nat.lt_of_lt_of_le hlt12 ((Ext.refl _)).size)) (.inl (Nat.lt_of_lt_of_le hlt12 ((Ext.trans hE1 he11)).size)) (.inl (Nat.lt_of_lt_of_le hlt12 ((Ext.trans (Ext.trans hE1 he11) hE4)).size)) (.inl (Nat.lt_of_lt_of_le hlt12 ((Ext.trans (Ext.trans (Ext.trans hE1 he11) hE4) hE5)).size)) (.inl (Nat.lt_of_lt_of_le hlt12 ((Ext.trans (Ext.trans (Ext.trans (Ext.trans hE1 he11) hE4) hE5) hE9)).size)) (St.nb 0 1 0 st rfl rfl (by decide))
                            refine St.put 0 0 st rfl rfl rfl rfl (fun w210 he st => ?_)
                            replace h := h w210 he
                            refine St.put 1 0 st rfl rfl rfl rfl (fun w211 he st => ?_)
                            replace h := h w211 he
                            exact (straightedgelaw19_GrowthNear.H_s fu).1 h (st.pick [0, 1] (by decide))
                        · refine St.new st (fun q206 w265 hk11 hlt11 he11 st => ?_)
                          refine ⟨he11.kept, ?_⟩
                          replace h := h _ (Ext.trans he12 he11)
                          refine CallF.mono h (fun v172 w173 h => ?_)
                          obtain ⟨hE1, h⟩ := h
                          replace st := st.ext hE1
                          obtain ⟨i174, i175, a176, n177, c178, h⟩ := h
                          refine ⟨i174, i175, a176, n177, c178, ?_⟩
                          refine And.imp_right (fun h => ?_) h
                          refine ⟨hE1.kept, ?_⟩
                          replace h := h _ (Ext.refl _)
                          refine CallF.mono h (fun v180 w181 h => ?_)
                          obtain ⟨hE4, h⟩ := h
                          replace st := st.ext hE4
                          obtain ⟨x182, h⟩ := h
                          refine ⟨x182, ?_⟩
                          refine And.imp_right (fun h => ?_) h
                          refine ⟨hE4.kept, ?_⟩
                          replace h := h _ (Ext.refl _)
                          refine CallF.mono h (fun v184 w185 h => ?_)
                          obtain ⟨hE5, h⟩ := h
                          replace st := st.ext hE5
                          obtain ⟨b186, a187, n188, c189, i190, h⟩ := h
                          refine ⟨b186, a187, n188, c189, i190, ?_⟩
                          refine And.imp_right (fun h => ?_) h
                          refine ⟨hE5.kept, ?_⟩
                          replace h := h _ (Ext.refl _)
                          refine CallF.mono h (fun v192 w193 h => ?_)
                          obtain ⟨hE9, h⟩ := h
                          replace st := st.ext hE9
                          obtain ⟨x194, h⟩ := h
                          refine ⟨x194, ?_⟩
                          refine And.imp_right (fun h => ?_) h
                          replace h := h _ (Ext.refl _)
                          refine CallF.mono h (fun v196 w197 h => ?_)
                          obtain ⟨hE10, h⟩ := h
                          replace st := st.ext hE10
                          obtain ⟨b198, a199, n200, c201, i202, h⟩ := h
                          refine ⟨b198, a199, n200, c201, i202, ?_⟩
                          refine And.imp_right (fun h => ?_) h
                          replace h := h _ (Ext.refl _) q206.block (Nat.le_trans (he12).size (Nat.le_of_eq hk11.symm)) (st.row (i := 0) rfl).lt (.inl (Nat.lt_of_lt_of_le hlt11 ((Ext.refl _)).size)) (.inl (Nat.lt_of_lt_of_le hlt11 (hE1).size)) (.inl (Nat.lt_of_lt_of_le hlt11 ((Ext.trans hE1 hE4)).size)) (.inl (Nat.lt_of_lt_of_le hlt11 ((Ext.trans (Ext.trans hE1 hE4) hE5)).size)) (.inl (Nat.lt_of_lt_of_le hlt11 ((Ext.trans (Ext.trans (Ext.trans hE1 hE4) hE5) hE9)).size)) q209.block (Nat.le_trans ((Ext.refl _)).size (Nat.le_of_eq hk12.symm)) (st.row (i := 1) rfl).lt (.inl (Nat.lt_of_lt_of_le hlt12 (he11).size)) (.inl (Nat.lt_of_lt_of_le hlt12 ((Ext.trans he11 hE1)).size)) (.inl (Nat.lt_of_lt_of_le hlt12 ((Ext.trans (Ext.trans he11 hE1) hE4)).size)) (.inl (Nat.lt_of_lt_of_le hlt12 ((Ext.trans (Ext.trans (Ext.trans he11 hE1) hE4) hE5)).size)) (.inl (Nat.lt_of_lt_of_le hlt12 ((Ext.trans (Ext.trans (Ext.trans (Ext.trans he11 hE1) hE4) hE5) hE9)).size)) (St.nb 0 1 0 st rfl rfl (by decide))
                          refine St.put 0 0 st rfl rfl rfl rfl (fun w210 he st => ?_)
                          replace h := h w210 he
                          refine St.put 1 0 st rfl rfl rfl rfl (fun w211 he st => ?_)
                          replace h := h w211 he
                          exact (straightedgelaw19_GrowthNear.H_s fu).1 h (st.pick [0, 1] (by decide))

/-! ### straightedge/straightedgelaw19.awake: function 15 -/
def straightedgelaw19_awake.x  (w : World) (K : Value → World → Prop) : Prop := growth_Growth.call [(.agg ⟨[(.slice none 0 0), (.int .i64 0), (.int .i64 0), (.int .i64 0), (.int .i64 0)]⟩), (.agg ⟨[(.slice none 0 0), (.int .i64 0), (.int .i64 0), (.int .i64 0), (.int .i64 0), (.slice none 0 0)]⟩)] w fun v1 w2 => ∃ x3 : Nat, ∃ i4 : Int, v1 = (.tuple ⟨[(.float .f64 x3), (.int .i64 i4)]⟩) ∧ br (i4 != 1) (K (.bool false) w2) (newB [(.float .f64 4607182418800017408), (.float .f64 4611686018427387904), (.float .f64 4616189618054758400), (.float .f64 4616189618054758400)] 38 w2 fun q5 w6 => view_Dense.call [(.int .i64 2), (.int .i64 2), (.slice (some q5) 4 4)] w6 fun v7 w8 => ∃ (a9 : Option Addr) (n10 c11 : Nat), ∃ i12 : Int, ∃ i13 : Int, ∃ i14 : Int, ∃ i15 : Int, v7 = (.agg ⟨[(.slice a9 n10 c11), (.int .i64 i12), (.int .i64 i13), (.int .i64 i14), (.int .i64 i15)]⟩) ∧ newB [(.slice none 0 0), (.int .i64 0), (.int .i64 0), (.int .i64 0), (.int .i64 0)] 24 w8 fun q16 w17 => stPT q16 0 [(.slice a9 n10 c11), (.int .i64 i12), (.int .i64 i13), (.int .i64 i14), (.int .i64 i15)] w17 fun w18 => rd_l_i64_i64_i64_i64 w18 q16 fun a19 n20 c21 i22 i23 i24 i25 => lu_Factor.call [(.agg ⟨[(.slice a19 n20 c21), (.int .i64 i22), (.int .i64 i23), (.int .i64 i24), (.int .i64 i25)]⟩)] w18 fun v26 w27 => ∃ (a28 : Option Addr) (n29 c30 : Nat), ∃ i31 : Int, ∃ i32 : Int, ∃ i33 : Int, ∃ i34 : Int, ∃ (a35 : Option Addr) (n36 c37 : Nat), ∃ i38 : Int, ∃ i39 : Int, v26 = (.tuple ⟨[(.agg ⟨[(.slice a28 n29 c30), (.int .i64 i31), (.int .i64 i32), (.int .i64 i33), (.int .i64 i34), (.slice a35 n36 c37)]⟩), (.int .i64 i38), (.int .i64 i39)]⟩) ∧ newB [(.slice none 0 0), (.int .i64 0), (.int .i64 0), (.int .i64 0), (.int .i64 0), (.slice none 0 0)] 33 w27 fun q40 w41 => stPT q40 0 [(.slice a28 n29 c30), (.int .i64 i31), (.int .i64 i32), (.int .i64 i33), (.int .i64 i34), (.slice a35 n36 c37)] w41 fun w42 => rd_l_i64_i64_i64_i64 w42 q16 fun a43 n44 c45 i46 i47 i48 i49 => rd_l_i64_i64_i64_i64_l w42 q40 fun a50 n51 c52 i53 i54 i55 i56 a57 n58 c59 => growth_Growth.call [(.agg ⟨[(.slice a43 n44 c45), (.int .i64 i46), (.int .i64 i47), (.int .i64 i48), (.int .i64 i49)]⟩), (.agg ⟨[(.slice a50 n51 c52), (.int .i64 i53), (.int .i64 i54), (.int .i64 i55), (.int .i64 i56), (.slice a57 n58 c59)]⟩)] w42 fun v60 w61 => ∃ x62 : Nat, ∃ i63 : Int, v60 = (.tuple ⟨[(.float .f64 x62), (.int .i64 i63)]⟩) ∧ br (i39 == 0) (br (i63 == 0) (K (.bool (feq .f64 x62 4607182418800017408)) w61) (K (.bool false) w61)) (K (.bool false) w61))
theorem straightedgelaw19_awake.ok  {w : World} {K : Value → World → Prop} (h : straightedgelaw19_awake.x  w K) : straightedgelaw19_awake.call [] w K :=
  callF_of_ex0 (f := Try.f15) Try.func15 rfl mixed (by kernel_rfl) (Eq.mp (by kernel_rfl) h)
/-! the same, the local variables taken out -/
def straightedgelaw19_awake.s  (w : World) (K : Value → World → Prop) : Prop := growth_Growth.call [(.agg ⟨[(.slice none 0 0), (.int .i64 0), (.int .i64 0), (.int .i64 0), (.int .i64 0)]⟩), (.agg ⟨[(.slice none 0 0), (.int .i64 0), (.int .i64 0), (.int .i64 0), (.int .i64 0), (.slice none 0 0)]⟩)] w fun v1 w2 => ∃ x3 : Nat, ∃ i4 : Int, v1 = (.tuple ⟨[(.float .f64 x3), (.int .i64 i4)]⟩) ∧ br (i4 != 1) (K (.bool false) w2) (newB [(.float .f64 4607182418800017408), (.float .f64 4611686018427387904), (.float .f64 4616189618054758400), (.float .f64 4616189618054758400)] 38 w2 fun q5 w6 => view_Dense.call [(.int .i64 2), (.int .i64 2), (.slice (some q5) 4 4)] w6 fun v7 w8 => ∃ (a9 : Option Addr) (n10 c11 : Nat), ∃ i12 : Int, ∃ i13 : Int, ∃ i14 : Int, ∃ i15 : Int, v7 = (.agg ⟨[(.slice a9 n10 c11), (.int .i64 i12), (.int .i64 i13), (.int .i64 i14), (.int .i64 i15)]⟩) ∧ ∀ (k18 : Nat) (w17 : World), k18 = w8.heap.size → k18 < w17.heap.size → Ext w8 w17 → ∀ w20 : World, Exc k18 w17 w20 → lu_Factor.call [(.agg ⟨[(.slice a9 n10 c11), (.int .i64 i12), (.int .i64 i13), (.int .i64 i14), (.int .i64 i15)]⟩)] w20 fun v28 w29 => Stay [k18] w20 w29 ∧ ∃ (a30 : Option Addr) (n31 c32 : Nat), ∃ i33 : Int, ∃ i34 : Int, ∃ i35 : Int, ∃ i36 : Int, ∃ (a37 : Option Addr) (n38 c39 : Nat), ∃ i40 : Int, ∃ i41 : Int, v28 = (.tuple ⟨[(.agg ⟨[(.slice a30 n31 c32), (.int .i64 i33), (.int .i64 i34), (.int .i64 i35), (.int .i64 i36), (.slice a37 n38 c39)]⟩), (.int .i64 i40), (.int .i64 i41)]⟩) ∧ ∀ (k44 : Nat) (w43 : World), k44 = w29.heap.size → k44 < w43.heap.size → Ext w29 w43 → ∀ w46 : World, Exc k44 w43 w46 → growth_Growth.call [(.agg ⟨[(.slice a9 n10 c11), (.int .i64 i12), (.int .i64 i13), (.int .i64 i14), (.int .i64 i15)]⟩), (.agg ⟨[(.slice a30 n31 c32), (.int .i64 i33), (.int .i64 i34), (.int .i64 i35), (.int .i64 i36), (.slice a37 n38 c39)]⟩)] w46 fun v64 w65 => Stay [k44, k18] w46 w65 ∧ ∃ x66 : Nat, ∃ i67 : Int, v64 = (.tuple ⟨[(.float .f64 x66), (.int .i64 i67)]⟩) ∧ br (i41 == 0) (br (i67 == 0) (K (.bool (feq .f64 x66 4607182418800017408)) w65) (K (.bool false) w65)) (K (.bool false) w65))
theorem straightedgelaw19_awake.os  {w : World} {K : Value → World → Prop} (h : straightedgelaw19_awake.s  w K) : straightedgelaw19_awake.call [] w K := by
  refine straightedgelaw19_awake.ok ?_
  have st := St.nil w
  unfold straightedgelaw19_awake.x
  unfold straightedgelaw19_awake.s at h
  refine CallF.mono h (fun v1 w2 h => ?_)
  obtain ⟨x3, i4, h⟩ := h
  refine ⟨x3, i4, ?_⟩
  refine And.imp_right (fun h => ?_) h
  refine br_mono (fun h => ?_) (fun h => ?_) h
  · exact h
  · refine newB_mono (St.nil _) h (fun q5 w6 st h => ?_)
    refine CallF.mono h (fun v7 w8 h => ?_)
    obtain ⟨a9, n10, c11, i12, i13, i14, i15, h⟩ := h
    refine ⟨a9, n10, c11, i12, i13, i14, i15, ?_⟩
    refine And.imp_right (fun h => ?_) h
    refine St.new (St.nil _) (fun q16 w17 hk hlt he st => ?_)
    replace h := h q16.block w17 hk hlt he
    refine St.put 0 0 st rfl rfl rfl rfl (fun w20 he st => ?_)
    replace h := h w20 he
    refine rd_l_i64_i64_i64_i64.bx 0 0 st rfl rfl rfl rfl rfl rfl rfl ?_
    refine CallF.mono h (fun v28 w29 h => ?_)
    obtain ⟨hK, h⟩ := h
    replace st := st.stay hK
    obtain ⟨a30, n31, c32, i33, i34, i35, i36, a37, n38, c39, i40, i41, h⟩ := h
    refine ⟨a30, n31, c32, i33, i34, i35, i36, a37, n38, c39, i40, i41, ?_⟩
    refine And.imp_right (fun h => ?_) h
    refine St.new st (fun q42 w43 hk hlt he st => ?_)
    replace h := h q42.block w43 hk hlt he
    refine St.put 0 0 st rfl rfl rfl rfl (fun w46 he st => ?_)
    replace h := h w46 he
    refine rd_l_i64_i64_i64_i64.bx 1 0 st rfl rfl rfl rfl rfl rfl rfl ?_
    refine rd_l_i64_i64_i64_i64_l.bx 0 0 st rfl rfl rfl rfl rfl rfl rfl rfl ?_
    refine CallF.mono h (fun v64 w65 h => ?_)
    obtain ⟨hK, h⟩ := h
    replace st := st.stay hK
    exact h

end Go.Proofs.Ytgdkahbnepafgaa
