/- A part of the proof. -/
import Derived.Test.YtgdkahbnepafgaaWk0
import Derived.Test.YtgdkahbnepafgaaProg
set_option linter.unusedVariables false

/-! ### AG0 -/
/- The calls of the functions, by name. Written by wip/tools/wk2.py. -/
set_option maxHeartbeats 4000000
set_option maxRecDepth 100000
set_option linter.unusedVariables false
namespace Go.Proofs.Ytgdkahbnepafgaa
open Go Go.Wk

noncomputable abbrev prog : Program := Try.prog
theorem mixed : prog.follows .mixedOrders = true := by kernel_rfl
abbrev straightedgelaw16_LuClose.call : List Value → World → (Value → World → Prop) → Prop := CallF prog 3
abbrev straightedgelaw19_GrowthNear.call : List Value → World → (Value → World → Prop) → Prop := CallF prog 4
abbrev straightedgelaw16_awake.call : List Value → World → (Value → World → Prop) → Prop := CallF prog 5
abbrev straightedgeref03_Great.call : List Value → World → (Value → World → Prop) → Prop := CallF prog 6
abbrev straightedgeref03_Good.call : List Value → World → (Value → World → Prop) → Prop := CallF prog 7
abbrev straightedgeref01_Finite.call : List Value → World → (Value → World → Prop) → Prop := CallF prog 8
abbrev straightedgeref03_Of.call : List Value → World → (Value → World → Prop) → Prop := CallF prog 9
abbrev lu_Factor.call : List Value → World → (Value → World → Prop) → Prop := CallF prog 10
abbrev straightedgeref16_Piv.call : List Value → World → (Value → World → Prop) → Prop := CallF prog 11
abbrev straightedgeref01_Abs.call : List Value → World → (Value → World → Prop) → Prop := CallF prog 12
abbrev straightedgeref03_M_At.call : List Value → World → (Value → World → Prop) → Prop := CallF prog 13
abbrev straightedgelaw16_closeTo.call : List Value → World → (Value → World → Prop) → Prop := CallF prog 14
abbrev straightedgelaw19_awake.call : List Value → World → (Value → World → Prop) → Prop := CallF prog 15
abbrev growth_Growth.call : List Value → World → (Value → World → Prop) → Prop := CallF prog 16
abbrev straightedgeref02_Of.call : List Value → World → (Value → World → Prop) → Prop := CallF prog 17
abbrev straightedgeref19_Most.call : List Value → World → (Value → World → Prop) → Prop := CallF prog 18
abbrev straightedgeref02_D_Mul.call : List Value → World → (Value → World → Prop) → Prop := CallF prog 19
abbrev straightedgeref02_D_Sub.call : List Value → World → (Value → World → Prop) → Prop := CallF prog 20
abbrev straightedgeref02_D_Abs.call : List Value → World → (Value → World → Prop) → Prop := CallF prog 21
abbrev straightedgeref02_D_Cmp.call : List Value → World → (Value → World → Prop) → Prop := CallF prog 22
abbrev straightedgeref02_D_Shift.call : List Value → World → (Value → World → Prop) → Prop := CallF prog 23
abbrev straightedgeref02_D_Add.call : List Value → World → (Value → World → Prop) → Prop := CallF prog 24
abbrev view_Dense.call : List Value → World → (Value → World → Prop) → Prop := CallF prog 25
abbrev straightedgelaw16_ints.call : List Value → World → (Value → World → Prop) → Prop := CallF prog 26
abbrev straightedgeref01_All.call : List Value → World → (Value → World → Prop) → Prop := CallF prog 27
abbrev straightedgeref03_within.call : List Value → World → (Value → World → Prop) → Prop := CallF prog 28
abbrev straightedgeref01_Parts.call : List Value → World → (Value → World → Prop) → Prop := CallF prog 29
abbrev straightedgeref03_New.call : List Value → World → (Value → World → Prop) → Prop := CallF prog 30
abbrev straightedgeref03_M_Set.call : List Value → World → (Value → World → Prop) → Prop := CallF prog 31
abbrev lu_square.call : List Value → World → (Value → World → Prop) → Prop := CallF prog 32
abbrev lu_Pivot.call : List Value → World → (Value → World → Prop) → Prop := CallF prog 33
abbrev lu_Column.call : List Value → World → (Value → World → Prop) → Prop := CallF prog 34
abbrev view_At.call : List Value → World → (Value → World → Prop) → Prop := CallF prog 35
abbrev ger_Ger.call : List Value → World → (Value → World → Prop) → Prop := CallF prog 36
abbrev view_Part.call : List Value → World → (Value → World → Prop) → Prop := CallF prog 37
abbrev math_Float64frombits.call : List Value → World → (Value → World → Prop) → Prop := CallF prog 38
abbrev math_Float64bits.call : List Value → World → (Value → World → Prop) → Prop := CallF prog 39
abbrev straightedgeref16_Parts.call : List Value → World → (Value → World → Prop) → Prop := CallF prog 40
abbrev straightedgeref16_Order.call : List Value → World → (Value → World → Prop) → Prop := CallF prog 41
abbrev straightedgeref10_Max.call : List Value → World → (Value → World → Prop) → Prop := CallF prog 42
abbrev straightedgeref02_Int.call : List Value → World → (Value → World → Prop) → Prop := CallF prog 43
abbrev growth_made.call : List Value → World → (Value → World → Prop) → Prop := CallF prog 44
abbrev growth_pair_upTo.call : List Value → World → (Value → World → Prop) → Prop := CallF prog 45
abbrev straightedgeref02_Whole.call : List Value → World → (Value → World → Prop) → Prop := CallF prog 46
abbrev straightedgeref05_Greatest.call : List Value → World → (Value → World → Prop) → Prop := CallF prog 47
abbrev straightedgeref02_Made.call : List Value → World → (Value → World → Prop) → Prop := CallF prog 48
abbrev straightedgeref02_D_Minus.call : List Value → World → (Value → World → Prop) → Prop := CallF prog 49
abbrev straightedgeref02_D_Sign.call : List Value → World → (Value → World → Prop) → Prop := CallF prog 50
abbrev straightedgeref02_floor.call : List Value → World → (Value → World → Prop) → Prop := CallF prog 51
abbrev straightedgeref02_power.call : List Value → World → (Value → World → Prop) → Prop := CallF prog 52
abbrev straightedgeref02_ends.call : List Value → World → (Value → World → Prop) → Prop := CallF prog 53
abbrev straightedgeref02_D_at.call : List Value → World → (Value → World → Prop) → Prop := CallF prog 54
abbrev straightedgeref02_size.call : List Value → World → (Value → World → Prop) → Prop := CallF prog 55
abbrev straightedgeref01_Same.call : List Value → World → (Value → World → Prop) → Prop := CallF prog 56
abbrev view_Good.call : List Value → World → (Value → World → Prop) → Prop := CallF prog 57
abbrev move_Clone.call : List Value → World → (Value → World → Prop) → Prop := CallF prog 58
abbrev view_Col.call : List Value → World → (Value → World → Prop) → Prop := CallF prog 59
abbrev sums_Most.call : List Value → World → (Value → World → Prop) → Prop := CallF prog 60
abbrev move_Rows.call : List Value → World → (Value → World → Prop) → Prop := CallF prog 61
abbrev view_place.call : List Value → World → (Value → World → Prop) → Prop := CallF prog 62
abbrev view_Right.call : List Value → World → (Value → World → Prop) → Prop := CallF prog 63
abbrev view_Meet.call : List Value → World → (Value → World → Prop) → Prop := CallF prog 64
abbrev ger_row.call : List Value → World → (Value → World → Prop) → Prop := CallF prog 65
abbrev ger_each.call : List Value → World → (Value → World → Prop) → Prop := CallF prog 66
abbrev ger_Ger_1.call : List Value → World → (Value → World → Prop) → Prop := CallF prog 67
abbrev straightedgeref10_Most.call : List Value → World → (Value → World → Prop) → Prop := CallF prog 68
abbrev lu_Right.call : List Value → World → (Value → World → Prop) → Prop := CallF prog 69
abbrev growth_most.call : List Value → World → (Value → World → Prop) → Prop := CallF prog 70
abbrev growth_pair_upTo_1.call : List Value → World → (Value → World → Prop) → Prop := CallF prog 71
abbrev view_fits.call : List Value → World → (Value → World → Prop) → Prop := CallF prog 73
abbrev view_Numbers.call : List Value → World → (Value → World → Prop) → Prop := CallF prog 74
abbrev math_Abs.call : List Value → World → (Value → World → Prop) → Prop := CallF prog 75
abbrev sums_at.call : List Value → World → (Value → World → Prop) → Prop := CallF prog 76
abbrev move_swap.call : List Value → World → (Value → World → Prop) → Prop := CallF prog 77
abbrev view_Row.call : List Value → World → (Value → World → Prop) → Prop := CallF prog 78
abbrev view_span.call : List Value → World → (Value → World → Prop) → Prop := CallF prog 79
abbrev sums_Greatest.call : List Value → World → (Value → World → Prop) → Prop := CallF prog 80
def rd_b (w : World) (a : Addr) (k : Bool → Prop) : Prop := ∃ (x0 : Bool), w.cell? a = some (.bool x0) ∧ k x0
theorem rd_b.mono {w : World} {a : Addr} {k k' : Bool → Prop} (hk : ∀ (x0 : Bool), k x0 → k' x0) (h : rd_b w a k) : rd_b w a k' := by
  obtain ⟨x0, h0, h⟩ := h
  exact ⟨x0, h0, hk _ h⟩
theorem rd_b.of {w : World} {a : Addr} {k : Bool → Prop} {x0 : Bool} (h0 : w.cell? a = some (.bool x0)) (h : k x0) : rd_b w a k :=
  ⟨x0, h0, h⟩
theorem rd_b.bx (i off : Nat) {w : World} {a Q : Addr} {us : List Value} {L : List (Addr × List Value)} {k : Bool → Prop} {x0 : Bool} (st : St w L) (hL : L[i]? = some (Q, us)) (ha : a = Q.add off) (h0 : us[off + 0]? = some (.bool x0)) (h : k x0) : rd_b w a k := by
  have hr := st.row hL
  subst ha
  exact ⟨x0, hr.get off h0, h⟩
def rd_b_l_i64 (w : World) (a : Addr) (k : Bool → Option Addr → Nat → Nat → Int → Prop) : Prop := ∃ (x0 : Bool), ∃ (x1 : Option Addr) (n1 c1 : Nat), ∃ (x2 : Int), w.cell? a = some (.bool x0) ∧ w.cell? (a.add 1) = some (.slice x1 n1 c1) ∧ w.cell? (a.add 2) = some (.int .i64 x2) ∧ k x0 x1 n1 c1 x2
theorem rd_b_l_i64.mono {w : World} {a : Addr} {k k' : Bool → Option Addr → Nat → Nat → Int → Prop} (hk : ∀ (x0 : Bool) (x1 : Option Addr) (n1 c1 : Nat) (x2 : Int), k x0 x1 n1 c1 x2 → k' x0 x1 n1 c1 x2) (h : rd_b_l_i64 w a k) : rd_b_l_i64 w a k' := by
  obtain ⟨x0, x1, n1, c1, x2, h0, h1, h2, h⟩ := h
  exact ⟨x0, x1, n1, c1, x2, h0, h1, h2, hk _ _ _ _ _ h⟩
theorem rd_b_l_i64.of {w : World} {a : Addr} {k : Bool → Option Addr → Nat → Nat → Int → Prop} {x0 : Bool} {x1 : Option Addr} {n1 c1 : Nat} {x2 : Int} (h0 : w.cell? a = some (.bool x0)) (h1 : w.cell? (a.add 1) = some (.slice x1 n1 c1)) (h2 : w.cell? (a.add 2) = some (.int .i64 x2)) (h : k x0 x1 n1 c1 x2) : rd_b_l_i64 w a k :=
  ⟨x0, x1, n1, c1, x2, h0, h1, h2, h⟩
theorem rd_b_l_i64.bx (i off : Nat) {w : World} {a Q : Addr} {us : List Value} {L : List (Addr × List Value)} {k : Bool → Option Addr → Nat → Nat → Int → Prop} {x0 : Bool} {x1 : Option Addr} {n1 c1 : Nat} {x2 : Int} (st : St w L) (hL : L[i]? = some (Q, us)) (ha : a = Q.add off) (h0 : us[off + 0]? = some (.bool x0)) (h1 : us[off + 1]? = some (.slice x1 n1 c1)) (h2 : us[off + 2]? = some (.int .i64 x2)) (h : k x0 x1 n1 c1 x2) : rd_b_l_i64 w a k := by
  have hr := st.row hL
  subst ha
  exact ⟨x0, x1, n1, c1, x2, hr.get off h0, (by rw [add_add]; exact hr.get _ h1), (by rw [add_add]; exact hr.get _ h2), h⟩
def rd_f64 (w : World) (a : Addr) (k : Nat → Prop) : Prop := ∃ (x0 : Nat), w.cell? a = some (.float .f64 x0) ∧ k x0
theorem rd_f64.mono {w : World} {a : Addr} {k k' : Nat → Prop} (hk : ∀ (x0 : Nat), k x0 → k' x0) (h : rd_f64 w a k) : rd_f64 w a k' := by
  obtain ⟨x0, h0, h⟩ := h
  exact ⟨x0, h0, hk _ h⟩
theorem rd_f64.of {w : World} {a : Addr} {k : Nat → Prop} {x0 : Nat} (h0 : w.cell? a = some (.float .f64 x0)) (h : k x0) : rd_f64 w a k :=
  ⟨x0, h0, h⟩
theorem rd_f64.bx (i off : Nat) {w : World} {a Q : Addr} {us : List Value} {L : List (Addr × List Value)} {k : Nat → Prop} {x0 : Nat} (st : St w L) (hL : L[i]? = some (Q, us)) (ha : a = Q.add off) (h0 : us[off + 0]? = some (.float .f64 x0)) (h : k x0) : rd_f64 w a k := by
  have hr := st.row hL
  subst ha
  exact ⟨x0, hr.get off h0, h⟩
def rd_i64 (w : World) (a : Addr) (k : Int → Prop) : Prop := ∃ (x0 : Int), w.cell? a = some (.int .i64 x0) ∧ k x0
theorem rd_i64.mono {w : World} {a : Addr} {k k' : Int → Prop} (hk : ∀ (x0 : Int), k x0 → k' x0) (h : rd_i64 w a k) : rd_i64 w a k' := by
  obtain ⟨x0, h0, h⟩ := h
  exact ⟨x0, h0, hk _ h⟩
theorem rd_i64.of {w : World} {a : Addr} {k : Int → Prop} {x0 : Int} (h0 : w.cell? a = some (.int .i64 x0)) (h : k x0) : rd_i64 w a k :=
  ⟨x0, h0, h⟩
theorem rd_i64.bx (i off : Nat) {w : World} {a Q : Addr} {us : List Value} {L : List (Addr × List Value)} {k : Int → Prop} {x0 : Int} (st : St w L) (hL : L[i]? = some (Q, us)) (ha : a = Q.add off) (h0 : us[off + 0]? = some (.int .i64 x0)) (h : k x0) : rd_i64 w a k := by
  have hr := st.row hL
  subst ha
  exact ⟨x0, hr.get off h0, h⟩
def rd_i64_i64_l (w : World) (a : Addr) (k : Int → Int → Option Addr → Nat → Nat → Prop) : Prop := ∃ (x0 : Int), ∃ (x1 : Int), ∃ (x2 : Option Addr) (n2 c2 : Nat), w.cell? a = some (.int .i64 x0) ∧ w.cell? (a.add 1) = some (.int .i64 x1) ∧ w.cell? (a.add 2) = some (.slice x2 n2 c2) ∧ k x0 x1 x2 n2 c2
theorem rd_i64_i64_l.mono {w : World} {a : Addr} {k k' : Int → Int → Option Addr → Nat → Nat → Prop} (hk : ∀ (x0 : Int) (x1 : Int) (x2 : Option Addr) (n2 c2 : Nat), k x0 x1 x2 n2 c2 → k' x0 x1 x2 n2 c2) (h : rd_i64_i64_l w a k) : rd_i64_i64_l w a k' := by
  obtain ⟨x0, x1, x2, n2, c2, h0, h1, h2, h⟩ := h
  exact ⟨x0, x1, x2, n2, c2, h0, h1, h2, hk _ _ _ _ _ h⟩
theorem rd_i64_i64_l.of {w : World} {a : Addr} {k : Int → Int → Option Addr → Nat → Nat → Prop} {x0 : Int} {x1 : Int} {x2 : Option Addr} {n2 c2 : Nat} (h0 : w.cell? a = some (.int .i64 x0)) (h1 : w.cell? (a.add 1) = some (.int .i64 x1)) (h2 : w.cell? (a.add 2) = some (.slice x2 n2 c2)) (h : k x0 x1 x2 n2 c2) : rd_i64_i64_l w a k :=
  ⟨x0, x1, x2, n2, c2, h0, h1, h2, h⟩
theorem rd_i64_i64_l.bx (i off : Nat) {w : World} {a Q : Addr} {us : List Value} {L : List (Addr × List Value)} {k : Int → Int → Option Addr → Nat → Nat → Prop} {x0 : Int} {x1 : Int} {x2 : Option Addr} {n2 c2 : Nat} (st : St w L) (hL : L[i]? = some (Q, us)) (ha : a = Q.add off) (h0 : us[off + 0]? = some (.int .i64 x0)) (h1 : us[off + 1]? = some (.int .i64 x1)) (h2 : us[off + 2]? = some (.slice x2 n2 c2)) (h : k x0 x1 x2 n2 c2) : rd_i64_i64_l w a k := by
  have hr := st.row hL
  subst ha
  exact ⟨x0, x1, x2, n2, c2, hr.get off h0, (by rw [add_add]; exact hr.get _ h1), (by rw [add_add]; exact hr.get _ h2), h⟩
def rd_l (w : World) (a : Addr) (k : Option Addr → Nat → Nat → Prop) : Prop := ∃ (x0 : Option Addr) (n0 c0 : Nat), w.cell? a = some (.slice x0 n0 c0) ∧ k x0 n0 c0
theorem rd_l.mono {w : World} {a : Addr} {k k' : Option Addr → Nat → Nat → Prop} (hk : ∀ (x0 : Option Addr) (n0 c0 : Nat), k x0 n0 c0 → k' x0 n0 c0) (h : rd_l w a k) : rd_l w a k' := by
  obtain ⟨x0, n0, c0, h0, h⟩ := h
  exact ⟨x0, n0, c0, h0, hk _ _ _ h⟩
theorem rd_l.of {w : World} {a : Addr} {k : Option Addr → Nat → Nat → Prop} {x0 : Option Addr} {n0 c0 : Nat} (h0 : w.cell? a = some (.slice x0 n0 c0)) (h : k x0 n0 c0) : rd_l w a k :=
  ⟨x0, n0, c0, h0, h⟩
theorem rd_l.bx (i off : Nat) {w : World} {a Q : Addr} {us : List Value} {L : List (Addr × List Value)} {k : Option Addr → Nat → Nat → Prop} {x0 : Option Addr} {n0 c0 : Nat} (st : St w L) (hL : L[i]? = some (Q, us)) (ha : a = Q.add off) (h0 : us[off + 0]? = some (.slice x0 n0 c0)) (h : k x0 n0 c0) : rd_l w a k := by
  have hr := st.row hL
  subst ha
  exact ⟨x0, n0, c0, hr.get off h0, h⟩
def rd_l_i64_i64_i64 (w : World) (a : Addr) (k : Option Addr → Nat → Nat → Int → Int → Int → Prop) : Prop := ∃ (x0 : Option Addr) (n0 c0 : Nat), ∃ (x1 : Int), ∃ (x2 : Int), ∃ (x3 : Int), w.cell? a = some (.slice x0 n0 c0) ∧ w.cell? (a.add 1) = some (.int .i64 x1) ∧ w.cell? (a.add 2) = some (.int .i64 x2) ∧ w.cell? (a.add 3) = some (.int .i64 x3) ∧ k x0 n0 c0 x1 x2 x3
theorem rd_l_i64_i64_i64.mono {w : World} {a : Addr} {k k' : Option Addr → Nat → Nat → Int → Int → Int → Prop} (hk : ∀ (x0 : Option Addr) (n0 c0 : Nat) (x1 : Int) (x2 : Int) (x3 : Int), k x0 n0 c0 x1 x2 x3 → k' x0 n0 c0 x1 x2 x3) (h : rd_l_i64_i64_i64 w a k) : rd_l_i64_i64_i64 w a k' := by
  obtain ⟨x0, n0, c0, x1, x2, x3, h0, h1, h2, h3, h⟩ := h
  exact ⟨x0, n0, c0, x1, x2, x3, h0, h1, h2, h3, hk _ _ _ _ _ _ h⟩
theorem rd_l_i64_i64_i64.of {w : World} {a : Addr} {k : Option Addr → Nat → Nat → Int → Int → Int → Prop} {x0 : Option Addr} {n0 c0 : Nat} {x1 : Int} {x2 : Int} {x3 : Int} (h0 : w.cell? a = some (.slice x0 n0 c0)) (h1 : w.cell? (a.add 1) = some (.int .i64 x1)) (h2 : w.cell? (a.add 2) = some (.int .i64 x2)) (h3 : w.cell? (a.add 3) = some (.int .i64 x3)) (h : k x0 n0 c0 x1 x2 x3) : rd_l_i64_i64_i64 w a k :=
  ⟨x0, n0, c0, x1, x2, x3, h0, h1, h2, h3, h⟩
theorem rd_l_i64_i64_i64.bx (i off : Nat) {w : World} {a Q : Addr} {us : List Value} {L : List (Addr × List Value)} {k : Option Addr → Nat → Nat → Int → Int → Int → Prop} {x0 : Option Addr} {n0 c0 : Nat} {x1 : Int} {x2 : Int} {x3 : Int} (st : St w L) (hL : L[i]? = some (Q, us)) (ha : a = Q.add off) (h0 : us[off + 0]? = some (.slice x0 n0 c0)) (h1 : us[off + 1]? = some (.int .i64 x1)) (h2 : us[off + 2]? = some (.int .i64 x2)) (h3 : us[off + 3]? = some (.int .i64 x3)) (h : k x0 n0 c0 x1 x2 x3) : rd_l_i64_i64_i64 w a k := by
  have hr := st.row hL
  subst ha
  exact ⟨x0, n0, c0, x1, x2, x3, hr.get off h0, (by rw [add_add]; exact hr.get _ h1), (by rw [add_add]; exact hr.get _ h2), (by rw [add_add]; exact hr.get _ h3), h⟩
def rd_l_i64_i64_i64_i64 (w : World) (a : Addr) (k : Option Addr → Nat → Nat → Int → Int → Int → Int → Prop) : Prop := ∃ (x0 : Option Addr) (n0 c0 : Nat), ∃ (x1 : Int), ∃ (x2 : Int), ∃ (x3 : Int), ∃ (x4 : Int), w.cell? a = some (.slice x0 n0 c0) ∧ w.cell? (a.add 1) = some (.int .i64 x1) ∧ w.cell? (a.add 2) = some (.int .i64 x2) ∧ w.cell? (a.add 3) = some (.int .i64 x3) ∧ w.cell? (a.add 4) = some (.int .i64 x4) ∧ k x0 n0 c0 x1 x2 x3 x4
theorem rd_l_i64_i64_i64_i64.mono {w : World} {a : Addr} {k k' : Option Addr → Nat → Nat → Int → Int → Int → Int → Prop} (hk : ∀ (x0 : Option Addr) (n0 c0 : Nat) (x1 : Int) (x2 : Int) (x3 : Int) (x4 : Int), k x0 n0 c0 x1 x2 x3 x4 → k' x0 n0 c0 x1 x2 x3 x4) (h : rd_l_i64_i64_i64_i64 w a k) : rd_l_i64_i64_i64_i64 w a k' := by
  obtain ⟨x0, n0, c0, x1, x2, x3, x4, h0, h1, h2, h3, h4, h⟩ := h
  exact ⟨x0, n0, c0, x1, x2, x3, x4, h0, h1, h2, h3, h4, hk _ _ _ _ _ _ _ h⟩
theorem rd_l_i64_i64_i64_i64.of {w : World} {a : Addr} {k : Option Addr → Nat → Nat → Int → Int → Int → Int → Prop} {x0 : Option Addr} {n0 c0 : Nat} {x1 : Int} {x2 : Int} {x3 : Int} {x4 : Int} (h0 : w.cell? a = some (.slice x0 n0 c0)) (h1 : w.cell? (a.add 1) = some (.int .i64 x1)) (h2 : w.cell? (a.add 2) = some (.int .i64 x2)) (h3 : w.cell? (a.add 3) = some (.int .i64 x3)) (h4 : w.cell? (a.add 4) = some (.int .i64 x4)) (h : k x0 n0 c0 x1 x2 x3 x4) : rd_l_i64_i64_i64_i64 w a k :=
  ⟨x0, n0, c0, x1, x2, x3, x4, h0, h1, h2, h3, h4, h⟩
theorem rd_l_i64_i64_i64_i64.bx (i off : Nat) {w : World} {a Q : Addr} {us : List Value} {L : List (Addr × List Value)} {k : Option Addr → Nat → Nat → Int → Int → Int → Int → Prop} {x0 : Option Addr} {n0 c0 : Nat} {x1 : Int} {x2 : Int} {x3 : Int} {x4 : Int} (st : St w L) (hL : L[i]? = some (Q, us)) (ha : a = Q.add off) (h0 : us[off + 0]? = some (.slice x0 n0 c0)) (h1 : us[off + 1]? = some (.int .i64 x1)) (h2 : us[off + 2]? = some (.int .i64 x2)) (h3 : us[off + 3]? = some (.int .i64 x3)) (h4 : us[off + 4]? = some (.int .i64 x4)) (h : k x0 n0 c0 x1 x2 x3 x4) : rd_l_i64_i64_i64_i64 w a k := by
  have hr := st.row hL
  subst ha
  exact ⟨x0, n0, c0, x1, x2, x3, x4, hr.get off h0, (by rw [add_add]; exact hr.get _ h1), (by rw [add_add]; exact hr.get _ h2), (by rw [add_add]; exact hr.get _ h3), (by rw [add_add]; exact hr.get _ h4), h⟩
def rd_l_i64_i64_i64_i64_l (w : World) (a : Addr) (k : Option Addr → Nat → Nat → Int → Int → Int → Int → Option Addr → Nat → Nat → Prop) : Prop := ∃ (x0 : Option Addr) (n0 c0 : Nat), ∃ (x1 : Int), ∃ (x2 : Int), ∃ (x3 : Int), ∃ (x4 : Int), ∃ (x5 : Option Addr) (n5 c5 : Nat), w.cell? a = some (.slice x0 n0 c0) ∧ w.cell? (a.add 1) = some (.int .i64 x1) ∧ w.cell? (a.add 2) = some (.int .i64 x2) ∧ w.cell? (a.add 3) = some (.int .i64 x3) ∧ w.cell? (a.add 4) = some (.int .i64 x4) ∧ w.cell? (a.add 5) = some (.slice x5 n5 c5) ∧ k x0 n0 c0 x1 x2 x3 x4 x5 n5 c5
theorem rd_l_i64_i64_i64_i64_l.mono {w : World} {a : Addr} {k k' : Option Addr → Nat → Nat → Int → Int → Int → Int → Option Addr → Nat → Nat → Prop} (hk : ∀ (x0 : Option Addr) (n0 c0 : Nat) (x1 : Int) (x2 : Int) (x3 : Int) (x4 : Int) (x5 : Option Addr) (n5 c5 : Nat), k x0 n0 c0 x1 x2 x3 x4 x5 n5 c5 → k' x0 n0 c0 x1 x2 x3 x4 x5 n5 c5) (h : rd_l_i64_i64_i64_i64_l w a k) : rd_l_i64_i64_i64_i64_l w a k' := by
  obtain ⟨x0, n0, c0, x1, x2, x3, x4, x5, n5, c5, h0, h1, h2, h3, h4, h5, h⟩ := h
  exact ⟨x0, n0, c0, x1, x2, x3, x4, x5, n5, c5, h0, h1, h2, h3, h4, h5, hk _ _ _ _ _ _ _ _ _ _ h⟩
theorem rd_l_i64_i64_i64_i64_l.of {w : World} {a : Addr} {k : Option Addr → Nat → Nat → Int → Int → Int → Int → Option Addr → Nat → Nat → Prop} {x0 : Option Addr} {n0 c0 : Nat} {x1 : Int} {x2 : Int} {x3 : Int} {x4 : Int} {x5 : Option Addr} {n5 c5 : Nat} (h0 : w.cell? a = some (.slice x0 n0 c0)) (h1 : w.cell? (a.add 1) = some (.int .i64 x1)) (h2 : w.cell? (a.add 2) = some (.int .i64 x2)) (h3 : w.cell? (a.add 3) = some (.int .i64 x3)) (h4 : w.cell? (a.add 4) = some (.int .i64 x4)) (h5 : w.cell? (a.add 5) = some (.slice x5 n5 c5)) (h : k x0 n0 c0 x1 x2 x3 x4 x5 n5 c5) : rd_l_i64_i64_i64_i64_l w a k :=
  ⟨x0, n0, c0, x1, x2, x3, x4, x5, n5, c5, h0, h1, h2, h3, h4, h5, h⟩
theorem rd_l_i64_i64_i64_i64_l.bx (i off : Nat) {w : World} {a Q : Addr} {us : List Value} {L : List (Addr × List Value)} {k : Option Addr → Nat → Nat → Int → Int → Int → Int → Option Addr → Nat → Nat → Prop} {x0 : Option Addr} {n0 c0 : Nat} {x1 : Int} {x2 : Int} {x3 : Int} {x4 : Int} {x5 : Option Addr} {n5 c5 : Nat} (st : St w L) (hL : L[i]? = some (Q, us)) (ha : a = Q.add off) (h0 : us[off + 0]? = some (.slice x0 n0 c0)) (h1 : us[off + 1]? = some (.int .i64 x1)) (h2 : us[off + 2]? = some (.int .i64 x2)) (h3 : us[off + 3]? = some (.int .i64 x3)) (h4 : us[off + 4]? = some (.int .i64 x4)) (h5 : us[off + 5]? = some (.slice x5 n5 c5)) (h : k x0 n0 c0 x1 x2 x3 x4 x5 n5 c5) : rd_l_i64_i64_i64_i64_l w a k := by
  have hr := st.row hL
  subst ha
  exact ⟨x0, n0, c0, x1, x2, x3, x4, x5, n5, c5, hr.get off h0, (by rw [add_add]; exact hr.get _ h1), (by rw [add_add]; exact hr.get _ h2), (by rw [add_add]; exact hr.get _ h3), (by rw [add_add]; exact hr.get _ h4), (by rw [add_add]; exact hr.get _ h5), h⟩
def rd_l_i64_i64_i64_i64_l_l_i64_i64_i64_i64 (w : World) (a : Addr) (k : Option Addr → Nat → Nat → Int → Int → Int → Int → Option Addr → Nat → Nat → Option Addr → Nat → Nat → Int → Int → Int → Int → Prop) : Prop := ∃ (x0 : Option Addr) (n0 c0 : Nat), ∃ (x1 : Int), ∃ (x2 : Int), ∃ (x3 : Int), ∃ (x4 : Int), ∃ (x5 : Option Addr) (n5 c5 : Nat), ∃ (x6 : Option Addr) (n6 c6 : Nat), ∃ (x7 : Int), ∃ (x8 : Int), ∃ (x9 : Int), ∃ (x10 : Int), w.cell? a = some (.slice x0 n0 c0) ∧ w.cell? (a.add 1) = some (.int .i64 x1) ∧ w.cell? (a.add 2) = some (.int .i64 x2) ∧ w.cell? (a.add 3) = some (.int .i64 x3) ∧ w.cell? (a.add 4) = some (.int .i64 x4) ∧ w.cell? (a.add 5) = some (.slice x5 n5 c5) ∧ w.cell? (a.add 6) = some (.slice x6 n6 c6) ∧ w.cell? (a.add 7) = some (.int .i64 x7) ∧ w.cell? (a.add 8) = some (.int .i64 x8) ∧ w.cell? (a.add 9) = some (.int .i64 x9) ∧ w.cell? (a.add 10) = some (.int .i64 x10) ∧ k x0 n0 c0 x1 x2 x3 x4 x5 n5 c5 x6 n6 c6 x7 x8 x9 x10
theorem rd_l_i64_i64_i64_i64_l_l_i64_i64_i64_i64.mono {w : World} {a : Addr} {k k' : Option Addr → Nat → Nat → Int → Int → Int → Int → Option Addr → Nat → Nat → Option Addr → Nat → Nat → Int → Int → Int → Int → Prop} (hk : ∀ (x0 : Option Addr) (n0 c0 : Nat) (x1 : Int) (x2 : Int) (x3 : Int) (x4 : Int) (x5 : Option Addr) (n5 c5 : Nat) (x6 : Option Addr) (n6 c6 : Nat) (x7 : Int) (x8 : Int) (x9 : Int) (x10 : Int), k x0 n0 c0 x1 x2 x3 x4 x5 n5 c5 x6 n6 c6 x7 x8 x9 x10 → k' x0 n0 c0 x1 x2 x3 x4 x5 n5 c5 x6 n6 c6 x7 x8 x9 x10) (h : rd_l_i64_i64_i64_i64_l_l_i64_i64_i64_i64 w a k) : rd_l_i64_i64_i64_i64_l_l_i64_i64_i64_i64 w a k' := by
  obtain ⟨x0, n0, c0, x1, x2, x3, x4, x5, n5, c5, x6, n6, c6, x7, x8, x9, x10, h0, h1, h2, h3, h4, h5, h6, h7, h8, h9, h10, h⟩ := h
  exact ⟨x0, n0, c0, x1, x2, x3, x4, x5, n5, c5, x6, n6, c6, x7, x8, x9, x10, h0, h1, h2, h3, h4, h5, h6, h7, h8, h9, h10, hk _ _ _ _ _ _ _ _ _ _ _ _ _ _ _ _ _ h⟩
theorem rd_l_i64_i64_i64_i64_l_l_i64_i64_i64_i64.of {w : World} {a : Addr} {k : Option Addr → Nat → Nat → Int → Int → Int → Int → Option Addr → Nat → Nat → Option Addr → Nat → Nat → Int → Int → Int → Int → Prop} {x0 : Option Addr} {n0 c0 : Nat} {x1 : Int} {x2 : Int} {x3 : Int} {x4 : Int} {x5 : Option Addr} {n5 c5 : Nat} {x6 : Option Addr} {n6 c6 : Nat} {x7 : Int} {x8 : Int} {x9 : Int} {x10 : Int} (h0 : w.cell? a = some (.slice x0 n0 c0)) (h1 : w.cell? (a.add 1) = some (.int .i64 x1)) (h2 : w.cell? (a.add 2) = some (.int .i64 x2)) (h3 : w.cell? (a.add 3) = some (.int .i64 x3)) (h4 : w.cell? (a.add 4) = some (.int .i64 x4)) (h5 : w.cell? (a.add 5) = some (.slice x5 n5 c5)) (h6 : w.cell? (a.add 6) = some (.slice x6 n6 c6)) (h7 : w.cell? (a.add 7) = some (.int .i64 x7)) (h8 : w.cell? (a.add 8) = some (.int .i64 x8)) (h9 : w.cell? (a.add 9) = some (.int .i64 x9)) (h10 : w.cell? (a.add 10) = some (.int .i64 x10)) (h : k x0 n0 c0 x1 x2 x3 x4 x5 n5 c5 x6 n6 c6 x7 x8 x9 x10) : rd_l_i64_i64_i64_i64_l_l_i64_i64_i64_i64 w a k :=
  ⟨x0, n0, c0, x1, x2, x3, x4, x5, n5, c5, x6, n6, c6, x7, x8, x9, x10, h0, h1, h2, h3, h4, h5, h6, h7, h8, h9, h10, h⟩
theorem rd_l_i64_i64_i64_i64_l_l_i64_i64_i64_i64.bx (i off : Nat) {w : World} {a Q : Addr} {us : List Value} {L : List (Addr × List Value)} {k : Option Addr → Nat → Nat → Int → Int → Int → Int → Option Addr → Nat → Nat → Option Addr → Nat → Nat → Int → Int → Int → Int → Prop} {x0 : Option Addr} {n0 c0 : Nat} {x1 : Int} {x2 : Int} {x3 : Int} {x4 : Int} {x5 : Option Addr} {n5 c5 : Nat} {x6 : Option Addr} {n6 c6 : Nat} {x7 : Int} {x8 : Int} {x9 : Int} {x10 : Int} (st : St w L) (hL : L[i]? = some (Q, us)) (ha : a = Q.add off) (h0 : us[off + 0]? = some (.slice x0 n0 c0)) (h1 : us[off + 1]? = some (.int .i64 x1)) (h2 : us[off + 2]? = some (.int .i64 x2)) (h3 : us[off + 3]? = some (.int .i64 x3)) (h4 : us[off + 4]? = some (.int .i64 x4)) (h5 : us[off + 5]? = some (.slice x5 n5 c5)) (h6 : us[off + 6]? = some (.slice x6 n6 c6)) (h7 : us[off + 7]? = some (.int .i64 x7)) (h8 : us[off + 8]? = some (.int .i64 x8)) (h9 : us[off + 9]? = some (.int .i64 x9)) (h10 : us[off + 10]? = some (.int .i64 x10)) (h : k x0 n0 c0 x1 x2 x3 x4 x5 n5 c5 x6 n6 c6 x7 x8 x9 x10) : rd_l_i64_i64_i64_i64_l_l_i64_i64_i64_i64 w a k := by
  have hr := st.row hL
  subst ha
  exact ⟨x0, n0, c0, x1, x2, x3, x4, x5, n5, c5, x6, n6, c6, x7, x8, x9, x10, hr.get off h0, (by rw [add_add]; exact hr.get _ h1), (by rw [add_add]; exact hr.get _ h2), (by rw [add_add]; exact hr.get _ h3), (by rw [add_add]; exact hr.get _ h4), (by rw [add_add]; exact hr.get _ h5), (by rw [add_add]; exact hr.get _ h6), (by rw [add_add]; exact hr.get _ h7), (by rw [add_add]; exact hr.get _ h8), (by rw [add_add]; exact hr.get _ h9), (by rw [add_add]; exact hr.get _ h10), h⟩
end Go.Proofs.Ytgdkahbnepafgaa
