import Derived.Test.YtgdkahbnepafgaaDoorWkAr
namespace Go.Wk
open Go Ieee

/-! ### the fields of a word -/
theorem sh52 : shiftN .u64 52 = 52 := rfl
theorem sh63 : shiftN .u64 63 = 63 := rfl

theorem div52 (x : Nat) : Int.fdiv (x : Int) (2 ^ (shiftN .u64 52)) = ((x / 4503599627370496 : Nat) : Int) := by
  rw [sh52, Int.fdiv_eq_ediv_of_nonneg _ (by decide)]
  rfl
theorem div63 (x : Nat) : Int.fdiv (x : Int) (2 ^ (shiftN .u64 63)) = ((x / 9223372036854775808 : Nat) : Int) := by
  rw [sh63, Int.fdiv_eq_ediv_of_nonneg _ (by decide)]
  rfl

theorem bits_and_i64 {x y : Nat} (hx : x < 9223372036854775808) (hy : y < 9223372036854775808) : bits .and .i64 (x : Int) (y : Int) = ((x &&& y : Nat) : Int) := by
  show IntKind.i64.wrap ((BitVec.ofInt 64 (x : Int) &&& BitVec.ofInt 64 (y : Int)).toNat : Int) = _
  rw [ofInt_nat, ofInt_nat]
  have h : (BitVec.ofNat 64 x &&& BitVec.ofNat 64 y).toNat = x &&& y := by
    rw [BitVec.toNat_and, BitVec.toNat_ofNat, BitVec.toNat_ofNat, Nat.mod_eq_of_lt (by omega), Nat.mod_eq_of_lt (by omega)]
  rw [h]
  have : x &&& y ≤ x := Nat.and_le_left
  rw [wrap_i64 (by omega) (by omega)]

theorem field_u64 {x : Nat} (h : x < 18446744073709551616) : bits .and .u64 (Int.fdiv (x : Int) (2 ^ (shiftN .u64 52))) 2047 = ((rung x / 4503599627370496 : Nat) : Int) := by
  rw [div52]
  have := bits_and_nat (x := x / 4503599627370496) (y := 2047) (by omega) (by omega)
  rw [show ((2047 : Nat) : Int) = 2047 from rfl] at this
  rw [this, show (2047 : Nat) = 2 ^ 11 - 1 from rfl, and_low]
  unfold rung
  omega
theorem field_i64 {x : Nat} (h : x < 18446744073709551616) : bits .and .i64 (IntKind.i64.wrap (Int.fdiv (x : Int) (2 ^ (shiftN .u64 52)))) 2047 = ((rung x / 4503599627370496 : Nat) : Int) := by
  rw [div52, wrap_i64 (by omega) (by omega)]
  have := bits_and_i64 (x := x / 4503599627370496) (y := 2047) (by omega) (by omega)
  rw [show ((2047 : Nat) : Int) = 2047 from rfl] at this
  rw [this, show (2047 : Nat) = 2 ^ 11 - 1 from rfl, and_low]
  unfold rung
  omega

theorem top_bit {x : Nat} (h : x < 18446744073709551616) : x / 9223372036854775808 = if sgn x then 1 else 0 := by
  unfold sgn
  have : x / 9223372036854775808 < 2 := by omega
  generalize x / 9223372036854775808 = t at *
  have : t = 0 ∨ t = 1 := by omega
  rcases this with rfl | rfl <;> rfl

/-- The exponent's field struck. -/
theorem strike {x : Nat} (h : x < 18446744073709551616) :
    bits .andNot .u64 (x : Int) 9218868437227405312 = ((wordD (sgn x) (rung x % 4503599627370496) : Nat) : Int) := by
  have := bits_andNot_nat h (y := 9218868437227405312) (by decide)
  rw [show ((9218868437227405312 : Nat) : Int) = 9218868437227405312 from rfl] at this
  rw [this]
  congr 1
  have hs := split_word h
  rw [Nat.mul_comm] at hs
  have e1 : 18446744073709551615 - 9218868437227405312 = 2 ^ 63 * 1 + (2 ^ 52 - 1) := by decide
  rw [e1]
  have hx : x = 2 ^ 63 * (x / 9223372036854775808) + rung x := hs
  rw [hx, and_parts _ _ _ _ _ (rung_lt x) (by decide), and_low]
  have ht := top_bit h
  have e2 : x / 9223372036854775808 &&& 1 = x / 9223372036854775808 := by
    rw [ht]; cases sgn x <;> rfl
  rw [← hx, e2, ht]
  unfold wordD
  cases sgn x <;> simp

theorem set_field {s : Bool} {f E : Nat} (hf : f < 4503599627370496) (hE : E < 2048) :
    bits .or .u64 ((wordD s f : Nat) : Int) ((E * 4503599627370496 : Nat) : Int) = ((wordD s (E * 4503599627370496 + f) : Nat) : Int) := by
  have hw : wordD s f = 2 ^ 63 * (if s then 1 else 0) + f := by unfold wordD; cases s <;> simp
  have hw' : wordD s (E * 4503599627370496 + f) = 2 ^ 63 * (if s then 1 else 0) + (E * 4503599627370496 + f) := by unfold wordD; cases s <;> simp
  rw [bits_or_nat (by unfold wordD; split <;> omega) (by omega), hw, hw']
  congr 1
  have e : E * 4503599627370496 = 2 ^ 63 * 0 + E * 4503599627370496 := by omega
  have e2 : f ||| E * 4503599627370496 = E * 4503599627370496 + f := by
    have := or_parts E f 52 (by simpa using hf)
    rw [Nat.or_comm, Nat.mul_comm E]
    exact this
  rw [show (2 ^ 63 * (if s = true then 1 else 0) + f ||| E * 4503599627370496) = (2 ^ 63 * (if s = true then 1 else 0) + f ||| 2 ^ 63 * 0 + E * 4503599627370496) by rw [← e],
    or_parts2 _ _ _ _ _ (by omega) (by omega), e2, Nat.or_zero]

theorem sgn_false_of {r : Nat} (h : r < 9223372036854775808) : sgn r = false := by
  unfold sgn; simp; omega
theorem rung_of {r : Nat} (h : r < 9223372036854775808) : rung r = r := Nat.mod_eq_of_lt h
theorem wordD_lt {s : Bool} {r : Nat} (h : r < 9223372036854775808) : wordD s r < 18446744073709551616 := by
  unfold wordD; split <;> omega
theorem word_zero {x : Nat} (h : x < 18446744073709551616) (h0 : rung x = 0) : wordD (sgn x) 0 = x := by
  have := word_of h
  rwa [h0] at this
theorem near_lt (s : Bool) (m : Nat) (p : Int) : double.nearest s m p < 18446744073709551616 := by
  by_cases h : m = 0
  · rw [h, nearest_zero]; exact wordD_lt (by decide)
  · rw [nearest_eq _ _ _ h]
    exact wordD_lt (Nat.lt_of_le_of_lt (Nat.min_le_right _ _) (by decide))

theorem feq_zero (x : Nat) : feq .f64 x 0 = decide (rung x = 0) := by
  rw [feq_eq]
  apply decide_eq_decide.2
  have h0 : ¬ nan 0 := by decide
  have h1 : key 0 = 0 := by decide
  rw [h1]
  unfold nan infR key
  have := rung_lt x
  constructor
  · rintro ⟨h, _, h'⟩
    split at h' <;> omega
  · intro h
    refine ⟨by omega, h0, ?_⟩
    rw [h]; split <;> rfl

/-- 'x' times a power of 2. -/
def ldB (x : Nat) (k : Int) : Nat := if fin x then double.nearest (sgn x) (magR (rung x)) (-1074 + shR (rung x) + k) else x
theorem ldB_lt {x : Nat} (h : x < 18446744073709551616) (k : Int) : ldB x k < 18446744073709551616 := by
  unfold ldB; split
  · exact near_lt _ _ _
  · exact h
end Go.Wk
