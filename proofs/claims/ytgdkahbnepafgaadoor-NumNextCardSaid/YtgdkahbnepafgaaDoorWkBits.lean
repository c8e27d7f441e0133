import Derived.Test.YtgdkahbnepafgaaDoorWkRnd2
namespace Go.Wk
open Go Ieee

/-! ### bits of whole numbers -/
theorem wrap_u64 (n : Nat) (h : n < 18446744073709551616) : IntKind.u64.wrap (n : Int) = n := by
  unfold IntKind.wrap
  simp [IntKind.bits, IntKind.signed]
  omega

theorem ofInt_nat (n : Nat) : BitVec.ofInt 64 (n : Int) = BitVec.ofNat 64 n := by
  exact BitVec.ofInt_natCast 64 n

theorem bits_and_nat {x y : Nat} (hx : x < 18446744073709551616) (hy : y < 18446744073709551616) : bits .and .u64 (x : Int) (y : Int) = ((x &&& y : Nat) : Int) := by
  show IntKind.u64.wrap ((BitVec.ofInt 64 (x : Int) &&& BitVec.ofInt 64 (y : Int)).toNat : Int) = _
  rw [ofInt_nat, ofInt_nat]
  have h : (BitVec.ofNat 64 x &&& BitVec.ofNat 64 y).toNat = x &&& y := by
    rw [BitVec.toNat_and, BitVec.toNat_ofNat, BitVec.toNat_ofNat, Nat.mod_eq_of_lt hx, Nat.mod_eq_of_lt hy]
  rw [h]
  apply wrap_u64
  exact Nat.lt_of_le_of_lt Nat.and_le_left hx

theorem bits_or_nat {x y : Nat} (hx : x < 18446744073709551616) (hy : y < 18446744073709551616) : bits .or .u64 (x : Int) (y : Int) = ((x ||| y : Nat) : Int) := by
  show IntKind.u64.wrap ((BitVec.ofInt 64 (x : Int) ||| BitVec.ofInt 64 (y : Int)).toNat : Int) = _
  rw [ofInt_nat, ofInt_nat]
  have h : (BitVec.ofNat 64 x ||| BitVec.ofNat 64 y).toNat = x ||| y := by
    rw [BitVec.toNat_or, BitVec.toNat_ofNat, BitVec.toNat_ofNat, Nat.mod_eq_of_lt hx, Nat.mod_eq_of_lt hy]
  rw [h]
  apply wrap_u64
  exact Nat.or_lt_two_pow (n := 64) hx hy

theorem bits_andNot_nat {x y : Nat} (hx : x < 18446744073709551616) (hy : y < 18446744073709551616) :
    bits .andNot .u64 (x : Int) (y : Int) = ((x &&& (18446744073709551615 - y) : Nat) : Int) := by
  show IntKind.u64.wrap ((BitVec.ofInt 64 (x : Int) &&& ~~~ BitVec.ofInt 64 (y : Int)).toNat : Int) = _
  rw [ofInt_nat, ofInt_nat]
  have h : (BitVec.ofNat 64 x &&& ~~~ BitVec.ofNat 64 y).toNat = x &&& (18446744073709551615 - y) := by
    rw [BitVec.toNat_and, BitVec.toNat_not, BitVec.toNat_ofNat, BitVec.toNat_ofNat, Nat.mod_eq_of_lt hx, Nat.mod_eq_of_lt hy]
  rw [h]
  apply wrap_u64
  exact Nat.lt_of_le_of_lt Nat.and_le_left hx

theorem and_low (x n : Nat) : x &&& (2 ^ n - 1) = x % 2 ^ n := Nat.and_two_pow_sub_one_eq_mod x n

/-- The sign bit struck. -/
theorem and_sign {x : Nat} : x &&& 9223372036854775807 = rung x := and_low x 63

theorem split_word {x : Nat} (h : x < 18446744073709551616) : x = (x / 9223372036854775808) * 9223372036854775808 + rung x := by
  unfold rung; omega

/-- 'a' above place n, 'b' below it. -/
theorem or_parts (a b n : Nat) (h : b < 2 ^ n) : 2 ^ n * a ||| b = 2 ^ n * a + b := (Nat.two_pow_add_eq_or_of_lt h a).symm

theorem and_parts (a b c d n : Nat) (hb : b < 2 ^ n) (hd : d < 2 ^ n) : (2 ^ n * a + b) &&& (2 ^ n * c + d) = 2 ^ n * (a &&& c) + (b &&& d) := by
  have hbd : b &&& d < 2 ^ n := Nat.lt_of_le_of_lt Nat.and_le_left hb
  apply Nat.eq_of_testBit_eq
  intro i
  rw [Nat.testBit_and, Nat.testBit_two_pow_mul_add _ hb, Nat.testBit_two_pow_mul_add _ hd, Nat.testBit_two_pow_mul_add _ hbd]
  split <;> simp

theorem or_parts2 (a b c d n : Nat) (hb : b < 2 ^ n) (hd : d < 2 ^ n) : (2 ^ n * a + b) ||| (2 ^ n * c + d) = 2 ^ n * (a ||| c) + (b ||| d) := by
  have hbd : b ||| d < 2 ^ n := Nat.or_lt_two_pow hb hd
  apply Nat.eq_of_testBit_eq
  intro i
  rw [Nat.testBit_or, Nat.testBit_two_pow_mul_add _ hb, Nat.testBit_two_pow_mul_add _ hd, Nat.testBit_two_pow_mul_add _ hbd]
  split <;> simp
end Go.Wk
