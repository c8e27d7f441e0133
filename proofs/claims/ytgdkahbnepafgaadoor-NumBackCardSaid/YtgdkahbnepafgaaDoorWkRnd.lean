import Derived.Test.YtgdkahbnepafgaaDoorWkFl
namespace Go.Wk
open Go Ieee

/-! ### rounding -/
/-- To the nearest whole number of 2^d, ties to even. -/
def rne (n d : Nat) : Nat :=
  let q := n / 2 ^ d
  let r := n % 2 ^ d
  q + (if 2 ^ d < 2 * r ∨ (2 ^ d = 2 * r ∧ q % 2 = 1) then 1 else 0)

theorem log2_lt (n : Nat) : n < 2 ^ (n.log2 + 1) := Nat.lt_log2_self

theorem cut_eq (s : Bool) (n d : Nat) : Toward.even.cut s n d = rne n d := by
  unfold Toward.cut rne
  simp only [Nat.shiftLeft_eq, Nat.one_mul]
  have hb : ∀ (g q r : Nat), (decide (g < 2 * r) || (g == 2 * r && q % 2 == 1)).toNat = if g < 2 * r ∨ (g = 2 * r ∧ q % 2 = 1) then 1 else 0 := by
    intro g q r
    by_cases h1 : g < 2 * r
    · simp [h1]
    · by_cases h2 : g = 2 * r
      · by_cases h3 : q % 2 = 1
        · simp [h2, h3]
        · simp [h2, h3]
      · simp [h1, h2]
  by_cases h : d ≤ n.log2 + 2
  · rw [Nat.min_eq_left h, hb]
  · have hm : min d (n.log2 + 2) = n.log2 + 2 := by omega
    rw [hm, hb]
    have h1 := log2_lt n
    have h2 : 2 * 2 ^ (n.log2 + 1) = 2 ^ (n.log2 + 2) := by rw [Nat.pow_succ 2 (n.log2 + 1), Nat.mul_comm]
    have h3 : 2 ^ (n.log2 + 2) ≤ 2 ^ d := Nat.pow_le_pow_right (by omega) (by omega)
    have q1 : n / 2 ^ (n.log2 + 2) = 0 := Nat.div_eq_of_lt (by omega)
    have q2 : n / 2 ^ d = 0 := Nat.div_eq_of_lt (by omega)
    have r1 : n % 2 ^ (n.log2 + 2) = n := Nat.mod_eq_of_lt (by omega)
    have r2 : n % 2 ^ d = n := Nat.mod_eq_of_lt (by omega)
    rw [q1, q2, r1, r2]
    rw [if_neg (by omega), if_neg (by omega)]

theorem rne_zero (n : Nat) : rne n 0 = n := by
  unfold rne
  simp [Nat.mod_one]

theorem rne_exact (n d : Nat) : rne (n * 2 ^ d) d = n := by
  unfold rne
  have hp : 0 < 2 ^ d := Nat.two_pow_pos _
  simp only [Nat.mul_div_cancel _ hp, Nat.mul_mod_left]
  rw [if_neg (by omega)]
  rfl

/-- How far it is. -/
theorem rne_far (n d : Nat) : 2 * n ≤ 2 * (rne n d * 2 ^ d) + 2 ^ d ∧ 2 * (rne n d * 2 ^ d) ≤ 2 * n + 2 ^ d := by
  unfold rne
  have hp : 0 < 2 ^ d := Nat.two_pow_pos _
  have h1 := Nat.div_add_mod n (2 ^ d)
  have h2 := Nat.mod_lt n hp
  simp only
  generalize n / 2 ^ d = q at *
  generalize n % 2 ^ d = r at *
  have h3 : q * 2 ^ d = 2 ^ d * q := Nat.mul_comm _ _
  generalize hg : 2 ^ d = g at *
  split
  · rw [Nat.add_mul, Nat.one_mul]; omega
  · rw [Nat.add_zero]; omega

theorem rne_mono {m n : Nat} (d : Nat) (h : m ≤ n) : rne m d ≤ rne n d := by
  unfold rne
  have hp : 0 < 2 ^ d := Nat.two_pow_pos _
  have a1 := Nat.div_add_mod m (2 ^ d)
  have a2 := Nat.mod_lt m hp
  have b1 := Nat.div_add_mod n (2 ^ d)
  have b2 := Nat.mod_lt n hp
  have hq : m / 2 ^ d ≤ n / 2 ^ d := Nat.div_le_div_right h
  simp only
  generalize m / 2 ^ d = q at *
  generalize m % 2 ^ d = r at *
  generalize n / 2 ^ d = q' at *
  generalize n % 2 ^ d = r' at *
  generalize hg : 2 ^ d = g at *
  by_cases e : q = q'
  · subst e
    split <;> split <;> omega
  · split <;> split <;> omega

/-- The last place that is kept. -/
def lastP (mag : Nat) (place : Int) : Int := max (place + mag.log2 - 52) (-1074)
/-- The rung of 'mag * 2 ^ place'. -/
def nearR (mag : Nat) (place : Int) : Nat :=
  (lastP mag place + 1074).toNat * 4503599627370496 + rne (mag <<< (place - lastP mag place).toNat) (lastP mag place - place).toNat
def wordD (s : Bool) (r : Nat) : Nat := if s then 9223372036854775808 + r else r

theorem nearest_eq (s : Bool) (mag : Nat) (place : Int) (h : mag ≠ 0) :
    double.nearest s mag place = wordD s (min (nearR mag place) infR) := by
  unfold Format.nearest
  rw [if_neg h]
  simp only [cut_eq, double_lp, double_bin, double_inf]
  have : (-(-1074 : Int)) = 1074 := rfl
  unfold Format.word wordD nearR lastP infR
  rw [double_sw]
  have e : ∀ z : Int, z - -1074 = z + 1074 := fun z => by omega
  show (if s then _ + min _ _ else min _ _) = _
  simp only [e]
  rfl

theorem nearest_zero (s : Bool) (place : Int) : double.nearest s 0 place = wordD s 0 := by
  unfold Format.nearest Format.word wordD
  rw [if_pos rfl, double_sw]

theorem sgn_word (s : Bool) {r : Nat} (h : r < 9223372036854775808) : sgn (wordD s r) = s := by
  unfold sgn wordD
  cases s
  · simp; omega
  · simp; omega
theorem rung_word (s : Bool) {r : Nat} (h : r < 9223372036854775808) : rung (wordD s r) = r := by
  unfold rung wordD
  cases s <;> simp <;> omega
theorem word_of {x : Nat} (h : x < 18446744073709551616) : wordD (sgn x) (rung x) = x := by
  unfold wordD sgn rung
  split
  · rename_i hs; simp at hs; omega
  · rename_i hs; simp at hs; omega

/-- The magnitude of a rung out of its two parts. -/
theorem valR_parts {a k : Nat} (hk : k ≤ 9007199254740992) (ha : a = 0 ∨ 4503599627370496 ≤ k) : valR (a * 4503599627370496 + k) = k * 2 ^ a := by
  unfold valR magR shR
  by_cases h0 : a = 0
  · subst h0
    simp only [Nat.zero_mul, Nat.zero_add, Nat.pow_zero, Nat.mul_one]
    by_cases h1 : k < 4503599627370496
    · simp [h1]
    · simp only [h1, if_false]
      by_cases h2 : k < 9007199254740992
      · have hd : k / 4503599627370496 = 1 := by omega
        rw [hd]; simp; omega
      · have : k = 9007199254740992 := by omega
        subst this; rfl
  · have hk1 : 4503599627370496 ≤ k := by omega
    have h1 : ¬ a * 4503599627370496 + k < 4503599627370496 := by omega
    simp only [h1, if_false]
    by_cases h2 : k < 9007199254740992
    · have hd : (a * 4503599627370496 + k) / 4503599627370496 = a + 1 := by omega
      have hm : (a * 4503599627370496 + k) % 4503599627370496 = k - 4503599627370496 := by omega
      rw [hd, hm]
      have : 4503599627370496 + (k - 4503599627370496) = k := by omega
      rw [this]; rfl
    · have : k = 9007199254740992 := by omega
      subst this
      have hd : (a * 4503599627370496 + 9007199254740992) / 4503599627370496 = a + 2 := by omega
      have hm : (a * 4503599627370496 + 9007199254740992) % 4503599627370496 = 0 := by omega
      rw [hd, hm]
      have : a + 2 - 1 = a + 1 := by omega
      rw [this, Nat.pow_succ]
      omega
end Go.Wk
