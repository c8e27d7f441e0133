import Derived.Test.YtgdkahbnepafgaaDoorWkRnd
namespace Go.Wk
open Go Ieee

theorem rne_mul (n d j : Nat) : rne (n * 2 ^ j) (d + j) = rne n d := by
  unfold rne
  have hp : 0 < 2 ^ j := Nat.two_pow_pos _
  have h1 : n * 2 ^ j / 2 ^ (d + j) = n / 2 ^ d := by rw [Nat.pow_add]; exact Nat.mul_div_mul_right _ _ hp
  have h2 : n * 2 ^ j % 2 ^ (d + j) = n % 2 ^ d * 2 ^ j := by rw [Nat.pow_add]; exact Nat.mul_mod_mul_right _ _ _
  simp only [h1, h2]
  have h3 : (2 ^ (d + j) < 2 * (n % 2 ^ d * 2 ^ j)) ↔ (2 ^ d < 2 * (n % 2 ^ d)) := by
    rw [Nat.pow_add, ← Nat.mul_assoc]
    exact Nat.mul_lt_mul_right hp
  have h4 : (2 ^ (d + j) = 2 * (n % 2 ^ d * 2 ^ j)) ↔ (2 ^ d = 2 * (n % 2 ^ d)) := by
    rw [Nat.pow_add, ← Nat.mul_assoc]
    constructor
    · intro h; exact Nat.eq_of_mul_eq_mul_right hp h
    · intro h; exact congrArg (fun z => z * 2 ^ j) h
  simp only [h3, h4]

theorem log2_mul_pow (m k : Nat) (h : m ≠ 0) : (m * 2 ^ k).log2 = m.log2 + k := by
  have hm := Nat.log2_self_le h
  have hl := log2_lt m
  have h0 : m * 2 ^ k ≠ 0 := by
    have : 0 < m * 2 ^ k := Nat.mul_pos (by omega) (Nat.two_pow_pos _)
    omega
  rw [Nat.log2_eq_iff h0]
  constructor
  · rw [Nat.pow_add]; exact Nat.mul_le_mul_right _ hm
  · rw [show m.log2 + k + 1 = (m.log2 + 1) + k by omega, Nat.pow_add]
    exact Nat.mul_lt_mul_of_pos_right hl (Nat.two_pow_pos _)

theorem lastP_shift (m : Nat) (p : Int) (k : Nat) (h : m ≠ 0) : lastP (m * 2 ^ k) (p - k) = lastP m p := by
  unfold lastP
  rw [log2_mul_pow m k h]
  congr 1
  push_cast
  omega

theorem nearR_shift (m : Nat) (p : Int) (k : Nat) (h : m ≠ 0) : nearR (m * 2 ^ k) (p - k) = nearR m p := by
  unfold nearR
  rw [lastP_shift m p k h]
  congr 1
  generalize lastP m p = l
  simp only [Nat.shiftLeft_eq]
  by_cases hpl : l ≤ p
  · -- exact
    have e1 : (l - p).toNat = 0 := by omega
    rw [e1, rne_zero]
    by_cases hk : l ≤ p - k
    · have e2 : (l - (p - k)).toNat = 0 := by omega
      rw [e2, rne_zero, Nat.mul_assoc, ← Nat.pow_add]
      congr 2
      omega
    · have e3 : (p - (k : Int) - l).toNat = 0 := by omega
      rw [e3, Nat.pow_zero, Nat.mul_one]
      have e4 : (k : Nat) = (p - l).toNat + (l - (p - k)).toNat := by omega
      have e5 : m * 2 ^ k = m * 2 ^ (p - l).toNat * 2 ^ (l - (p - k)).toNat := by
        rw [Nat.mul_assoc, ← Nat.pow_add, ← e4]
      rw [e5, rne_exact]
  · have e1 : (p - l).toNat = 0 := by omega
    have e2 : (p - (k : Int) - l).toNat = 0 := by omega
    rw [e1, e2, Nat.pow_zero, Nat.mul_one, Nat.mul_one]
    have e3 : (l - (p - k)).toNat = (l - p).toNat + k := by omega
    rw [e3, rne_mul]

/-- A number that the format has. -/
theorem nearR_val (r : Nat) (h0 : r ≠ 0) (k : Nat) : nearR (magR r * 2 ^ k) (-1074 + shR r - k) = r := by
  have hm : magR r ≠ 0 := by
    unfold magR
    split <;> omega
  rw [nearR_shift _ _ _ hm]
  unfold nearR lastP magR shR
  by_cases h1 : r < 4503599627370496
  · simp only [h1, if_true]
    have hl : r.log2 < 52 := (Nat.log2_lt h0).2 h1
    have e : max (-1074 + ((0 : Nat) : Int) + (r.log2 : Int) - 52) (-1074) = -1074 := by omega
    rw [e]
    simp [rne_zero]
  · simp only [h1, if_false]
    have hlt : r % 4503599627370496 < 4503599627370496 := Nat.mod_lt _ (by decide)
    have hl : (4503599627370496 + r % 4503599627370496).log2 = 52 := by
      rw [Nat.log2_eq_iff (by omega)]
      constructor <;> omega
    rw [hl]
    have e : max (-1074 + ((r / 4503599627370496 - 1 : Nat) : Int) + ((52 : Nat) : Int) - 52) (-1074) = -1074 + ((r / 4503599627370496 - 1 : Nat) : Int) := by omega
    rw [e]
    have e2 : (-1074 + ((r / 4503599627370496 - 1 : Nat) : Int) - (-1074 + ((r / 4503599627370496 - 1 : Nat) : Int))).toNat = 0 := by omega
    rw [e2, rne_zero]
    have e3 : (-1074 + ((r / 4503599627370496 - 1 : Nat) : Int) + 1074).toNat = r / 4503599627370496 - 1 := by omega
    rw [e3]
    have hq : 1 ≤ r / 4503599627370496 := by omega
    simp
    omega

/-- What is kept: its bounds. -/
def keptR (mag : Nat) (place : Int) : Nat := rne (mag <<< (place - lastP mag place).toNat) (lastP mag place - place).toNat

theorem rne_le {n d b : Nat} (h : n ≤ b * 2 ^ d) : rne n d ≤ b := by
  have := rne_mono d h
  rwa [rne_exact] at this
theorem le_rne {n d b : Nat} (h : b * 2 ^ d ≤ n) : b ≤ rne n d := by
  have := rne_mono d h
  rwa [rne_exact] at this

theorem keptR_le (m : Nat) (p : Int) : keptR m p ≤ 9007199254740992 := by
  unfold keptR
  have hl := log2_lt m
  have hlast : p + m.log2 - 52 ≤ lastP m p := by unfold lastP; omega
  generalize lastP m p = l at *
  simp only [Nat.shiftLeft_eq]
  apply rne_le
  by_cases h : l ≤ p
  · have e : (l - p).toNat = 0 := by omega
    rw [e, Nat.pow_zero, Nat.mul_one]
    have h2 : m.log2 + 1 + (p - l).toNat ≤ 53 := by omega
    calc m * 2 ^ (p - l).toNat ≤ 2 ^ (m.log2 + 1) * 2 ^ (p - l).toNat := Nat.mul_le_mul_right _ (Nat.le_of_lt hl)
      _ = 2 ^ (m.log2 + 1 + (p - l).toNat) := by rw [← Nat.pow_add]
      _ ≤ 2 ^ 53 := Nat.pow_le_pow_right (by omega) h2
  · have e : (p - l).toNat = 0 := by omega
    rw [e, Nat.pow_zero, Nat.mul_one]
    have h2 : m.log2 + 1 ≤ 53 + (l - p).toNat := by omega
    calc m ≤ 2 ^ (m.log2 + 1) := Nat.le_of_lt hl
      _ ≤ 2 ^ (53 + (l - p).toNat) := Nat.pow_le_pow_right (by omega) h2
      _ = 9007199254740992 * 2 ^ (l - p).toNat := by rw [Nat.pow_add]

theorem le_keptR {m : Nat} {p : Int} (hm : m ≠ 0) (h : -1074 < lastP m p) : 4503599627370496 ≤ keptR m p := by
  unfold keptR
  have hl := Nat.log2_self_le hm
  have hlast : lastP m p = p + m.log2 - 52 := by unfold lastP at *; omega
  generalize lastP m p = l at *
  simp only [Nat.shiftLeft_eq]
  apply le_rne
  by_cases h' : l ≤ p
  · have e : (l - p).toNat = 0 := by omega
    rw [e, Nat.pow_zero, Nat.mul_one]
    have h2 : 52 = m.log2 + (p - l).toNat := by omega
    calc 4503599627370496 = 2 ^ 52 := rfl
      _ = 2 ^ m.log2 * 2 ^ (p - l).toNat := by rw [← Nat.pow_add, ← h2]
      _ ≤ m * 2 ^ (p - l).toNat := Nat.mul_le_mul_right _ hl
  · have e : (p - l).toNat = 0 := by omega
    rw [e, Nat.pow_zero, Nat.mul_one]
    have h2 : 52 + (l - p).toNat = m.log2 := by omega
    calc 4503599627370496 * 2 ^ (l - p).toNat = 2 ^ 52 * 2 ^ (l - p).toNat := rfl
      _ = 2 ^ (52 + (l - p).toNat) := by rw [← Nat.pow_add]
      _ = 2 ^ m.log2 := by rw [h2]
      _ ≤ m := hl

theorem lastP_ge (m : Nat) (p : Int) : -1074 ≤ lastP m p := by unfold lastP; omega

theorem nearR_eq (m : Nat) (p : Int) : nearR m p = (lastP m p + 1074).toNat * 4503599627370496 + keptR m p := rfl

/-- The magnitude of what is rounded. -/
theorem valR_near {m : Nat} {p : Int} (hm : m ≠ 0) : valR (nearR m p) = keptR m p * 2 ^ (lastP m p + 1074).toNat := by
  rw [nearR_eq]
  refine valR_parts (keptR_le m p) ?_
  by_cases h : lastP m p = -1074
  · left; rw [h]; rfl
  · right; exact le_keptR hm (by have := lastP_ge m p; omega)

theorem nearR_mono {m m' : Nat} (p : Int) (hm : m ≠ 0) (h : m ≤ m') : nearR m p ≤ nearR m' p := by
  have hm' : m' ≠ 0 := by omega
  have hlog : m.log2 ≤ m'.log2 := by
    have h1 := Nat.log2_self_le hm
    have h2 := log2_lt m'
    have h3 : 2 ^ m.log2 < 2 ^ (m'.log2 + 1) := by omega
    have := (Nat.pow_lt_pow_iff_right (by omega : 1 < 2)).1 h3
    omega
  have hl : lastP m p ≤ lastP m' p := by unfold lastP; omega
  rw [nearR_eq, nearR_eq]
  by_cases e : lastP m p = lastP m' p
  · unfold keptR
    rw [e]
    apply Nat.add_le_add_left
    apply rne_mono
    simp only [Nat.shiftLeft_eq]
    exact Nat.mul_le_mul_right _ h
  · have h1 := keptR_le m p
    have h2 := lastP_ge m p
    have h3 := le_keptR (p := p) hm' (by omega)
    have h4 : (lastP m p + 1074).toNat + 1 ≤ (lastP m' p + 1074).toNat := by omega
    have h5 := Nat.mul_le_mul_right 4503599627370496 h4
    omega
end Go.Wk
