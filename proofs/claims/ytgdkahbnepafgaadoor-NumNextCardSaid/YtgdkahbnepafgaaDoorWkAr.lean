import Derived.Test.YtgdkahbnepafgaaDoorWkArr
import Derived.Laws.FloatArith
namespace Go.Wk
open Go Ieee

theorem rne_eq (n d : Nat) : rne n d = n / 2 ^ d + (if 2 ^ d < 2 * (n % 2 ^ d) ∨ (2 ^ d = 2 * (n % 2 ^ d) ∧ n / 2 ^ d % 2 = 1) then 1 else 0) := rfl

/-! ### sums and products of finite numbers -/
theorem near_shift (s : Bool) (m : Nat) (p : Int) (k : Nat) : double.nearest s (m * 2 ^ k) (p - k) = double.nearest s m p := by
  by_cases h : m = 0
  · subst h; rw [Nat.zero_mul, nearest_zero, nearest_zero]
  · have h' : m * 2 ^ k ≠ 0 := by
      have : 0 < m * 2 ^ k := Nat.mul_pos (by omega) (Nat.two_pow_pos _)
      omega
    rw [nearest_eq _ _ _ h', nearest_eq _ _ _ h, nearR_shift _ _ _ h]

theorem near_shift' (s : Bool) (m : Nat) (p : Int) (k : Nat) : double.nearest s (m * 2 ^ k) p = double.nearest s m (p + k) := by
  rw [← near_shift s m (p + k) k]
  congr 1
  omega

theorem near_eq_of_val {s : Bool} {m n : Nat} {p q : Int} (i j : Nat) (hp : p - i = q - j) (h : m * 2 ^ i = n * 2 ^ j) :
    double.nearest s m p = double.nearest s n q := by
  rw [← near_shift s m p i, ← near_shift s n q j, hp, h]

theorem mul_fin {x y : Nat} (hx : fin x) (hy : fin y) : floatBits .mul .f64 x y =
    some (double.nearest (sgn x ^^ sgn y) (magR (rung x) * magR (rung y)) ((-1074 + shR (rung x)) + (-1074 + shR (rung y)))) := by
  show double.mul x y = _
  unfold Format.mul
  rw [read_fin hx, read_fin hy]
  rfl

theorem signed_wth (x : Nat) (b : Int) (h : b ≤ -1074 + shR (rung x)) (hb : -1074 ≤ b) :
    signed (sgn x) (magR (rung x)) ((-1074 + (shR (rung x) : Int)) - b).toNat * 2 ^ (b + 1074).toNat = wth x := by
  have e : magR (rung x) * 2 ^ ((-1074 + (shR (rung x) : Int)) - b).toNat * 2 ^ (b + 1074).toNat = valR (rung x) := by
    rw [Nat.mul_assoc, ← Nat.pow_add]
    unfold valR
    congr 2
    omega
  rw [signed_eq]
  unfold wth
  rw [← e]
  cases sgn x
  · simp
  · simp [Int.neg_mul]

/-- A number of units, rounded. -/
def roundZ (s0 : Bool) (z : Int) : Nat := double.nearest (if z = 0 then s0 else decide (z < 0)) z.natAbs (-1074)

theorem sum_fin (s t : Bool) (x y : Nat) (i j : Int) (m n : Nat) (X Y : Int) (hi : -1074 ≤ i) (hj : -1074 ≤ j)
    (hX : ∀ b : Int, -1074 ≤ b → b ≤ i → signed s m (i - b).toNat * 2 ^ (b + 1074).toNat = X)
    (hY : ∀ b : Int, -1074 ≤ b → b ≤ j → signed t n (j - b).toNat * 2 ^ (b + 1074).toNat = Y) :
    ((Datum.sum (.number s m i) (.number t n j)).map double.write) = some (roundZ (s && t) (X + Y)) := by
  have h1 := hX (min i j) (by omega) (by omega)
  have h2 := hY (min i j) (by omega) (by omega)
  simp only [Datum.sum, Option.map]
  congr 1
  show double.nearest _ _ _ = _
  unfold roundZ
  generalize signed s m (i - min i j).toNat = a at *
  generalize signed t n (j - min i j).toNat = b at *
  have hp : (0 : Int) < 2 ^ (min i j + 1074).toNat := Int.pow_pos (by omega)
  have hs : X + Y = (a + b) * 2 ^ (min i j + 1074).toNat := by rw [← h1, ← h2, Int.add_mul]
  have hz : (X + Y = 0) ↔ (a + b = 0) := by
    rw [hs, Int.mul_eq_zero]
    constructor
    · rintro (h | h)
      · exact h
      · omega
    · intro h; exact Or.inl h
  have hn : (X + Y < 0) ↔ (a + b < 0) := by
    rw [hs]
    constructor
    · intro h
      rcases Int.lt_or_le (a + b) 0 with h' | h'
      · exact h'
      · have := Int.mul_nonneg h' (Int.le_of_lt hp); omega
    · intro h
      exact Int.mul_neg_of_neg_of_pos h hp
  have hab : (X + Y).natAbs = (a + b).natAbs * 2 ^ (min i j + 1074).toNat := by
    rw [hs, Int.natAbs_mul, Int.natAbs_pow]
    rfl
  have e1 : (if a + b = 0 then (s && t : Bool) else decide (a + b < 0)) = (if X + Y = 0 then (s && t : Bool) else decide (X + Y < 0)) := by
    by_cases h : a + b = 0
    · rw [if_pos h, if_pos (hz.2 h)]
    · rw [if_neg h, if_neg (fun h' => h (hz.1 h'))]
      exact decide_eq_decide.2 hn.symm
  have e2 : (if a + b = 0 then s && t else decide (a + b < 0)) = (if X + Y = 0 then s && t else decide (X + Y < 0)) := e1
  rw [e2, hab, near_shift']
  congr 1
  omega

theorem add_fin {x y : Nat} (hx : fin x) (hy : fin y) : floatBits .add .f64 x y = some (roundZ (sgn x && sgn y) (wth x + wth y)) := by
  show double.add x y = _
  unfold Format.add
  rw [read_fin hx, read_fin hy]
  exact sum_fin _ _ x y _ _ _ _ _ _ (by omega) (by omega) (fun b h h' => signed_wth x b h' h) (fun b h h' => signed_wth y b h' h)

theorem signed_neg (s : Bool) (m u : Nat) : signed (!s) m u = - signed s m u := by
  unfold signed
  cases s <;> simp

theorem sub_fin {x y : Nat} (hx : fin x) (hy : fin y) : floatBits .sub .f64 x y = some (roundZ (sgn x && !sgn y) (wth x - wth y)) := by
  show double.sub x y = _
  unfold Format.sub
  rw [read_fin hx, read_fin hy]
  exact sum_fin _ _ x y _ _ _ _ _ _ (by omega) (by omega) (fun b h h' => signed_wth x b h' h)
    (fun b h h' => by rw [signed_neg, Int.neg_mul, signed_wth y b h' h])

theorem fop_some {op : BinOp} {κ : FloatKind} {a b r : Nat} {w : World} {k : Nat → World → Prop} (h : floatBits op κ a b = some r) (hk : k r w) : fop op κ a b w k :=
  ⟨fun r' h' => by rw [h] at h'; cases h'; exact hk, fun h' => by rw [h] at h'; cases h'⟩

/-- Of 53 digits none is lost. -/
theorem nearR_norm {M : Nat} {p : Int} (h1 : 4503599627370496 ≤ M) (h2 : M < 9007199254740992) (hp : -1074 ≤ p) :
    nearR M p = (p + 1074).toNat * 4503599627370496 + M := by
  have hl : M.log2 = 52 := by
    have a : M.log2 < 53 := (Nat.log2_lt (by omega)).2 (by simpa using h2)
    have b : 52 ≤ M.log2 := (Nat.le_log2 (by omega)).2 (by simpa using h1)
    omega
  have hlast : lastP M p = p := by unfold lastP; rw [hl]; omega
  unfold nearR
  rw [hlast, Int.sub_self]
  show _ + rne (M <<< 0) 0 = _
  rw [rne_zero, Nat.shiftLeft_zero]

theorem magR_norm {r : Nat} (h : 4503599627370496 ≤ r) : 4503599627370496 ≤ magR r ∧ magR r < 9007199254740992 ∧ r = (shR r) * 4503599627370496 + magR r := by
  unfold magR shR
  rw [if_neg (by omega), if_neg (by omega)]
  omega

/-- Below a half of the least one. -/
theorem nearR_small {M : Nat} {p : Int} (h0 : M ≠ 0) (h2 : M < 9007199254740992) (hp : p ≤ -1128) : nearR M p = 0 := by
  have hl : M.log2 ≤ 52 := by
    have a : M.log2 < 53 := (Nat.log2_lt h0).2 (by simpa using h2)
    omega
  have hlast : lastP M p = -1074 := by unfold lastP; omega
  unfold nearR
  rw [hlast]
  have e1 : (p - -1074).toNat = 0 := by omega
  rw [e1, Nat.shiftLeft_zero]
  have : ∃ d, (-1074 - p).toNat = 54 + d := ⟨(-1074 - p).toNat - 54, by omega⟩
  obtain ⟨d, hd⟩ := this
  rw [hd, rne_eq]
  have h3 : 2 ^ 54 ≤ 2 ^ (54 + d) := Nat.pow_le_pow_right (by omega) (by omega)
  have h4 : M < 2 ^ (54 + d) := Nat.lt_of_lt_of_le (by omega) h3
  rw [Nat.div_eq_of_lt h4, Nat.mod_eq_of_lt h4, if_neg (by omega)]
  rfl

theorem rne_sticky {n n' : Nat} (d : Nat) (h1 : n / 4 = n' / 4) (h2 : n % 4 = 0 ↔ n' % 4 = 0) : rne n (d + 3) = rne n' (d + 3) := by
  rw [rne_eq, rne_eq]
  have e : (2 : Nat) ^ (d + 3) = 4 * 2 ^ (d + 1) := by rw [show d + 3 = 2 + (d + 1) by omega, Nat.pow_add]
  have e' : (2 : Nat) ^ (d + 1) = 2 * 2 ^ d := by rw [Nat.pow_succ]; omega
  have hq : n / 2 ^ (d + 3) = n' / 2 ^ (d + 3) := by rw [e, ← Nat.div_div_eq_div_mul, ← Nat.div_div_eq_div_mul, h1]
  have hr : ∀ n, n % 2 ^ (d + 3) = 4 * (n / 4 % 2 ^ (d + 1)) + n % 4 := by
    intro n
    rw [e, Nat.mod_mul]; omega
  rw [hq, hr n, hr n', h1, e, e']
  congr 1
  generalize n' / 4 % (2 * 2 ^ d) = a
  generalize 2 ^ d = g
  have b1 : n % 4 < 4 := Nat.mod_lt _ (by omega)
  have b2 : n' % 4 < 4 := Nat.mod_lt _ (by omega)
  generalize n % 4 = x at *
  generalize n' % 4 = y at *
  have : (4 * (2 * g) < 2 * (4 * a + x) ∨ 4 * (2 * g) = 2 * (4 * a + x) ∧ n' / (4 * (2 * g)) % 2 = 1) ↔
      (4 * (2 * g) < 2 * (4 * a + y) ∨ 4 * (2 * g) = 2 * (4 * a + y) ∧ n' / (4 * (2 * g)) % 2 = 1) := by omega
  by_cases c : (4 * (2 * g) < 2 * (4 * a + y) ∨ 4 * (2 * g) = 2 * (4 * a + y) ∧ n' / (4 * (2 * g)) % 2 = 1)
  · rw [if_pos c, if_pos (this.2 c)]
  · rw [if_neg c, if_neg (fun h => c (this.1 h))]

/-- The rounding that halves one by one. -/
theorem rne_halve (m h l d : Nat) (hh : h < 2) (hl : l < 2) : rne (4 * m + 2 * h + l) (d + 3) = rne (4 * (m / 2) + 2 * (m % 2) + (if h = 0 ∧ l = 0 then 0 else 1)) (d + 2) := by
  rw [← rne_mul (4 * (m / 2) + 2 * (m % 2) + _) _ 1, show d + 2 + 1 = d + 3 by omega]
  apply rne_sticky
  · split <;> omega
  · split <;> omega

theorem rne_two (m h l : Nat) (hh : h < 2) (hl : l < 2) : rne (4 * m + 2 * h + l) 2 = m + (if h = 1 ∧ (l = 1 ∨ m % 2 = 1) then 1 else 0) := by
  rw [rne_eq]
  have h1 : (4 * m + 2 * h + l) / 2 ^ 2 = m := by omega
  have h2 : (4 * m + 2 * h + l) % 2 ^ 2 = 2 * h + l := by omega
  rw [h1, h2]
  congr 1
  by_cases c : h = 1 ∧ (l = 1 ∨ m % 2 = 1)
  · rw [if_pos c, if_pos (by omega)]
  · rw [if_neg c, if_neg (by omega)]
end Go.Wk
