import Derived.Test.YtgdkahbnepafgaaDoorWkMem
namespace Go.Wk
open Go Ieee

/-! ### a float64's bits -/
def sgn (x : Nat) : Bool := x / 9223372036854775808 % 2 == 1
def rung (x : Nat) : Nat := x % 9223372036854775808
def infR : Nat := 9218868437227405312
def nan (x : Nat) : Prop := infR < rung x
def fin (x : Nat) : Prop := rung x < infR
instance (x : Nat) : Decidable (nan x) := inferInstanceAs (Decidable (_ < _))
instance (x : Nat) : Decidable (fin x) := inferInstanceAs (Decidable (_ < _))

def magR (r : Nat) : Nat := if r < 4503599627370496 then r else 4503599627370496 + r % 4503599627370496
def shR (r : Nat) : Nat := if r < 4503599627370496 then 0 else r / 4503599627370496 - 1
/-- The magnitude of a rung, in units of 2^-1074. -/
def valR (r : Nat) : Nat := magR r * 2 ^ shR r

theorem double_sw : double.signWeight = 9223372036854775808 := by decide
theorem double_inf : double.infRung = 9218868437227405312 := by decide
theorem double_bin : double.binade = 4503599627370496 := by decide
theorem double_lp : double.leastPlace = -1074 := by decide

theorem read_fin {x : Nat} (h : fin x) : double.read x = .number (sgn x) (magR (rung x)) (-1074 + shR (rung x)) := by
  unfold fin infR at h
  unfold Format.read
  simp only [double_sw, double_bin, double_inf, double_lp]
  show (if rung x < _ then _ else _) = _
  unfold magR shR
  by_cases h1 : rung x < 4503599627370496
  · simp only [h1, if_true]
    show Datum.number (sgn x) (rung x) (-1074) = _
    simp
  · simp only [h1, if_false]
    rw [if_pos (show x % 9223372036854775808 < 9218868437227405312 from h)]
    rfl

theorem read_inf {x : Nat} (h : rung x = infR) : double.read x = .infinity (sgn x) := by
  unfold infR at h
  unfold Format.read
  simp only [double_sw, double_bin, double_inf, double_lp]
  show (if rung x < _ then _ else if rung x < _ then _ else if rung x = _ then _ else _) = _
  rw [h]
  rfl

theorem read_nan {x : Nat} (h : nan x) : ∃ f, double.read x = .nan (sgn x) f := by
  unfold nan infR at h
  unfold Format.read
  simp only [double_sw, double_bin, double_inf, double_lp]
  have h1 : ¬ x % 9223372036854775808 < 4503599627370496 := by unfold rung at h; omega
  have h2 : ¬ x % 9223372036854775808 < 9218868437227405312 := by unfold rung at h; omega
  have h3 : ¬ x % 9223372036854775808 = 9218868437227405312 := by unfold rung at h; omega
  rw [if_neg h1, if_neg h2, if_neg h3]
  exact ⟨_, rfl⟩

theorem tri (x : Nat) : fin x ∨ rung x = infR ∨ nan x := by unfold fin nan; omega

theorem valR_lt {r s : Nat} (h : r < s) : valR r < valR s := by
  unfold valR magR shR
  by_cases hs : s < 4503599627370496
  · have hr : r < 4503599627370496 := by omega
    simp only [hs, hr, if_true, Nat.pow_zero, Nat.mul_one]
    exact h
  · simp only [hs, if_false]
    have hp : 0 < 2 ^ (s / 4503599627370496 - 1) := Nat.two_pow_pos _
    by_cases hr : r < 4503599627370496
    · simp only [hr, if_true, Nat.pow_zero, Nat.mul_one]
      calc r < 4503599627370496 * 1 := by omega
        _ ≤ (4503599627370496 + s % 4503599627370496) * 2 ^ (s / 4503599627370496 - 1) := Nat.mul_le_mul (by omega) hp
    · simp only [hr, if_false]
      by_cases hq : r / 4503599627370496 = s / 4503599627370496
      · rw [hq]
        exact Nat.mul_lt_mul_of_pos_right (by omega) hp
      · have hlt : r / 4503599627370496 < s / 4503599627370496 := by omega
        have h1 : 2 ^ (s / 4503599627370496 - 1) = 2 ^ (r / 4503599627370496 - 1) * 2 ^ (s / 4503599627370496 - r / 4503599627370496) := by
          rw [← Nat.pow_add]; congr 1; omega
        have h2 : 2 ≤ 2 ^ (s / 4503599627370496 - r / 4503599627370496) := by
          calc 2 = 2 ^ 1 := rfl
            _ ≤ _ := Nat.pow_le_pow_right (by omega) (by omega)
        have h3 : 0 < 2 ^ (r / 4503599627370496 - 1) := Nat.two_pow_pos _
        have h4 : r % 4503599627370496 < 4503599627370496 := Nat.mod_lt _ (by decide)
        calc (4503599627370496 + r % 4503599627370496) * 2 ^ (r / 4503599627370496 - 1)
            < (2 * 4503599627370496) * 2 ^ (r / 4503599627370496 - 1) := Nat.mul_lt_mul_of_pos_right (by omega) h3
          _ = 4503599627370496 * (2 ^ (r / 4503599627370496 - 1) * 2) := by rw [Nat.mul_comm 2, Nat.mul_assoc, Nat.mul_comm 2]
          _ ≤ (4503599627370496 + s % 4503599627370496) * (2 ^ (r / 4503599627370496 - 1) * 2 ^ (s / 4503599627370496 - r / 4503599627370496)) :=
              Nat.mul_le_mul (by omega) (Nat.mul_le_mul_left _ h2)
          _ = _ := by rw [← h1]

theorem valR_le {r s : Nat} : valR r ≤ valR s ↔ r ≤ s := by
  constructor
  · intro h
    rcases Nat.lt_or_ge s r with h' | h'
    · have := valR_lt h'; omega
    · exact h'
  · intro h
    rcases Nat.lt_or_eq_of_le h with h' | h'
    · exact Nat.le_of_lt (valR_lt h')
    · rw [h']; exact Nat.le_refl _

theorem valR_zero : valR 0 = 0 := by decide

/-- The place of a number among all. -/
def key (x : Nat) : Int := if sgn x then -(rung x : Int) else rung x
/-- The worth of a finite one, in units of 2^-1074. -/
def wth (x : Nat) : Int := if sgn x then -(valR (rung x) : Int) else valR (rung x)

theorem cmp_val (s t : Bool) (a b : Nat) :
    compare (if s then -(valR a : Int) else valR a) (if t then -(valR b : Int) else valR b) = compare (if s then -(a : Int) else a) (if t then -(b : Int) else b) := by
  have h1 := @valR_le a b
  have h2 := @valR_le b a
  have h3 := @valR_le a 0
  have h4 := @valR_le b 0
  have h5 := @valR_le 0 a
  have h6 := @valR_le 0 b
  rw [valR_zero] at h3 h4 h5 h6
  have key : ∀ x y u v : Int, (x < y ↔ u < v) → (x = y ↔ u = v) → compare x y = compare u v := by
    intro x y u v h h'
    simp only [compare, compareOfLessAndEq]
    by_cases c : x < y
    · rw [if_pos c, if_pos (h.1 c)]
    · rw [if_neg c, if_neg (fun c' => c (h.2 c'))]
      by_cases e : x = y
      · rw [if_pos e, if_pos (h'.1 e)]
      · rw [if_neg e, if_neg (fun e' => e (h'.2 e'))]
  apply key
  · cases s <;> cases t <;> simp only [if_true, if_false, Bool.false_eq_true] <;> omega
  · cases s <;> cases t <;> simp only [if_true, if_false, Bool.false_eq_true] <;> omega

theorem compare_mul (x y : Int) (p : Nat) (hp : 0 < p) : compare (x * p) (y * p) = compare x y := by
  have hp' : (0 : Int) < p := by omega
  simp only [compare, compareOfLessAndEq]
  by_cases c : x < y
  · rw [if_pos c, if_pos ((Int.mul_lt_mul_right hp').2 c)]
  · rw [if_neg c, if_neg (fun c' => c ((Int.mul_lt_mul_right hp').1 c'))]
    by_cases e : x = y
    · rw [if_pos e, if_pos (by rw [e])]
    · rw [if_neg e, if_neg (fun e' => e (Int.eq_of_mul_eq_mul_right (by omega) e'))]

theorem signed_eq (s : Bool) (m u : Nat) : signed s m u = (if s then -(m * 2 ^ u : Nat) else (m * 2 ^ u : Nat) : Int) := by
  unfold signed
  rw [Nat.shiftLeft_eq]

theorem order_num (s t : Bool) (a b : Nat) :
    Datum.order (.number s (magR a) (-1074 + shR a)) (.number t (magR b) (-1074 + shR b)) = some (compare (if s then -(a : Int) else a) (if t then -(b : Int) else b)) := by
  simp only [Datum.order]
  congr 1
  rw [← cmp_val]
  have e1 : ((-1074 + (shR a : Int)) - min (-1074 + (shR a : Int)) (-1074 + (shR b : Int))).toNat = shR a - min (shR a) (shR b) := by omega
  have e2 : ((-1074 + (shR b : Int)) - min (-1074 + (shR a : Int)) (-1074 + (shR b : Int))).toNat = shR b - min (shR a) (shR b) := by omega
  rw [e1, e2, signed_eq, signed_eq]
  have hp : 0 < 2 ^ min (shR a) (shR b) := Nat.two_pow_pos _
  rw [← compare_mul _ _ _ hp]
  have f1 : magR a * 2 ^ (shR a - min (shR a) (shR b)) * 2 ^ min (shR a) (shR b) = valR a := by
    rw [Nat.mul_assoc, ← Nat.pow_add, Nat.sub_add_cancel (Nat.min_le_left ..)]; rfl
  have f2 : magR b * 2 ^ (shR b - min (shR a) (shR b)) * 2 ^ min (shR a) (shR b) = valR b := by
    rw [Nat.mul_assoc, ← Nat.pow_add, Nat.sub_add_cancel (Nat.min_le_right ..)]; rfl
  congr 1
  · cases s
    · simp only [Bool.false_eq_true, if_false]; rw [← Int.natCast_mul, f1]
    · simp only [if_true]; rw [Int.neg_mul, ← Int.natCast_mul, f1]
  · cases t
    · simp only [Bool.false_eq_true, if_false]; rw [← Int.natCast_mul, f2]
    · simp only [if_true]; rw [Int.neg_mul, ← Int.natCast_mul, f2]

theorem rung_lt (x : Nat) : rung x < 9223372036854775808 := Nat.mod_lt _ (by decide)

theorem order_key {x y : Nat} (hx : ¬ nan x) (hy : ¬ nan y) : double.order x y = some (compare (key x) (key y)) := by
  unfold Format.order key
  have hcmp : ∀ u v : Int, u < v → compare u v = .lt := fun u v h => by simp [compare, compareOfLessAndEq, h]
  have hcmp' : ∀ u v : Int, v < u → compare u v = .gt := fun u v h => by
    have h1 : ¬ u < v := by omega
    have h2 : ¬ u = v := by omega
    simp [compare, compareOfLessAndEq, h1, h2]
  have heq : ∀ u : Int, compare u u = .eq := fun u => by simp [compare, compareOfLessAndEq]
  rcases tri x with h | h | h
  · rcases tri y with h' | h' | h'
    · rw [read_fin h, read_fin h', order_num]
    · rw [read_fin h, read_inf h']
      unfold fin infR at h
      unfold infR at h'
      simp only [Datum.order]
      cases hs : sgn y
      · simp only [Bool.false_eq_true, if_false]
        rw [hcmp]
        split <;> omega
      · simp only [if_true]
        rw [hcmp']
        split <;> omega
    · exact absurd h' hy
  · rcases tri y with h' | h' | h'
    · rw [read_inf h, read_fin h']
      unfold fin infR at h'
      unfold infR at h
      simp only [Datum.order]
      cases hs : sgn x
      · simp only [Bool.false_eq_true, if_false]
        rw [hcmp']
        split <;> omega
      · simp only [if_true]
        rw [hcmp]
        split <;> omega
    · rw [read_inf h, read_inf h', h, h']
      simp only [Datum.order]
      cases sgn x <;> cases sgn y <;> simp only [if_true, if_false, Bool.false_eq_true] <;> rfl
    · exact absurd h' hy
  · exact absurd h hx

theorem order_nan {x y : Nat} (h : nan x ∨ nan y) : double.order x y = none := by
  unfold Format.order
  rcases h with h | h
  · obtain ⟨f, hf⟩ := read_nan h
    rw [hf]; rfl
  · obtain ⟨f, hf⟩ := read_nan h
    rw [hf]
    cases double.read x <;> rfl

theorem feq_eq (x y : Nat) : feq .f64 x y = decide (¬ nan x ∧ ¬ nan y ∧ key x = key y) := by
  unfold feq
  show (double.order x y == some .eq) = _
  by_cases h : nan x ∨ nan y
  · rw [order_nan h]
    rw [eq_comm, decide_eq_false_iff_not.2 (by rcases h with h | h <;> simp [h])]
    rfl
  · have hx : ¬ nan x := fun h' => h (.inl h')
    have hy : ¬ nan y := fun h' => h (.inr h')
    rw [order_key hx hy]
    simp only [hx, hy, not_false_eq_true, true_and, compare, compareOfLessAndEq]
    by_cases c : key x < key y
    · rw [if_pos c]
      have : ¬ key x = key y := by omega
      simp [this]
    · rw [if_neg c]
      by_cases e : key x = key y
      · simp [e]
      · simp [e]

theorem fne_eq (x y : Nat) : fne .f64 x y = !feq .f64 x y := rfl

theorem flt_eq (x y : Nat) : flt .f64 x y = decide (¬ nan x ∧ ¬ nan y ∧ key x < key y) := by
  unfold flt
  show (double.order x y == some .lt) = _
  by_cases h : nan x ∨ nan y
  · rw [order_nan h]
    rw [eq_comm, decide_eq_false_iff_not.2 (by rcases h with h | h <;> simp [h])]
    rfl
  · have hx : ¬ nan x := fun h' => h (.inl h')
    have hy : ¬ nan y := fun h' => h (.inr h')
    rw [order_key hx hy]
    simp only [hx, hy, not_false_eq_true, true_and, compare, compareOfLessAndEq]
    by_cases c : key x < key y
    · simp [c]
    · rw [if_neg c]
      by_cases e : key x = key y
      · simp [e]
      · simp [e, c]

theorem fgt_eq (x y : Nat) : fgt .f64 x y = decide (¬ nan x ∧ ¬ nan y ∧ key y < key x) := by
  unfold fgt
  show (double.order x y == some .gt) = _
  by_cases h : nan x ∨ nan y
  · rw [order_nan h]
    rw [eq_comm, decide_eq_false_iff_not.2 (by rcases h with h | h <;> simp [h])]
    rfl
  · have hx : ¬ nan x := fun h' => h (.inl h')
    have hy : ¬ nan y := fun h' => h (.inr h')
    rw [order_key hx hy]
    simp only [hx, hy, not_false_eq_true, true_and, compare, compareOfLessAndEq]
    by_cases c : key x < key y
    · have : ¬ key y < key x := by omega
      simp [c, this]
    · rw [if_neg c]
      by_cases e : key x = key y
      · simp [e]
      · have : key y < key x := by omega
        simp [e, this]

theorem fle_eq (x y : Nat) : fle .f64 x y = decide (¬ nan x ∧ ¬ nan y ∧ key x ≤ key y) := by
  have h : fle .f64 x y = (flt .f64 x y || feq .f64 x y) := rfl
  rw [h, flt_eq, feq_eq, ← Bool.decide_or]
  congr 1
  apply propext
  constructor
  · rintro (⟨a, b, c⟩ | ⟨a, b, c⟩) <;> exact ⟨a, b, by omega⟩
  · rintro ⟨a, b, c⟩
    by_cases e : key x = key y
    · exact .inr ⟨a, b, e⟩
    · exact .inl ⟨a, b, by omega⟩
end Go.Wk
