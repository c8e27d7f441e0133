/- A part of the proof. -/
import Derived.Test.YtgdkahbnepafgaaWk0
set_option linter.unusedVariables false

/-! ### WkQuo -/
namespace Go.Wk
open Go Go.RowKit Ieee

abbrev oneW : Nat := 4607182418800017408
theorem near_one : nearR 1 0 = oneW := by decide +kernel

theorem word_le_one (s : Bool) {R : Nat} (h : R ≤ 4607182418800017408) : rung (wordD s (min R infR)) ≤ 4607182418800017408 := by
  have h1 : min R infR < 9223372036854775808 := by unfold infR; omega
  rw [rung_word s h1]
  exact Nat.le_trans (Nat.min_le_left _ _) h

/-- A quotient of what is not greater is at most 1. -/
theorem quo_le_one {a b : Nat} (ha : fin a) (hb : fin b) (hb0 : rung b ≠ 0) (h : rung a ≤ rung b) : rung (fb .quo a b) ≤ oneW := by
  rw [fb_some (quo_fin ha hb hb0)]
  have hv := valR_le.2 h
  unfold valR at hv
  have hn0 : magR (rung b) ≠ 0 := fun h => hb0 (magR_zero.1 h)
  have hml := magR_lt (rung a)
  generalize magR (rung a) = m at *
  generalize magR (rung b) = n at *
  generalize shR (rung a) = sa at *
  generalize shR (rung b) = sb at *
  by_cases hm0 : m = 0
  · subst hm0
    have e : (2 * ((0 : Nat) <<< (54 + n.log2 - Nat.log2 0) / n) + ((0 : Nat) <<< (54 + n.log2 - Nat.log2 0) % n != 0).toNat) = 0 := by
      rw [Nat.zero_shiftLeft, Nat.zero_div, Nat.zero_mod]; rfl
    rw [e, nearest_zero, rung_word _ (by decide)]
    decide
  obtain ⟨more, hmo⟩ : ∃ more, more = 54 + n.log2 - m.log2 := ⟨_, rfl⟩
  rw [← hmo]
  have hl1 := Nat.log2_self_le hm0
  have hl2 := log2_lt n
  have hlm : m.log2 ≤ 52 := by
    have a : m.log2 < 53 := (Nat.log2_lt hm0).2 (by simpa using hml)
    omega
  have hbig : n < m * 2 ^ more := by
    calc n < 2 ^ (n.log2 + 1) := hl2
      _ ≤ 2 ^ (m.log2 + more) := Nat.pow_le_pow_right (by omega) (by omega)
      _ = 2 ^ m.log2 * 2 ^ more := by rw [Nat.pow_add]
      _ ≤ m * 2 ^ more := Nat.mul_le_mul_right _ hl1
  have hsa : sa ≤ sb + more := by
    rcases Nat.lt_or_ge (sb + more) sa with hh | hh
    · exfalso
      have h1 : m * 2 ^ more * 2 ^ sb ≤ m * 2 ^ sa := by
        rw [Nat.mul_assoc, ← Nat.pow_add]
        exact Nat.mul_le_mul_left _ (Nat.pow_le_pow_right (by omega) (by omega))
      have h2 : n * 2 ^ sb < m * 2 ^ more * 2 ^ sb := Nat.mul_lt_mul_of_pos_right hbig (Nat.two_pow_pos _)
      omega
    · exact hh
  obtain ⟨t, ht⟩ : ∃ t, sb + more = t + sa := ⟨sb + more - sa, by omega⟩
  have hD : m * 2 ^ more ≤ n * 2 ^ t := by
    have h1 : m * 2 ^ more * 2 ^ sa ≤ n * 2 ^ t * 2 ^ sa := by
      have e1 : m * 2 ^ more * 2 ^ sa = m * 2 ^ sa * 2 ^ more := by rw [Nat.mul_assoc, Nat.mul_comm (2 ^ more), ← Nat.mul_assoc]
      have e2 : n * 2 ^ t * 2 ^ sa = n * 2 ^ sb * 2 ^ more := by rw [Nat.mul_assoc, ← Nat.pow_add, Nat.mul_assoc, ← Nat.pow_add, ht]
      rw [e1, e2]
      exact Nat.mul_le_mul_right _ hv
    exact Nat.le_of_mul_le_mul_right h1 (Nat.two_pow_pos _)
  rw [Nat.shiftLeft_eq]
  generalize m * 2 ^ more = D at *
  have hM : 2 * (D / n) + (D % n != 0).toNat ≤ 2 ^ (t + 1) := by
    have hdm := Nat.div_add_mod D n
    have hlt := Nat.mod_lt D (Nat.pos_of_ne_zero hn0)
    have hq : D / n ≤ 2 ^ t := by
      rw [Nat.mul_comm] at hD
      exact Nat.div_le_of_le_mul (by rw [Nat.mul_comm]; exact hD)
    rw [Nat.pow_succ]
    by_cases hr : D % n = 0
    · have : (D % n != 0).toNat = 0 := by rw [hr]; rfl
      omega
    · have h1 : (D % n != 0).toNat = 1 := by rw [bne_iff_ne.2 hr]; rfl
      have hq2 : D / n ≠ 2 ^ t := by
        intro e
        rw [e] at hdm
        omega
      omega
  have hM0 : 2 * (D / n) + (D % n != 0).toNat ≠ 0 := by
    have : 0 < D / n := Nat.div_pos (by omega) (Nat.pos_of_ne_zero hn0)
    omega
  generalize 2 * (D / n) + (D % n != 0).toNat = M at *
  have hpl : (-1074 + (sa : Int)) - (-1074 + (sb : Int)) - (more : Int) - 1 = 0 - ((t + 1 : Nat) : Int) := by omega
  rw [hpl, nearest_eq _ _ _ hM0]
  have h1 := nearR_mono (0 - ((t + 1 : Nat) : Int)) hM0 hM
  have h2 := nearR_shift 1 0 (t + 1) (by decide)
  rw [Nat.one_mul, near_one] at h2
  rw [h2] at h1
  exact word_le_one _ h1

theorem fval_one : fval oneW = 1 := by
  rw [fval_sg]
  have e1 : sgn oneW = false := by decide +kernel
  have e2 : magR (rung oneW) = 4503599627370496 := by decide +kernel
  have e3 : shR (rung oneW) = 1022 := by decide +kernel
  rw [e1, e2, e3]
  have h : ((4503599627370496 : Nat) : Rat) = ulp 52 := (ulp_nat 52).symm
  have h0 : ((52 : Nat) : Int) + (-1074 + ((1022 : Nat) : Int)) = 0 := by omega
  rw [h, show (52 : Int) = ((52 : Nat) : Int) from rfl, ← ulp_add, h0, ulp_zero]
  unfold sg
  simp

theorem fval_abs_le_one {x : Nat} (hx : fin x) (h : rung x ≤ oneW) : (fval x).abs ≤ 1 := by
  rw [← fval_rung, ← fval_one]
  refine fval_le ?_
  rw [key_rung]
  have : key oneW = oneW := by decide +kernel
  rw [this]
  omega
theorem fval_zero' : fval 0 = 0 := by
  refine fval_zero ?_
  decide
theorem fval_negOne : fval negOne = -1 := by
  have e : rung negOne = oneW := by decide +kernel
  have h := fval_rung negOne
  rw [e, fval_one] at h
  have hs : sgn negOne = true := by decide +kernel
  have h2 := fval_sg negOne
  rw [hs] at h2
  have h3 : 0 ≤ ((magR (rung negOne) : Nat) : Rat) * ulp (-1074 + (shR (rung negOne) : Int)) := Rat.mul_nonneg (natR_nonneg _) (Rat.le_of_lt (ulp_pos _))
  generalize ((magR (rung negOne) : Nat) : Rat) * ulp (-1074 + (shR (rung negOne) : Int)) = y at *
  rw [h2] at h ⊢
  have h4 : sg true * y = -y := by unfold sg; grind
  rw [h4] at h ⊢
  rw [Rat.abs_neg, Rat.abs_of_nonneg h3] at h
  rw [← h]

/-- The greatest without signs. -/
theorem mostF_spec {f : Nat → Nat} : ∀ n, (∀ i, i < n → fin (f i)) → ∀ i, i < n → rung (f i) ≤ rung (f (mostF f n))
  | 0, _, i, hi => by omega
  | n + 1, hf, i, hi => by
    unfold mostF
    by_cases hn : n = 0
    · rw [if_pos hn]
      have : i = 0 := by omega
      subst this; exact Nat.le_refl _
    · rw [if_neg hn]
      have ih := mostF_spec n (fun i hi => hf i (by omega))
      have hlt := mostF_lt f n (by omega)
      have hg : gtA (f n) (f (mostF f n)) = decide (rung (f (mostF f n)) < rung (f n)) := by
        unfold gtA
        rw [fgt_eq, key_rung, key_rung]
        have n1 := fin_not_nan (fin_rung.2 (hf n (by omega)))
        have n2 := fin_not_nan (fin_rung.2 (hf (mostF f n) (by omega)))
        simp only [n1, n2, not_false_eq_true, true_and]
        exact decide_eq_decide.2 (by omega)
      rw [hg]
      by_cases c : rung (f (mostF f n)) < rung (f n)
      · rw [if_pos (decide_eq_true c)]
        rcases Nat.lt_or_ge i n with h | h
        · have := ih i h; omega
        · have : i = n := by omega
          subst this; exact Nat.le_refl _
      · rw [if_neg (by simp [c])]
        rcases Nat.lt_or_ge i n with h | h
        · exact ih i h
        · have : i = n := by omega
          subst this; omega
end Go.Wk

/-! ### WkLuP -/
namespace Go.Wk
open Go Go.RowKit Ieee

/-! ### the factors are those of a matrix nearby -/
abbrev eps : Rat := 1 / 9007199254740992
theorem ulp53 : ulp (-53) = eps := by
  have h : ulp (-53) * ulp 53 = 1 := by rw [← ulp_add]; exact ulp_zero
  have h2 : ulp 53 = 9007199254740992 := by
    have := ulp_nat 53
    rw [show ((53 : Nat) : Int) = 53 from rfl] at this
    rw [this]; rfl
  rw [h2] at h
  unfold eps
  grind
def eta : Rat := ulp (-1075)
theorem eta_pos : 0 < eta := ulp_pos _

theorem abs_tri4 {a b c d z A B C D : Rat} (h : z = a + b + c + d) (ha : a.abs ≤ A) (hb : b.abs ≤ B) (hc : c.abs ≤ C) (hd : d.abs ≤ D) : z.abs ≤ A + B + C + D := by
  have h1 := abs_add (a + b + c) d
  have h2 := abs_add (a + b) c
  have h3 := abs_add a b
  rw [h]; grind
theorem abs_tri2 {a b z A B : Rat} (h : z = a + b) (ha : a.abs ≤ A) (hb : b.abs ≤ B) : z.abs ≤ A + B := by
  have h3 := abs_add a b
  rw [h]; grind

theorem upd_err {l u t p x x' S M c h E η : Rat} (hl : l.abs ≤ 1) (ht : (t - -1 * u).abs ≤ eps * t.abs + η) (hp : (p - t * l).abs ≤ eps * p.abs + η) (hx : (x' - (x + p)).abs ≤ eps * x'.abs)
    (hc0 : 0 ≤ c) (hc : c ≤ 1 / 1073741824) (hη : 0 ≤ η) (hS : 0 ≤ S) (hD : (E + x - M).abs ≤ c * (S + x.abs) + h) :
    (E + l * u + x' - M).abs ≤ (c + 4 * eps) * (S + (l * u).abs + x'.abs) + (h + 32 * η) := by
  have f1 : (t * l + u * l).abs ≤ eps * (t * l).abs + η := by
    have e : t * l + u * l = (t - -1 * u) * l := by grind
    rw [e, abs_mul, abs_mul]
    have h1 := Rat.mul_le_mul_of_nonneg_right ht (Rat.abs_nonneg (x := l))
    have h2 := Rat.mul_le_mul_of_nonneg_left hl hη
    grind
  have f2 : (t * l).abs ≤ (eps * (t * l).abs + η) + (l * u).abs := by
    refine abs_tri2 (a := t * l + u * l) (b := -(l * u)) (by grind) f1 ?_
    rw [Rat.abs_neg]; exact Rat.le_refl
  have f3 : p.abs ≤ (eps * p.abs + η) + (t * l).abs := abs_tri2 (a := p - t * l) (b := t * l) (by grind) hp Rat.le_refl
  have f4 : x.abs ≤ eps * x'.abs + p.abs + x'.abs := by
    have h1 := abs_tri2 (a := x' - (x' - (x + p))) (b := -p) (z := x) (by grind) Rat.le_refl (by rw [Rat.abs_neg]; exact Rat.le_refl)
    have h2 := abs_tri2 (a := x') (b := -(x' - (x + p))) (z := x' - (x' - (x + p))) (by grind) Rat.le_refl (by rw [Rat.abs_neg]; exact hx)
    grind
  have f5 := abs_tri4 (z := E + l * u + x' - M) (a := E + x - M) (b := x' - (x + p)) (c := p - t * l) (d := t * l + u * l) (by grind) hD hx hp f1
  have nA := Rat.abs_nonneg (x := l * u)
  have nX := Rat.abs_nonneg (x := x')
  generalize (l * u).abs = A at *
  generalize x'.abs = X' at *
  generalize x.abs = X at *
  generalize p.abs = P at *
  generalize (t * l).abs = T at *
  generalize (E + l * u + x' - M).abs = Z at *
  have g1 : P ≤ A + 5 * eps * A + 5 * η := by unfold eps at *; grind
  have g2 : X ≤ X' + eps * X' + (A + 5 * eps * A + 5 * η) := by grind
  have g3 := Rat.mul_le_mul_of_nonneg_left g2 hc0
  have g4 := Rat.mul_le_mul_of_nonneg_right hc nA
  have g5 := Rat.mul_le_mul_of_nonneg_right hc nX
  have g6 := Rat.mul_le_mul_of_nonneg_right hc hη
  have g7 := Rat.mul_nonneg hc0 nA
  have g8 := Rat.mul_nonneg hc0 nX
  have g9 := Rat.mul_nonneg hc0 hη
  have e1 : c * (X' + eps * X' + (A + 5 * eps * A + 5 * η)) = c * X' + eps * (c * X') + c * A + 5 * eps * (c * A) + 5 * (c * η) := by grind
  have e2 : (c + 4 * eps) * (S + A + X') = c * S + c * A + c * X' + 4 * eps * S + 4 * eps * A + 4 * eps * X' := by grind
  have e3 : c * (S + X) = c * S + c * X := by grind
  rw [e1] at g3
  rw [e2]
  rw [e3] at f5
  generalize c * X = cX at *
  generalize c * X' = cX' at *
  generalize c * A = cA at *
  generalize c * S = cS at *
  generalize c * η = cη at *
  unfold eps at *
  grind

theorem div_err {a' v x S M c h E η : Rat} (hv : v ≠ 0) (ha : (a' - x / v).abs ≤ eps * a'.abs + (3/4 : Rat) * (eps * (x / v).abs) + η)
    (hc0 : 0 ≤ c) (hc : c ≤ 1 / 1073741824) (hη : 0 ≤ η) (hS : 0 ≤ S) (hD : (E + x - M).abs ≤ c * (S + x.abs) + h) :
    (E + a' * v - M).abs ≤ (c + 4 * eps) * (S + (a' * v).abs) + (h + 32 * η * (1 + v.abs)) := by
  have hxv : x / v * v = x := Rat.div_mul_cancel hv
  have nv := Rat.abs_nonneg (x := v)
  have f1 : (a' * v - x).abs ≤ eps * (a' * v).abs + (3/4 : Rat) * (eps * x.abs) + η * v.abs := by
    have e : a' * v - x = (a' - x / v) * v := by rw [← hxv]; generalize x / v = q; grind
    have ex : x.abs = (x / v).abs * v.abs := by rw [← abs_mul, hxv]
    rw [e, abs_mul, abs_mul, ex]
    have h1 := Rat.mul_le_mul_of_nonneg_right ha nv
    grind
  have f2 : x.abs ≤ (a' * v).abs + (eps * (a' * v).abs + (3/4 : Rat) * (eps * x.abs) + η * v.abs) :=
    abs_tri2 (a := a' * v) (b := -(a' * v - x)) (by grind) Rat.le_refl (by rw [Rat.abs_neg]; exact f1)
  have f5 := abs_tri2 (z := E + a' * v - M) (a := E + x - M) (b := a' * v - x) (by grind) hD f1
  have nY := Rat.abs_nonneg (x := a' * v)
  have nh := Rat.mul_nonneg hη nv
  generalize (a' * v).abs = Y at *
  generalize x.abs = X at *
  generalize (E + a' * v - M).abs = Z at *
  generalize hH : η * v.abs = H at *
  have eH : 32 * η * (1 + v.abs) = 32 * η + 32 * H := by rw [← hH]; grind
  rw [eH]
  have g1 : X ≤ Y + 2 * eps * Y + 2 * H := by unfold eps at *; grind
  have g3 := Rat.mul_le_mul_of_nonneg_left g1 hc0
  have g5 := Rat.mul_le_mul_of_nonneg_right hc nY
  have g6 := Rat.mul_le_mul_of_nonneg_right hc nh
  have e1 : c * (Y + 2 * eps * Y + 2 * H) = c * Y + 2 * eps * (c * Y) + 2 * (c * H) := by grind
  have e2 : (c + 4 * eps) * (S + Y) = c * S + c * Y + 4 * eps * S + 4 * eps * Y := by grind
  have e3 : c * (S + X) = c * S + c * X := by grind
  rw [e1] at g3
  rw [e2]
  rw [e3] at f5
  generalize c * X = cX at *
  generalize c * Y = cY at *
  generalize c * S = cS at *
  generalize c * H = cH at *
  unfold eps at *
  grind
end Go.Wk

/-! ### WkLuQ -/
namespace Go.Wk
open Go Go.RowKit Ieee

theorem sumTo_congr {f g : Nat → Rat} : ∀ {s : Nat}, (∀ t, t < s → f t = g t) → sumTo f s = sumTo g s
  | 0, _ => rfl
  | s + 1, h => by unfold sumTo; rw [sumTo_congr fun t ht => h t (by omega), h s (by omega)]
theorem sumTo_nonneg {f : Nat → Rat} : ∀ {s : Nat}, (∀ t, t < s → 0 ≤ f t) → 0 ≤ sumTo f s
  | 0, _ => Rat.le_refl
  | s + 1, h => by
    unfold sumTo
    exact Rat.add_nonneg (sumTo_nonneg fun t ht => h t (by omega)) (h s (by omega))

def FinM (n : Nat) (A : Nat → Nat → Nat) : Prop := ∀ r c, r < n → c < n → fin (A r c)
theorem swp_lt {i k r n : Nat} (hi : i < n) (hk : k < n) (hr : r < n) : swp i k r < n := by unfold swp; grind
theorem swp_swp (i k r : Nat) : swp i k (swp i k r) = r := by
  unfold swp
  grind
theorem swp_low {i k r : Nat} (h : r < i) (hik : i ≤ k) : swp i k r = r := by unfold swp; rw [if_neg (by omega), if_neg (by omega)]
theorem swp_high {i k r : Nat} (h : i ≤ r) (hik : i ≤ k) : i ≤ swp i k r := by unfold swp; grind
theorem swp_self (i k : Nat) : swp i k i = k := by unfold swp; rw [if_pos rfl]

theorem cn_eq_of_fin {x y : Nat} (h : cn x = y) (hx : fin x) : x = y := by rw [← h, cn_fin hx]

theorem step_fin {n k p : Nat} {A B : Nat → Nat → Nat} (h : StepF n k A p B) (hB : FinM n B) : FinM n A := by
  have key : ∀ r c, r < n → c < n → fin (A (swp k p r) c) := by
    intro r c hr hc
    by_cases h1 : k < r ∧ k ≤ c
    · by_cases h2 : c = k
      · subst h2
        have := h.col r h1.1 hr
        have hf := hB r c hr hc
        rw [cn_fin hf] at this
        rw [this] at hf
        exact fin_of_quo hf
      · have := h.rest r c h1.1 hr (by omega) hc
        have hf := hB r c hr hc
        rw [cn_fin hf] at this
        rw [this] at hf
        exact (fin_of_add hf).1
    · rw [← h.keep r c hr hc h1]; exact hB r c hr hc
  intro r c hr hc
  have hk : k < n := Nat.lt_of_le_of_lt h.lo h.hi
  have := key (swp k p r) c (swp_lt hk h.hi hr) hc
  rwa [swp_swp] at this

/-- Which row is at each place, after so many steps. -/
def oK (P : List Nat) : Nat → Nat → Nat
  | 0, r => r
  | k + 1, r => oK P k (swp k (P.getD k 0) r)

abbrev fA (A : Nat → Nat → Nat) (r c : Nat) : Rat := fval (A r c)
abbrev sE (A : Nat → Nat → Nat) (r c s : Nat) : Rat := sumTo (fun t => fA A r t * fA A t c) s
abbrev sA (A : Nat → Nat → Nat) (r c s : Nat) : Rat := sumTo (fun t => (fA A r t * fA A t c).abs) s

structure Inv (n : Nat) (A0 : Nat → Nat → Nat) (P : List Nat) (k : Nat) (A : Nat → Nat → Nat) : Prop where
  piv : ∀ t, t < k → t ≤ P.getD t 0 ∧ P.getD t 0 < n
  low : ∀ r c, r < n → c < k → c < r → rung (A r c) ≤ oneW
  nz : ∀ c, c < k → rung (A c c) ≠ 0
  done : ∀ r c, r < n → c < n → c < k → c < r → (sE A r c c + fA A r c * fA A c c - fval (A0 (oK P k r) c)).abs ≤
    ((c + 1 : Nat) : Rat) * (4 * eps) * (sA A r c c + (fA A r c * fA A c c).abs) + ((c + 1 : Nat) : Rat) * (32 * eta * (1 + (fA A c c).abs))
  opn : ∀ r c, r < n → c < n → ¬ (c < k ∧ c < r) → (sE A r c (min (min r c) k) + fA A r c - fval (A0 (oK P k r) c)).abs ≤
    ((min (min r c) k : Nat) : Rat) * (4 * eps) * (sA A r c (min (min r c) k) + (fA A r c).abs) + ((min (min r c) k : Nat) : Rat) * (32 * eta)

theorem natR_succ (k : Nat) : ((k + 1 : Nat) : Rat) = (k : Rat) + 1 := by rw [Rat.natCast_add]; rfl
theorem small {k : Nat} (h : k ≤ 64) : 0 ≤ (k : Rat) * (4 * eps) ∧ (k : Rat) * (4 * eps) ≤ 1 / 1073741824 := by
  have h1 := natR_le h
  have h2 := natR_nonneg k
  have h3 : ((64 : Nat) : Rat) = 64 := rfl
  rw [h3] at h1
  unfold eps
  constructor
  · exact Rat.mul_nonneg h2 (by decide +kernel)
  · have := Rat.mul_le_mul_of_nonneg_right h1 (show (0 : Rat) ≤ 4 * (1 / 9007199254740992) by decide +kernel)
    grind

theorem mul_err' {a b : Nat} (hf : fin (fb .mul a b)) : (fval (fb .mul a b) - fval a * fval b).abs ≤ eps * (fval (fb .mul a b)).abs + eta := by
  have := mul_err hf; rwa [ulp53] at this

theorem fne_zero {x : Nat} (hx : fin x) (h : fne .f64 x 0 = true) : rung x ≠ 0 := by
  intro h0
  rw [fne_eq, feq_eq] at h
  have hk : key x = 0 := by unfold key; rw [h0]; split <;> rfl
  have n1 := fin_not_nan hx
  have n2 : ¬ nan 0 := by decide
  have k0 : key 0 = 0 := by decide
  simp [n1, n2, hk, k0] at h

theorem fac_inv {n : Nat} {A0 : Nat → Nat → Nat} {P : List Nat} (hn : n ≤ 64) (hP : P.length = n) : ∀ k, k ≤ n → ∀ A, Fac n A0 k A (P.take k) → FinM n A → Inv n A0 P k A
  | 0, _, A, h, hA => by
    refine ⟨fun t ht => by omega, fun r c _ hc => by omega, fun c hc => by omega, fun r c _ _ hc => by omega, fun r c hr hc _ => ?_⟩
    have e : min (min r c) 0 = 0 := by omega
    rw [e]
    show ((0 : Rat) + fval (A r c) - fval (A0 r c)).abs ≤ _
    rw [h.1 r c hr hc]
    have e1 : (0 : Rat) + fval (A0 r c) - fval (A0 r c) = 0 := by grind
    rw [e1, Rat.abs_zero]
    have e2 : ((0 : Nat) : Rat) = 0 := rfl
    rw [e2]
    grind
  | k + 1, hk, B, h, hB => by
    obtain ⟨A, piv', p, hf, hpiv, hs⟩ := h
    have hlen : piv'.length = k := Fac.len hf
    have htk : P.take (k + 1) = P.take k ++ [P.getD k 0] := by
      rw [List.take_add_one]; simp [List.getD, show k < P.length by omega]
    have hpp : piv' = P.take k ∧ p = P.getD k 0 := by
      rw [htk] at hpiv
      have h1 := List.append_inj hpiv (by simp [hlen]; omega)
      refine ⟨h1.1.symm, ?_⟩
      have := h1.2
      simpa using this.symm
    obtain ⟨rfl, hp⟩ := hpp
    have hA := step_fin hs hB
    have inv := fac_inv hn hP k (by omega) A hf hA
    have hlo := hs.lo
    have hhi := hs.hi
    have hkn : k < n := by omega
    have so : ∀ r, oK P (k + 1) r = oK P k (swp k p r) := fun r => by rw [hp]; rfl
    have keepB : ∀ r c, r < n → c < n → ¬ (k < r ∧ k ≤ c) → B r c = A (swp k p r) c := hs.keep
    have rowB : ∀ c t, c < n → t < k → B t c = A t c := fun c t hc ht => by rw [keepB t c (by omega) hc (by omega), swp_low ht hlo]
    have pivB : ∀ c, c < n → B k c = A p c := fun c hc => by rw [keepB k c hkn hc (by omega), swp_self]
    have colB : ∀ r c, r < n → c < k → B r c = A (swp k p r) c := fun r c hr hc => keepB r c hr (by omega) (by omega)
    have hpz : rung (A p k) ≠ 0 := by
      have := hs.nz
      rw [swp_self] at this
      exact fne_zero (hA p k hhi hkn) this
    have colk : ∀ r, k < r → r < n → B r k = fb .quo (A (swp k p r) k) (A p k) := by
      intro r h1 h2
      have := cn_eq_of_fin (hs.col r h1 h2) (hB r k h2 hkn)
      rwa [swp_self] at this
    have hmost : ∀ r, k ≤ r → r < n → rung (A r k) ≤ rung (A p k) := by
      intro r h1 h2
      have := mostF_spec (f := fun i => A (k + i) k) (n - k) (fun i hi => hA _ _ (by omega) hkn) (r - k) (by omega)
      rw [← hs.piv] at this
      rwa [show k + (r - k) = r by omega] at this
    have lowk : ∀ r, k < r → r < n → rung (B r k) ≤ oneW := by
      intro r h1 h2
      rw [colk r h1 h2]
      exact quo_le_one (hA _ _ (swp_lt hkn hhi h2) hkn) (hA p k hhi hkn) hpz (hmost _ (swp_high (by omega) hlo) (swp_lt hkn hhi h2))
    have hη := Rat.le_of_lt eta_pos
    have sAn : ∀ (A : Nat → Nat → Nat) (r c s : Nat), 0 ≤ sA A r c s := fun A r c s => sumTo_nonneg fun t _ => Rat.abs_nonneg
    -- sums of rows and columns that are done
    have sumB : ∀ r c s, r < n → c < n → s ≤ k → sE B r c s = sE A (swp k p r) c s ∧ sA B r c s = sA A (swp k p r) c s := by
      intro r c s hr hc hs'
      constructor
      · refine sumTo_congr fun t ht => ?_
        show fval (B r t) * fval (B t c) = _
        rw [colB r t hr (by omega), rowB c t hc (by omega)]
      · refine sumTo_congr fun t ht => ?_
        show (fval (B r t) * fval (B t c)).abs = _
        rw [colB r t hr (by omega), rowB c t hc (by omega)]
    refine ⟨?_, ?_, ?_, ?_, ?_⟩
    · intro t ht
      by_cases htk' : t = k
      · subst htk'; rw [← hp]; exact ⟨hlo, hhi⟩
      · exact inv.piv t (by omega)
    · intro r c hr hc hcr
      by_cases hck : c = k
      · subst hck; exact lowk r hcr hr
      · rw [colB r c hr (by omega)]
        refine inv.low _ c (swp_lt hkn hhi hr) (by omega) ?_
        by_cases hrk : r < k
        · rw [swp_low hrk hlo]; exact hcr
        · have := swp_high (i := k) (k := p) (r := r) (by omega) hlo; omega
    · intro c hc
      by_cases hck : c = k
      · subst hck; rw [pivB c hkn]; exact hpz
      · rw [rowB c c (by omega) (by omega)]; exact inv.nz c (by omega)
    · intro r c hr hc hck hcr
      rw [so r]
      by_cases hck' : c = k
      · subst hck'
        have ho := inv.opn (swp c p r) c (swp_lt hkn hhi hr) hc (by omega)
        have hsw := swp_high (i := c) (k := p) (r := r) (by omega) hlo
        have em : min (min (swp c p r) c) c = c := by omega
        rw [em] at ho
        obtain ⟨q1, q2⟩ := sumB r c c hr hc (Nat.le_refl _)
        rw [q1, q2]
        have hq := quo_err (a := A (swp c p r) c) (b := A p c) (by rw [← colk r hcr hr]; exact hB r c hr hc) (hA p c hhi hc) hpz
        rw [← colk r hcr hr, ulp53] at hq
        have hpv : fA B c c = fval (A p c) := by show fval (B c c) = _; rw [pivB c hc]
        rw [hpv]
        obtain ⟨c0, c1⟩ := small (k := c) (by omega)
        have hd := div_err (fval_ne hpz) hq c0 c1 hη (sAn A (swp c p r) c c) ho
        rw [natR_succ]
        refine Rat.le_trans hd ?_
        have n1 := Rat.mul_nonneg hη (Rat.abs_nonneg (x := fval (A p c)))
        have n2 := natR_nonneg c
        have n3 := Rat.mul_nonneg n2 n1
        generalize (c : Rat) = cc at *
        show (cc * (4 * eps) + 4 * eps) * (sA A (swp c p r) c c + (fval (B r c) * fval (A p c)).abs) + (cc * (32 * eta) + 32 * eta * (1 + (fval (A p c)).abs)) ≤
          (cc + 1) * (4 * eps) * (sA A (swp c p r) c c + (fval (B r c) * fval (A p c)).abs) + (cc + 1) * (32 * eta * (1 + (fval (A p c)).abs))
        generalize (fval (A p c)).abs = v at *
        generalize sA A (swp c p r) c c + (fval (B r c) * fval (A p c)).abs = S at *
        have e1 : (cc + 1) * (4 * eps) * S = (cc * (4 * eps) + 4 * eps) * S := by grind
        have e2 : (cc + 1) * (32 * eta * (1 + v)) = cc * (32 * eta) + 32 * eta * (1 + v) + 32 * (cc * (eta * v)) := by grind
        rw [e1, e2]
        grind
      · have hcr' : c < swp k p r := by
          by_cases hrk : r < k
          · rw [swp_low hrk hlo]; exact hcr
          · have := swp_high (i := k) (k := p) (r := r) (by omega) hlo; omega
        have hd := inv.done (swp k p r) c (swp_lt hkn hhi hr) hc (by omega) hcr'
        obtain ⟨q1, q2⟩ := sumB r c c hr hc (by omega)
        have e1 : fA B r c = fA A (swp k p r) c := by show fval _ = fval _; rw [colB r c hr (by omega)]
        have e2 : fA B c c = fA A c c := by show fval _ = fval _; rw [rowB c c hc (by omega)]
        rw [q1, q2, e1, e2]
        exact hd
    · intro r c hr hc hno
      rw [so r]
      by_cases hm : min r c ≤ k
      · -- nothing was done
        have hrc : r ≤ c := by omega
        have hrk : r ≤ k := by omega
        have em : min (min r c) (k + 1) = r := by omega
        rw [em]
        obtain ⟨q1, q2⟩ := sumB r c r hr hc hrk
        have e1 : fA B r c = fA A (swp k p r) c := by show fval _ = fval _; rw [keepB r c hr hc (by omega)]
        rw [q1, q2, e1]
        by_cases hrk' : r = k
        · subst hrk'
          have ho := inv.opn (swp r p r) c (swp_lt hkn hhi hr) hc (by rw [swp_self]; omega)
          have em2 : min (min (swp r p r) c) r = r := by rw [swp_self]; omega
          rw [em2] at ho
          exact ho
        · have hl := swp_low (i := k) (k := p) (r := r) (by omega) hlo
          rw [hl]
          have ho := inv.opn r c hr hc (by omega)
          have em2 : min (min r c) k = r := by omega
          rw [em2] at ho
          exact ho
      · -- a product was taken away
        have hr1 : k < r := by omega
        have hc1 : k < c := by omega
        have em : min (min r c) (k + 1) = k + 1 := by omega
        rw [em]
        have hsw := swp_high (i := k) (k := p) (r := r) (by omega) hlo
        have ho := inv.opn (swp k p r) c (swp_lt hkn hhi hr) hc (by omega)
        have em2 : min (min (swp k p r) c) k = k := by omega
        rw [em2] at ho
        have hx := hs.rest r c hr1 hr hc1 hc
        rw [swp_self] at hx
        have hx' := cn_eq_of_fin hx (hB r c hr hc)
        have hfB := hB r c hr hc
        rw [hx'] at hfB
        have f1 := (fin_of_add hfB).2
        have f2 := (fin_of_mul f1).1
        have er1 := mul_err' f2
        have er2 := mul_err' f1
        have er3 := add_err hfB
        rw [ulp53, ← hx'] at er3
        rw [fval_negOne] at er1
        obtain ⟨q1, q2⟩ := sumB r c k hr hc (Nat.le_refl _)
        have hl1 := fval_abs_le_one (hB r k hr hkn) (lowk r hr1 hr)
        obtain ⟨c0, c1⟩ := small (k := k) (by omega)
        have hu := upd_err (l := fval (B r k)) (u := fval (A p c)) hl1 er1 er2 er3 c0 c1 hη (sAn A (swp k p r) c k) ho
        show (sE B r c k + fA B r k * fA B k c + fA B r c - _).abs ≤ ((k + 1 : Nat) : Rat) * (4 * eps) * (sA B r c k + (fA B r k * fA B k c).abs + (fA B r c).abs) + _
        have ek : fA B k c = fval (A p c) := by show fval _ = _; rw [pivB c hc]
        rw [q1, q2, ek, natR_succ]
        refine Rat.le_trans hu ?_
        generalize (k : Rat) = kk at *
        show (kk * (4 * eps) + 4 * eps) * (sA A (swp k p r) c k + (fval (B r k) * fval (A p c)).abs + (fval (B r c)).abs) + (kk * (32 * eta) + 32 * eta) ≤
          (kk + 1) * (4 * eps) * (sA A (swp k p r) c k + (fval (B r k) * fval (A p c)).abs + (fval (B r c)).abs) + (kk + 1) * (32 * eta)
        generalize sA A (swp k p r) c k + (fval (B r k) * fval (A p c)).abs + (fval (B r c)).abs = S
        have e1 : (kk + 1) * (4 * eps) * S = (kk * (4 * eps) + 4 * eps) * S := by grind
        have e2 : (kk + 1) * (32 * eta) = kk * (32 * eta) + 32 * eta := by grind
        rw [e1, e2]
        exact Rat.le_refl

theorem ordStep_get {out : List Nat} {k p r : Nat} (hk : k < out.length) (hp : p < out.length) : (ordStep out k p).getD r 0 = out.getD (swp k p r) 0 := by
  unfold ordStep swp
  simp only [List.getD_eq_getElem?_getD, List.getElem?_set, List.length_set]
  grind
theorem ordR_oK {P : List Nat} : ∀ k, k ≤ P.length → (∀ t, t < k → t ≤ P.getD t 0 ∧ P.getD t 0 < P.length) → ∀ r, r < P.length → (ordR P k).getD r 0 = oK P k r
  | 0, _, _, r, hr => by simp [ordR, oK, List.getD, hr]
  | k + 1, hk, h, r, hr => by
    have hl := ordR_length P k
    have hp := h k (by omega)
    show (ordStep (ordR P k) k (P.getD k 0)).getD r 0 = oK P k (swp k (P.getD k 0) r)
    rw [ordStep_get (by omega) (by omega)]
    exact ordR_oK k (by omega) (fun t ht => h t (by omega)) _ (swp_lt (by omega) hp.2 hr)

/-- L and U of a table, as words. -/
def lwd (A : Nat → Nat → Nat) (i k : Nat) : Nat := if k < i then A i k else if i = k then oneW else 0
def uwd (A : Nat → Nat → Nat) (k j : Nat) : Nat := if k ≤ j then A k j else 0
/-- What the matrix may differ by. -/
def closeP (n : Nat) (L U M : Nat → Nat → Rat) (o : Nat → Nat) (G : Rat) : Prop := ∀ i j, i < n → j < n →
  (sumTo (fun k => L i k * U k j) (min i j + 1) - M (o i) j).abs ≤ sumTo (fun k => (L i k * U k j).abs) (min i j + 1) * 2 ^ (-51 : Int) * ((n : Int) : Rat) + (G + ((1 : Int) : Rat)) * 2 ^ (-1060 : Int) * ((n : Int) : Rat)

theorem fac_close {n : Nat} {A0 F : Nat → Nat → Nat} {P : List Nat} {G : Rat} (hn : n ≤ 64) (hP : P.length = n) (h : Fac n A0 n F P) (hF : FinM n F)
    (hG : ∀ i j, i < n → j < n → (fval (uwd F i j)).abs ≤ G) :
    closeP n (fun i k => fval (lwd F i k)) (fun k j => fval (uwd F k j)) (fun i j => fval (A0 i j)) (fun i => (ordR P n).getD i 0) G := by
  have ht : P.take n = P := List.take_of_length_le (by omega)
  have inv := fac_inv hn hP n (Nat.le_refl _) F (by rw [ht]; exact h) hF
  intro i j hi hj
  show (sumTo (fun k => fval (lwd F i k) * fval (uwd F k j)) (min i j + 1) - fval (A0 ((ordR P n).getD i 0) j)).abs ≤ _
  rw [ordR_oK n (by omega) (fun t ht => by rw [hP]; exact inv.piv t ht) i (by omega)]
  have e51 : (2 : Rat) ^ (-51 : Int) = 4 * eps := by
    have h1 : ulp (-51) = ulp 2 * ulp (-53) := by rw [← ulp_add]; congr 1
    have h2 : ulp 2 = 4 := by
      have := ulp_nat 2
      rw [show ((2 : Nat) : Int) = 2 from rfl] at this
      rw [this]; rfl
    rw [ulp53, h2] at h1
    exact h1
  have e1060 : 64 * (32 * eta) ≤ (2 : Rat) ^ (-1060 : Int) := by
    have h1 : ulp (-1064) = ulp 11 * ulp (-1075) := by rw [← ulp_add]; congr 1
    have h2 : ulp 11 = 2048 := by
      have := ulp_nat 11
      rw [show ((11 : Nat) : Int) = 11 from rfl] at this
      rw [this]; rfl
    have h3 : ulp (-1064) ≤ ulp (-1060) := ulp_mono (by omega)
    rw [h1, h2] at h3
    have h4 : (64 : Rat) * (32 * eta) = 2048 * ulp (-1075) := by unfold eta; grind
    rw [h4]; exact h3
  have e1c : ((1 : Int) : Rat) = 1 := rfl
  have enc : ((n : Int) : Rat) = (n : Rat) := Rat.intCast_natCast n
  rw [e51, e1c, enc]
  have hη := Rat.le_of_lt eta_pos
  have hG0 : 0 ≤ G := Rat.le_trans Rat.abs_nonneg (hG i j hi hj)
  have nn0 := natR_nonneg n
  have n64 : (n : Rat) ≤ 64 := natR_le hn
  -- the terms
  have tE : ∀ s, s ≤ min i j → sumTo (fun k => fval (lwd F i k) * fval (uwd F k j)) s = sE F i j s ∧ sumTo (fun k => (fval (lwd F i k) * fval (uwd F k j)).abs) s = sA F i j s := by
    intro s hs
    constructor
    · refine sumTo_congr fun t ht => ?_
      unfold lwd uwd
      rw [if_pos (by omega), if_pos (by omega)]
    · refine sumTo_congr fun t ht => ?_
      unfold lwd uwd
      rw [if_pos (by omega), if_pos (by omega)]
  obtain ⟨t1, t2⟩ := tE (min i j) (Nat.le_refl _)
  generalize hE60 : (2 : Rat) ^ (-1060 : Int) = E60 at *
  by_cases hij : i ≤ j
  · have em : min i j = i := by omega
    have ho := inv.opn i j hi hj (by omega)
    have em2 : min (min i j) n = i := by omega
    rw [em2] at ho
    rw [em] at t1 t2 ⊢
    show (sumTo (fun k => fval (lwd F i k) * fval (uwd F k j)) i + fval (lwd F i i) * fval (uwd F i j) - _).abs ≤ (sumTo (fun k => (fval (lwd F i k) * fval (uwd F k j)).abs) i + (fval (lwd F i i) * fval (uwd F i j)).abs) * (4 * eps) * (n : Rat) + _
    have el : fval (lwd F i i) = 1 := by
      unfold lwd; rw [if_neg (by omega), if_pos rfl]; exact fval_one
    have eu : uwd F i j = F i j := by unfold uwd; rw [if_pos hij]
    rw [t1, t2, el, eu, Rat.one_mul]
    refine Rat.le_trans ho ?_
    have hin := natR_le (Nat.le_of_lt hi)
    have s0 : 0 ≤ sA F i j i + (fA F i j).abs := Rat.add_nonneg (sumTo_nonneg fun t _ => Rat.abs_nonneg) Rat.abs_nonneg
    have i0 := natR_nonneg i
    show (i : Rat) * (4 * eps) * (sA F i j i + (fA F i j).abs) + (i : Rat) * (32 * eta) ≤ (sA F i j i + (fA F i j).abs) * (4 * eps) * (n : Rat) + (G + 1) * E60 * (n : Rat)
    generalize sA F i j i + (fA F i j).abs = S at *
    have m1 := Rat.mul_le_mul_of_nonneg_left hin s0
    have m2 : 0 ≤ 32 * eta := by grind
    have m3 := Rat.mul_le_mul_of_nonneg_right hin m2
    have m4 := Rat.mul_nonneg nn0 m2
    have m5 : (n : Rat) * (32 * eta) ≤ (n : Rat) * E60 := Rat.mul_le_mul_of_nonneg_left (by grind) nn0
    have m6 : 0 ≤ (n : Rat) * E60 := Rat.le_trans m4 m5
    have m7 := Rat.mul_nonneg hG0 m6
    have e1 : (G + 1) * E60 * (n : Rat) = G * ((n : Rat) * E60) + (n : Rat) * E60 := by grind
    rw [e1]
    have e2 : (i : Rat) * (4 * eps) * S = 4 * eps * (S * (i : Rat)) := by grind
    have e3 : S * (4 * eps) * (n : Rat) = 4 * eps * (S * (n : Rat)) := by grind
    rw [e2, e3]
    generalize S * (i : Rat) = x at *
    generalize S * (n : Rat) = y at *
    unfold eps
    grind
  · have em : min i j = j := by omega
    have hd := inv.done i j hi hj hj (by omega)
    rw [em] at t1 t2 ⊢
    show (sumTo (fun k => fval (lwd F i k) * fval (uwd F k j)) j + fval (lwd F i j) * fval (uwd F j j) - _).abs ≤ (sumTo (fun k => (fval (lwd F i k) * fval (uwd F k j)).abs) j + (fval (lwd F i j) * fval (uwd F j j)).abs) * (4 * eps) * (n : Rat) + _
    have el : lwd F i j = F i j := by unfold lwd; rw [if_pos (by omega)]
    have eu : uwd F j j = F j j := by unfold uwd; rw [if_pos (Nat.le_refl _)]
    rw [t1, t2, el, eu]
    refine Rat.le_trans hd ?_
    have hin : ((j + 1 : Nat) : Rat) ≤ (n : Rat) := natR_le (by omega)
    have s0 : 0 ≤ sA F i j j + (fA F i j * fA F j j).abs := Rat.add_nonneg (sumTo_nonneg fun t _ => Rat.abs_nonneg) Rat.abs_nonneg
    have i0 := natR_nonneg (j + 1)
    have hg := hG j j hj hj
    rw [eu] at hg
    show ((j + 1 : Nat) : Rat) * (4 * eps) * (sA F i j j + (fA F i j * fA F j j).abs) + ((j + 1 : Nat) : Rat) * (32 * eta * (1 + (fA F j j).abs)) ≤ (sA F i j j + (fA F i j * fA F j j).abs) * (4 * eps) * (n : Rat) + (G + 1) * E60 * (n : Rat)
    generalize sA F i j j + (fA F i j * fA F j j).abs = S at *
    have m1 := Rat.mul_le_mul_of_nonneg_left hin s0
    have hv := Rat.abs_nonneg (x := fA F j j)
    have m2 : 0 ≤ 32 * eta * (1 + (fA F j j).abs) := Rat.mul_nonneg (by grind) (by grind)
    have m3 := Rat.mul_le_mul_of_nonneg_right hin m2
    have m4 : 32 * eta * (1 + (fA F j j).abs) ≤ 32 * eta * (1 + G) := Rat.mul_le_mul_of_nonneg_left (by show 1 + (fval (F j j)).abs ≤ _; grind) (by grind)
    have m5 : 32 * eta * (1 + G) ≤ E60 * (1 + G) := Rat.mul_le_mul_of_nonneg_right (by grind) (by grind)
    have m6 := Rat.mul_le_mul_of_nonneg_left (Rat.le_trans m4 m5) nn0
    have e1 : (G + 1) * E60 * (n : Rat) = (n : Rat) * (E60 * (1 + G)) := by grind
    rw [e1]
    have e2 : ((j + 1 : Nat) : Rat) * (4 * eps) * S = 4 * eps * (S * ((j + 1 : Nat) : Rat)) := by grind
    have e3 : S * (4 * eps) * (n : Rat) = 4 * eps * (S * (n : Rat)) := by grind
    rw [e2, e3]
    generalize S * ((j + 1 : Nat) : Rat) = x at *
    generalize S * (n : Rat) = y at *
    unfold eps
    grind
end Go.Wk
namespace Go.Wk
open Go
theorem closeP_congr {n : Nat} {L L' U U' M M' : Nat → Nat → Rat} {o : Nat → Nat} {G : Rat} (hL : ∀ i k, i < n → k < n → L i k = L' i k) (hU : ∀ k j, k < n → j < n → U k j = U' k j) (hM : ∀ i j, i < n → j < n → M i j = M' i j)
    (ho : ∀ i, i < n → o i < n) (h : closeP n L' U' M' o G) : closeP n L U M o G := by
  intro i j hi hj
  have := h i j hi hj
  have e1 : sumTo (fun k => L i k * U k j) (min i j + 1) = sumTo (fun k => L' i k * U' k j) (min i j + 1) := sumTo_congr fun t ht => by rw [hL i t hi (by omega), hU t j (by omega) hj]
  have e2 : sumTo (fun k => (L i k * U k j).abs) (min i j + 1) = sumTo (fun k => (L' i k * U' k j).abs) (min i j + 1) := sumTo_congr fun t ht => by rw [hL i t hi (by omega), hU t j (by omega) hj]
  rw [e1, e2, hM (o i) j (ho i hi) hj]
  exact this
theorem fac_piv {n : Nat} {A0 : Nat → Nat → Nat} : ∀ {k : Nat} {A : Nat → Nat → Nat} {P : List Nat}, Fac n A0 k A P → ∀ t, t < k → t ≤ P.getD t 0 ∧ P.getD t 0 < n
  | 0, _, _, _, t, ht => by omega
  | k + 1, A, P, ⟨A', P', p, hf, e, hs⟩, t, ht => by
    have hl := Fac.len hf
    subst e
    by_cases h : t = k
    · subst h
      have : (P' ++ [p]).getD t 0 = p := by simp [List.getD, ← hl]
      rw [this]; exact ⟨hs.lo, hs.hi⟩
    · have : (P' ++ [p]).getD t 0 = P'.getD t 0 := by simp [List.getD, List.getElem?_append_left (show t < P'.length by omega)]
      rw [this]; exact fac_piv hf t (by omega)
theorem lwd_congr {A B : Nat → Nat → Nat} {n : Nat} (h : ∀ i j, i < n → j < n → A i j = B i j) {i k : Nat} (hi : i < n) (hk : k < n) : lwd A i k = lwd B i k := by
  unfold lwd; rw [h i k hi hk]
theorem uwd_congr {A B : Nat → Nat → Nat} {n : Nat} (h : ∀ i j, i < n → j < n → A i j = B i j) {i k : Nat} (hi : i < n) (hk : k < n) : uwd A i k = uwd B i k := by
  unfold uwd; rw [h i k hi hk]
end Go.Wk

/-! ### WkGrow -/
namespace Go.Wk
open Go Ieee

theorem growth_near {a b x : Nat} (hx : fin x) (hc : cn x = fb .quo a b) (hb : fin b) (hb0 : rung b ≠ 0) (ha0 : 0 ≤ fval a) (hb1 : 0 < fval b) :
    (fval x * fval b - fval a).abs ≤ fval a * 2 ^ (-52 : Int) + fval b * 2 ^ (-1074 : Int) := by
  have hxe : x = fb .quo a b := by rw [← hc, cn_fin hx]
  have h := quo_err (a := a) (b := b) (by rw [← hxe]; exact hx) hb hb0
  rw [← hxe] at h
  have hbne : fval b ≠ 0 := fun e => by rw [e] at hb1; exact absurd hb1 (by decide)
  obtain ⟨q, hq⟩ : ∃ q, q = fval a / fval b := ⟨_, rfl⟩
  rw [← hq] at h
  have hqb : q * fval b = fval a := by rw [hq]; exact Rat.div_mul_cancel hbne
  have hq0 : 0 ≤ q := by
    rw [hq, Rat.div_def]
    exact Rat.mul_nonneg ha0 (Rat.le_of_lt (Rat.inv_pos.2 hb1))
  have e52 : (2 : Rat) ^ (-52 : Int) = 2 * ulp (-53) := by
    show ulp (-52) = _
    rw [show (-52 : Int) = 1 + -53 by omega, ulp_add]; rfl
  have e1074 : (2 : Rat) ^ (-1074 : Int) = 2 * ulp (-1075) := by
    show ulp (-1074) = _
    rw [show (-1074 : Int) = 1 + -1075 by omega, ulp_add]; rfl
  rw [e52, e1074]
  have hu8 : ulp (-53) ≤ 1/8 := by
    have := ulp_mono (j := -53) (k := -3) (by omega)
    have e : ulp (-3) = 1/8 := by decide +kernel
    rwa [e] at this
  have hup := ulp_pos (-53)
  have hep := ulp_pos (-1075)
  obtain ⟨u, hu⟩ : ∃ u, u = ulp (-53) := ⟨_, rfl⟩
  obtain ⟨η, hη⟩ : ∃ u, u = ulp (-1075) := ⟨_, rfl⟩
  rw [← hu] at h hu8 hup ⊢
  rw [← hη] at h hep ⊢
  obtain ⟨e, he⟩ : ∃ e, e = (fval x - q).abs := ⟨_, rfl⟩
  rw [← he, Rat.abs_of_nonneg hq0] at h
  have he0 : 0 ≤ e := by rw [he]; exact Rat.abs_nonneg
  have hxq : (fval x).abs ≤ q + e := by
    rw [he]
    have h1 : fval x = q + (fval x - q) := by grind
    have h2 := abs_add q (fval x - q)
    rw [← h1, Rat.abs_of_nonneg hq0] at h2
    exact h2
  have h1 : u * (fval x).abs ≤ u * (q + e) := Rat.mul_le_mul_of_nonneg_left hxq (Rat.le_of_lt hup)
  have h2 : u * e ≤ 1/8 * e := Rat.mul_le_mul_of_nonneg_right hu8 he0
  have h3 : u * (q + e) = u * q + u * e := by grind
  have huq : 0 ≤ u * q := Rat.mul_nonneg (Rat.le_of_lt hup) hq0
  have hmain : e ≤ 2 * (u * q) + 2 * η := by
    rw [h3] at h1
    clear hqb hq hxq h3 he
    generalize u * q = t at *
    generalize u * e = s at *
    generalize u * (fval x).abs = r at *
    clear hu hη
    grind
  have hfin : (fval x * fval b - fval a).abs = e * fval b := by
    have : fval x * fval b - fval a = (fval x - q) * fval b := by rw [← hqb]; grind
    rw [this, abs_mul, ← he, Rat.abs_of_nonneg (Rat.le_of_lt hb1)]
  rw [hfin]
  have := Rat.mul_le_mul_of_nonneg_right hmain (Rat.le_of_lt hb1)
  have e2 : (2 * (u * q) + 2 * η) * fval b = fval a * (2 * u) + fval b * (2 * η) := by rw [← hqb]; grind
  rwa [e2] at this

theorem fac_first {n : Nat} {A0 : Nat → Nat → Nat} : ∀ {k : Nat} {A : Nat → Nat → Nat} {piv : List Nat}, 0 < n → Fac n A0 (k + 1) A piv → ∃ p, p < n ∧ fne .f64 (A0 p 0) 0 = true
  | 0, _, _, hn, ⟨A', _, p, ⟨hA, _⟩, _, s⟩ => by
    refine ⟨p, s.hi, ?_⟩
    have := s.nz
    have e : swp 0 p 0 = p := by unfold swp; rw [if_pos rfl]
    rwa [e, hA p 0 s.hi hn] at this
  | k + 1, _, _, hn, ⟨_, _, _, h, _, _⟩ => fac_first hn h

theorem rung_zero_eq {x : Nat} (h : rung x = 0) : fne .f64 x 0 = false := by
  have hf : fin x := by unfold fin; rw [h]; decide
  rw [fne_eq, feq_eq]
  have hk : key x = 0 := by unfold key; rw [h]; split <;> rfl
  have h0 : key 0 = 0 := by decide
  simp [fin_not_nan hf, hk, h0]
  decide
end Go.Wk
