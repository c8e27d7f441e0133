import Derived.Test.YtgdkahbnepafgaaDoorKref1
set_option maxRecDepth 100000
set_option linter.unusedVariables false
namespace Go.Proofs.YtgdkahbnepafgaaDoor
open Go Go.Wk Ieee
attribute [local irreducible] br

theorem nearR_small' {M j : Nat} {p : Int} (h0 : M ≠ 0) (h2 : M < 2 ^ j) (hp : p + j < -1074) : nearR M p = 0 := by
  have hl : M.log2 < j := (Nat.log2_lt h0).2 h2
  have hlast : lastP M p = -1074 := by unfold lastP; omega
  unfold nearR
  rw [hlast]
  have e1 : (p - -1074).toNat = 0 := by omega
  rw [e1, Nat.shiftLeft_zero]
  have : ∃ d, (-1074 - p).toNat = j + 1 + d := ⟨(-1074 - p).toNat - (j + 1), by omega⟩
  obtain ⟨d, hd⟩ := this
  rw [hd, rne_eq]
  have h3 : 2 ^ (j + 1) ≤ 2 ^ (j + 1 + d) := Nat.pow_le_pow_right (by omega) (by omega)
  have h4 : (2 : Nat) ^ (j + 1) = 2 * 2 ^ j := by rw [Nat.pow_succ]; omega
  have h5 : M < 2 ^ (j + 1 + d) := by omega
  rw [Nat.div_eq_of_lt h5, Nat.mod_eq_of_lt h5, if_neg (by omega)]
  rfl

theorem near_big {M : Nat} {p : Int} (h0 : M ≠ 0) (hp : 1024 ≤ p) : infR ≤ nearR M p := by
  unfold nearR
  have hlast : p + M.log2 - 52 ≤ lastP M p := by unfold lastP; omega
  have : 2046 ≤ (lastP M p + 1074).toNat := by omega
  have h := le_keptR (m := M) (p := p) h0 (by omega)
  unfold keptR at h
  have h2 : 2046 * 4503599627370496 ≤ (lastP M p + 1074).toNat * 4503599627370496 := Nat.mul_le_mul_right _ this
  unfold infR
  omega

def signI (s : Bool) : Int := if s then 9223372036854775808 else 0
theorem signI_word {s : Bool} {r : Nat} (hr : r < 9223372036854775808) : (IntKind.u64.wrap (signI s + (r : Int))).toNat = wordD s r := by
  unfold signI wordD
  cases s
  · simp only [Bool.false_eq_true, if_false]; rw [wrap_u64' (by omega) (by omega)]; omega
  · simp only [if_true]; rw [wrap_u64' (by omega) (by omega)]; omega

theorem straightedgeref01_Make.ct19 {K : Value → World → Prop} {a b c} {s : Bool} {k : Nat} {L : Int} {w : World} (hk : k ≤ 9007199254740992) (hL1 : -1074 ≤ L) (hL2 : L ≤ 4000)
    (hn : L = -1074 ∨ 4503599627370496 ≤ k) (h : K (.float .f64 (wordD s (min ((L + 1074).toNat * 4503599627370496 + k) infR))) w) :
    straightedgeref01_Make.b19 K a b c (k : Int) L (signI s) w := by
  unfold straightedgeref01_Make.b19
  have sg : ∀ z : Nat, z < 9223372036854775808 → IntKind.u64.wrap (signI s + z) = signI s + z := by
    intro z hz
    unfold signI; cases s
    · simp only [Bool.false_eq_true, if_false]; rw [wrap_u64' (by omega) (by omega)]
    · simp only [if_true]; rw [wrap_u64' (by omega) (by omega)]
  have sg2 : ∀ z : Nat, z < 9223372036854775808 → (signI s + z).toNat = wordD s z := by
    intro z hz
    unfold signI wordD; cases s
    · simp only [Bool.false_eq_true, if_false]; omega
    · simp only [if_true]; omega
  have inf : (L + 1074).toNat * 4503599627370496 + k ≥ infR → math_Float64frombits.call [(.int .u64 (IntKind.u64.wrap (signI s + 9218868437227405312)))] w fun v1 w2 => ∃ x3 : Nat, v1 = (.float .f64 x3) ∧ K (.float .f64 x3) w2 := by
    intro hge
    rw [Nat.min_eq_right hge] at h
    refine math_Float64frombits.ct ⟨_, rfl, ?_⟩
    have := signI_word (s := s) (r := 9218868437227405312) (by decide)
    rw [show ((9218868437227405312 : Nat) : Int) = 9218868437227405312 from rfl] at this
    rw [this]; exact h
  have fields : ∀ (E m : Nat), E < 2047 → 4503599627370496 ≤ m → m < 9007199254740992 → E ≥ 1 → (L + 1074).toNat * 4503599627370496 + k = (E - 1) * 4503599627370496 + m →
      ∀ z : Int, z = E →
      K (.float .f64 (IntKind.u64.wrap ((IntKind.u64.wrap ((IntKind.u64.wrap (signI s + (IntKind.u64.wrap ((IntKind.u64.wrap (z)) * 2 ^ (shiftN .u64 52))))) + m)) - 4503599627370496)).toNat) w := by
    intro E m hE hm1 hm2 hE1 heq z hz
    have e1 : IntKind.u64.wrap (z) * 2 ^ (shiftN .u64 52) = ((E * 4503599627370496 : Nat) : Int) := by
      rw [hz, wrap_u64 _ (by omega), sh52, Int.natCast_mul]; rfl
    rw [e1, wrap_u64 _ (by omega), sg _ (by omega)]
    have e2 : signI s + ((E * 4503599627370496 : Nat) : Int) + m = signI s + ((E * 4503599627370496 + m : Nat) : Int) := by omega
    rw [e2, sg _ (by omega)]
    have e3 : signI s + ((E * 4503599627370496 + m : Nat) : Int) - 4503599627370496 = signI s + (((E - 1) * 4503599627370496 + m : Nat) : Int) := by omega
    rw [e3, sg _ (by omega), sg2 _ (by omega)]
    rw [heq, Nat.min_eq_left (by unfold infR; omega)] at h
    exact h
  have hb9 : (((k : Nat) : Int) == 9007199254740992) = decide (k = 9007199254740992) := by
    have := nat_beq k 9007199254740992
    rw [show ((9007199254740992 : Nat) : Int) = 9007199254740992 from rfl] at this
    rw [this]; rfl
  rw [hb9]
  refine br_intro (fun hb => ?_) (fun hb => ?_)
  · have hk9 := of_decide_eq_true hb
    rw [wrap_i64 (z := L + 1) (by omega) (by omega), wrap_i64 (by omega) (by omega)]
    refine br_intro (fun hb => ?_) (fun hb => ?_)
    · have := of_decide_eq_true hb
      exact inf (by unfold infR; omega)
    have h1 := of_decide_eq_false hb
    generalize hM : (4503599627370496 : Nat) = M at hn
    have hd : IntKind.u64.wrap (Int.tdiv (k : Int) 2) = (M : Int) := by
      have := tdiv_nat k 2
      rw [show ((2 : Nat) : Int) = 2 from rfl] at this
      rw [this, hk9, ← hM]; rfl
    rw [hd]
    refine dec_false (by omega) ?_
    obtain ⟨E, hE⟩ : ∃ E : Nat, L + 1 + 1075 = E := ⟨(L + 1 + 1075).toNat, by omega⟩
    refine math_Float64frombits.ct ⟨_, rfl, fields E M (by omega) (by omega) (by omega) (by omega) ?_ _ hE⟩
    omega
  · have hk9 := of_decide_eq_false hb
    rw [wrap_i64 (by omega) (by omega)]
    refine br_intro (fun hb => ?_) (fun hb => ?_)
    · have := of_decide_eq_true hb
      exact inf (by unfold infR; omega)
    have h1 := of_decide_eq_false hb
    by_cases hlt : k < 4503599627370496
    · refine dec_true (by omega) ?_
      refine math_Float64frombits.ct ⟨_, rfl, ?_⟩
      rw [signI_word (by omega)]
      have : (L + 1074).toNat * 4503599627370496 + k = k := by omega
      rw [this, Nat.min_eq_left (by unfold infR; omega)] at h
      exact h
    · refine dec_false (by omega) ?_
      obtain ⟨E, hE⟩ : ∃ E : Nat, L + 1075 = E := ⟨(L + 1075).toNat, by omega⟩
      refine math_Float64frombits.ct ⟨_, rfl, fields E k (by omega) (by omega) (by omega) (by omega) ?_ _ hE⟩
      omega

theorem Make_H (K : Value → World → Prop) (fu : Nat) : straightedgeref01_Make.H K (fu + 1) =
  (straightedgeref01_Make.b8 K (straightedgeref01_Make.H K fu).1 (straightedgeref01_Make.H K fu).2.1 (straightedgeref01_Make.H K fu).2.2, straightedgeref01_Make.b12 K (straightedgeref01_Make.H K fu).1 (straightedgeref01_Make.H K fu).2.1 (straightedgeref01_Make.H K fu).2.2, straightedgeref01_Make.b19 K (straightedgeref01_Make.H K fu).1 (straightedgeref01_Make.H K fu).2.1 (straightedgeref01_Make.H K fu).2.2) := rfl

theorem straightedgeref01_Make.ct12 {K : Value → World → Prop} {s : Bool} {L : Int} {w : World} (hL1 : -1074 ≤ L) (hL2 : L ≤ 4000) (R : Nat)
    (hR : R ≤ 9007199254740992) (hRn : L = -1074 ∨ 4503599627370496 ≤ R)
    (h : K (.float .f64 (wordD s (min ((L + 1074).toNat * 4503599627370496 + R) infR))) w) :
    ∀ (d fu : Nat) (z : Nat) (b c : Bool), d + 1 < fu → d < 4000 → z < 4611686018427387904 → z < 2 ^ (53 + d) → (L = -1074 ∨ 2 ^ (52 + d) ≤ z) →
      rne (4 * z + 2 * c.toNat + b.toNat) (d + 2) = R →
      (straightedgeref01_Make.H K fu).2.1 (z : Int) (L - d) (signI s) b c w := by
  intro d
  induction d with
  | zero =>
    intro fu z b c hfu hd hz hz1 hz2 hRe
    obtain ⟨fu, rfl⟩ : ∃ m, fu = m + 2 := ⟨fu - 2, by omega⟩
    rw [Make_H]
    show straightedgeref01_Make.b12 K (straightedgeref01_Make.H K (fu + 1)).1 (straightedgeref01_Make.H K (fu + 1)).2.1 (straightedgeref01_Make.H K (fu + 1)).2.2 _ _ _ _ _ _
    unfold straightedgeref01_Make.b12
    have hc : c.toNat < 2 := by cases c <;> decide
    have hb' : b.toNat < 2 := by cases b <;> decide
    rw [rne_two _ _ _ hc hb'] at hRe
    have e0 : L - ((0 : Nat) : Int) = L := by omega
    rw [e0]
    refine dec_false (by omega) (dec_false (by omega) ?_)
    have em : (Int.tmod (z : Int) 2 == 1) = decide (z % 2 = 1) := by
      have := tmod_nat z 2
      rw [show ((2 : Nat) : Int) = 2 from rfl] at this
      have h2 := nat_beq (z % 2) 1
      rw [show ((1 : Nat) : Int) = 1 from rfl] at h2
      rw [this, h2]; rfl
    rw [em, Make_H]
    have up : R = z + 1 → straightedgeref01_Make.b19 K (straightedgeref01_Make.H K fu).1 (straightedgeref01_Make.H K fu).2.1 (straightedgeref01_Make.H K fu).2.2 (IntKind.u64.wrap ((z : Int) + 1)) L (signI s) w := by
      intro hz'
      have : IntKind.u64.wrap ((z : Int) + 1) = (R : Int) := by rw [wrap_u64' (by omega) (by omega)]; omega
      rw [this]
      exact straightedgeref01_Make.ct19 hR hL1 hL2 hRn h
    have dn : R = z → straightedgeref01_Make.b19 K (straightedgeref01_Make.H K fu).1 (straightedgeref01_Make.H K fu).2.1 (straightedgeref01_Make.H K fu).2.2 (z : Int) L (signI s) w := by
      intro hz'
      rw [← hz']
      exact straightedgeref01_Make.ct19 hR hL1 hL2 hRn h
    cases c
    · refine br_false rfl (dn ?_)
      simpa using hRe.symm
    · refine br_true rfl ?_
      cases b
      · refine br_false rfl (br_intro (fun hb => up ?_) (fun hb => dn ?_))
        · have := of_decide_eq_true hb
          simpa [this] using hRe.symm
        · have := of_decide_eq_false hb
          simpa [this] using hRe.symm
      · refine br_true rfl (up ?_)
        simpa using hRe.symm
  | succ d ih =>
    intro fu z b c hfu hd hz hz1 hz2 hRe
    obtain ⟨fu, rfl⟩ : ∃ m, fu = m + 1 := ⟨fu - 1, by omega⟩
    rw [Make_H]
    show straightedgeref01_Make.b12 K (straightedgeref01_Make.H K fu).1 (straightedgeref01_Make.H K fu).2.1 (straightedgeref01_Make.H K fu).2.2 _ _ _ _ _ _
    unfold straightedgeref01_Make.b12
    have hp : 2 ^ (53 + (d + 1)) = 2 * 2 ^ (53 + d) := by rw [show 53 + (d + 1) = (53 + d) + 1 by omega, Nat.pow_succ]; omega
    have hp2 : 2 ^ (52 + (d + 1)) = 2 * 2 ^ (52 + d) := by rw [show 52 + (d + 1) = (52 + d) + 1 by omega, Nat.pow_succ]; omega
    have hp3 : 2 ^ 53 ≤ 2 ^ (52 + (d + 1)) := Nat.pow_le_pow_right (by omega) (by omega)
    have w1 : IntKind.u64.wrap (Int.tdiv (z : Int) 2) = ((z / 2 : Nat) : Int) := by
      have := tdiv_nat z 2
      rw [show ((2 : Nat) : Int) = 2 from rfl] at this
      rw [this, wrap_u64 _ (by omega)]
    have em : (Int.tmod (z : Int) 2 == 1) = decide (z % 2 = 1) := by
      have := tmod_nat z 2
      rw [show ((2 : Nat) : Int) = 2 from rfl] at this
      have h2 := nat_beq (z % 2) 1
      rw [show ((1 : Nat) : Int) = 1 from rfl] at h2
      rw [this, h2]; rfl
    have w2 : IntKind.i64.wrap (L - ((d + 1 : Nat) : Int) + 1) = L - (d : Int) := by rw [wrap_i64 (by omega) (by omega)]; omega
    rw [w1, em, w2]
    have hc : c.toNat < 2 := by cases c <;> decide
    have hb' : b.toNat < 2 := by cases b <;> decide
    rw [show d + 1 + 2 = d + 3 by omega, rne_halve _ _ _ _ hc hb'] at hRe
    have hmod : (decide (z % 2 = 1)).toNat = z % 2 := by
      have : z % 2 = 0 ∨ z % 2 = 1 := by omega
      rcases this with h | h <;> rw [h] <;> rfl
    have go : ∀ (b' : Bool), b'.toNat = (if c.toNat = 0 ∧ b.toNat = 0 then 0 else 1) → (straightedgeref01_Make.H K fu).2.1 ((z / 2 : Nat) : Int) (L - d) (signI s) b' (decide (z % 2 = 1)) w := by
      intro b' hbb
      refine ih fu (z / 2) b' _ (by omega) (by omega) (by omega) (by omega) (by omega) ?_
      rw [hmod, hbb]
      exact hRe
    have both : br b ((straightedgeref01_Make.H K fu).2.1 ((z / 2 : Nat) : Int) (L - d) (signI s) true (decide (z % 2 = 1)) w)
        ((straightedgeref01_Make.H K fu).2.1 ((z / 2 : Nat) : Int) (L - d) (signI s) c (decide (z % 2 = 1)) w) := by
      cases b
      · refine br_false rfl (go c ?_)
        cases c <;> rfl
      · refine br_true rfl (go true ?_)
        cases c <;> rfl
    exact br_intro (fun _ => both) (fun hb => br_intro (fun _ => both) (fun hb' => absurd (of_decide_eq_false hb) (by have := of_decide_eq_false hb'; omega)))
end Go.Proofs.YtgdkahbnepafgaaDoor
