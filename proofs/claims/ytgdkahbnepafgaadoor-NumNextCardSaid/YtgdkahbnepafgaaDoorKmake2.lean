import Derived.Test.YtgdkahbnepafgaaDoorKmake
set_option maxRecDepth 100000
set_option linter.unusedVariables false
namespace Go.Proofs.YtgdkahbnepafgaaDoor
open Go Go.Wk Ieee
attribute [local irreducible] br

theorem straightedgeref01_Make.ct8 {K : Value → World → Prop} {s : Bool} {w : World} :
    ∀ (d fu z : Nat) (e : Int), z ≠ 0 → z < 4611686018427387904 → 4503599627370496 ≤ z * 2 ^ d → d + 300 < fu → -1300 ≤ e → e ≤ 2100 →
      K (.float .f64 (double.nearest s z e)) w → (straightedgeref01_Make.H K fu).1 (z : Int) e (signI s) w := by
  have leave : ∀ (fu z : Nat) (e : Int), z ≠ 0 → z < 4611686018427387904 → (4503599627370496 ≤ z ∨ e ≤ -1074) → 299 < fu → -1300 ≤ e → e ≤ 2100 →
      K (.float .f64 (double.nearest s z e)) w → (straightedgeref01_Make.H K fu).2.1 (z : Int) e (signI s) false false w := by
    intro fu z e h0 hz hor hfu he1 he2 hK
    rw [nearest_eq _ _ _ h0, nearR_eq] at hK
    have hlog : z.log2 < 62 := (Nat.log2_lt h0).2 (by simpa using hz)
    have hlog2 : 4503599627370496 ≤ z → 52 ≤ z.log2 := fun h => (Nat.le_log2 h0).2 (by simpa using h)
    have hL : lastP z e = max (e + z.log2 - 52) (-1074) := rfl
    have hLe : e ≤ lastP z e := by
      rcases hor with h | h
      · have := hlog2 h; omega
      · omega
    have hd : ((lastP z e - e).toNat : Int) = lastP z e - e := by omega
    have hkept : keptR z e = rne z (lastP z e - e).toNat := by
      unfold keptR
      have : (e - lastP z e).toNat = 0 := by omega
      rw [this, Nat.shiftLeft_zero]
    have h1 := Nat.log2_self_le h0
    have h2 := log2_lt z
    have := straightedgeref01_Make.ct12 (K := K) (s := s) (L := lastP z e) (w := w) (by omega) (by omega) (keptR z e) (keptR_le z e)
      (by
        by_cases h : lastP z e = -1074
        · exact Or.inl h
        · exact Or.inr (le_keptR h0 (by omega))) hK (lastP z e - e).toNat fu z false false (by omega) (by omega) hz
      (Nat.lt_of_lt_of_le h2 (Nat.pow_le_pow_right (by omega) (by omega)))
      (by
        by_cases h : lastP z e = -1074
        · exact Or.inl h
        · refine Or.inr (Nat.le_trans ?_ h1)
          exact Nat.pow_le_pow_right (by omega) (by omega))
      (by
        rw [hkept, ← rne_mul z _ 2]
        congr 1
        simp [Nat.mul_comm])
    have e1 : lastP z e - ((lastP z e - e).toNat : Int) = e := by omega
    rw [e1] at this
    exact this
  intro d
  induction d with
  | zero =>
    intro fu z e h0 hz hd hfu he1 he2 hK
    obtain ⟨fu, rfl⟩ : ∃ m, fu = m + 1 := ⟨fu - 1, by omega⟩
    rw [Make_H]
    show straightedgeref01_Make.b8 K (straightedgeref01_Make.H K fu).1 (straightedgeref01_Make.H K fu).2.1 (straightedgeref01_Make.H K fu).2.2 _ _ _ _
    unfold straightedgeref01_Make.b8
    refine dec_false (by omega) (leave fu z e h0 hz (Or.inl (by omega)) (by omega) he1 he2 hK)
  | succ d ih =>
    intro fu z e h0 hz hd hfu he1 he2 hK
    obtain ⟨fu, rfl⟩ : ∃ m, fu = m + 1 := ⟨fu - 1, by omega⟩
    rw [Make_H]
    show straightedgeref01_Make.b8 K (straightedgeref01_Make.H K fu).1 (straightedgeref01_Make.H K fu).2.1 (straightedgeref01_Make.H K fu).2.2 _ _ _ _
    unfold straightedgeref01_Make.b8
    by_cases hz52 : z < 4503599627370496
    · refine dec_true (by omega) ?_
      by_cases he : -1074 < e
      · refine dec_true (by omega) ?_
        have w1 : IntKind.u64.wrap ((z : Int) * 2) = ((z * 2 : Nat) : Int) := by rw [wrap_u64' (by omega) (by omega)]; omega
        rw [w1, wrap_i64 (by omega) (by omega)]
        refine ih fu (z * 2) (e - 1) (by omega) (by omega) ?_ (by omega) (by omega) (by omega) ?_
        · rw [Nat.mul_assoc, Nat.mul_comm 2, ← Nat.pow_succ]; exact hd
        · have := near_shift s z e 1
          rw [Nat.pow_one] at this
          have e2 : e - ((1 : Nat) : Int) = e - 1 := rfl
          rw [e2] at this
          rw [this]
          exact hK
      · exact dec_false (by omega) (leave fu z e h0 hz (Or.inr (by omega)) (by omega) he1 he2 hK)
    · exact dec_false (by omega) (leave fu z e h0 hz (Or.inl (by omega)) (by omega) he1 he2 hK)

theorem straightedgeref01_Make.ct {K : Value → World → Prop} {s : Bool} {w : World} {m : Nat} {e : Int} (hm : m < 4611686018427387904)
    (h : K (.float .f64 (double.nearest s m e)) w) : straightedgeref01_Make.call [.bool s, .int .u64 (m : Int), .int .i64 e] w K := by
  refine straightedgeref01_Make.ok 400 ?_
  unfold straightedgeref01_Make.x
  have hz : ((m : Int) == 0) = decide (m = 0) := by
    have := nat_beq m 0
    rw [show ((0 : Nat) : Int) = 0 from rfl] at this
    rw [this]; rfl
  rw [hz]
  have main : m ≠ 0 → -1200 ≤ e → e ≤ 2000 → (straightedgeref01_Make.H K 400).1 (m : Int) e (signI s) w := fun h0 h1 h2 =>
    straightedgeref01_Make.ct8 52 400 m e h0 hm (by omega) (by omega) (by omega) (by omega) h
  have small : m ≠ 0 → e < -1200 → double.nearest s m e = wordD s 0 := fun h0 h1 => by
    rw [nearest_eq _ _ _ h0, nearR_small' (j := 62) h0 (by simpa using hm) (by omega)]; rfl
  have big : m ≠ 0 → 2000 < e → double.nearest s m e = wordD s infR := fun h0 h1 => by
    rw [nearest_eq _ _ _ h0, Nat.min_eq_right (near_big h0 (by omega))]
  cases s
  · refine br_false rfl ?_
    by_cases h0 : m = 0
    · refine dec_true h0 (math_Float64frombits.ct ⟨_, rfl, ?_⟩)
      rw [h0, nearest_zero] at h; exact h
    refine dec_false h0 ?_
    by_cases h1 : e < -1200
    · refine dec_true h1 (math_Float64frombits.ct ⟨_, rfl, ?_⟩)
      rw [small h0 h1] at h; exact h
    refine dec_false h1 ?_
    by_cases h2 : e > 2000
    · refine dec_true h2 (math_Float64frombits.ct ⟨_, rfl, ?_⟩)
      rw [big h0 h2] at h; exact h
    refine dec_false h2 (main h0 (by omega) (by omega))
  · refine br_true rfl ?_
    by_cases h0 : m = 0
    · refine dec_true h0 (math_Float64frombits.ct ⟨_, rfl, ?_⟩)
      rw [h0, nearest_zero] at h; exact h
    refine dec_false h0 ?_
    by_cases h1 : e < -1200
    · refine dec_true h1 (math_Float64frombits.ct ⟨_, rfl, ?_⟩)
      rw [small h0 h1] at h; exact h
    refine dec_false h1 ?_
    by_cases h2 : e > 2000
    · refine dec_true h2 (math_Float64frombits.ct ⟨_, rfl, ?_⟩)
      rw [big h0 h2] at h; exact h
    refine dec_false h2 (main h0 (by omega) (by omega))

theorem magR_lt (r : Nat) : magR r < 9007199254740992 := by unfold magR; split <;> omega
theorem shR_le {x : Nat} (h : fin x) : shR (rung x) ≤ 2045 := by unfold fin infR at h; unfold shR; split <;> omega

theorem straightedgeref01_Scale.ct {x : Nat} {k : Int} (hx : x < 18446744073709551616) {w : World} {K : Value → World → Prop}
    (h : K (.float .f64 (scB x k)) w) : straightedgeref01_Scale.call [.float .f64 x, .int .i64 k] w K := by
  refine straightedgeref01_Scale.ok ?_
  unfold straightedgeref01_Scale.x
  refine straightedgeref01_Parts.ct hx ⟨_, _, _, _, rfl, ?_⟩
  unfold kindB mB eB
  unfold scB ldB at h
  by_cases hf : fin x
  · rw [if_pos hf] at h
    rw [if_pos hf, if_pos hf, if_pos hf]
    refine br_false rfl ?_
    have hm := magR_lt (rung x)
    have hs := shR_le hf
    by_cases h1 : k > 5000
    · refine dec_true h1 ?_
      rw [wrap_i64 (by omega) (by omega)]
      have : max (min k 5000) (-5000) = 5000 := by omega
      rw [this] at h
      exact straightedgeref01_Make.ct (by omega) ⟨_, rfl, h⟩
    refine dec_false h1 ?_
    by_cases h2 : k < -5000
    · refine dec_true h2 ?_
      rw [wrap_i64 (by omega) (by omega)]
      have : max (min k 5000) (-5000) = -5000 := by omega
      rw [this] at h
      exact straightedgeref01_Make.ct (by omega) ⟨_, rfl, h⟩
    refine dec_false h2 ?_
    rw [wrap_i64 (by omega) (by omega)]
    have : max (min k 5000) (-5000) = k := by omega
    rw [this] at h
    exact straightedgeref01_Make.ct (by omega) ⟨_, rfl, h⟩
  · rw [if_neg hf] at h
    rw [if_neg hf]
    refine br_true ?_ h
    by_cases h2 : nan x <;> simp [h2]

theorem sameB_refl (x : Nat) : sameB x x = true := by unfold sameB; simp
end Go.Proofs.YtgdkahbnepafgaaDoor
