import Derived.Test.YtgdkahbnepafgaaDoorWkWord
import Derived.Test.YtgdkahbnepafgaaDoorKnum
set_option maxRecDepth 100000
set_option linter.unusedVariables false
namespace Go.Proofs.YtgdkahbnepafgaaDoor
open Go Go.Wk Ieee
attribute [local irreducible] br

theorem math_Copysign.ct {y : Nat} (hy : y < 18446744073709551616) {w : World} {K : Value → World → Prop} (h : K (.float .f64 (wordD (sgn y) 0)) w) :
    math_Copysign.call [.float .f64 0, .float .f64 y] w K := by
  refine math_Copysign.ok ?_
  unfold math_Copysign.x
  refine math_Float64bits.ct ⟨_, rfl, math_Float64bits.ct ⟨_, rfl, math_Float64frombits.ct ⟨_, rfl, ?_⟩⟩⟩
  have h1 := bits_and_nat hy (y := 9223372036854775808) (by decide)
  have h2 : y &&& 9223372036854775808 = wordD (sgn y) 0 := by
    have hs := split_word hy
    rw [Nat.mul_comm] at hs
    have e : (9223372036854775808 : Nat) = 2 ^ 63 * 1 + 0 := by decide
    have hx : y = 2 ^ 63 * (y / 9223372036854775808) + rung y := hs
    rw [hx, e, and_parts _ _ _ _ _ (rung_lt y) (by decide), ← hx, top_bit hy]
    unfold wordD
    cases sgn y <;> simp
  have h3 : bits .andNot .u64 ((0 : Nat) : Int) 9223372036854775808 = ((0 : Nat) : Int) := by
    have := bits_andNot_nat (x := 0) (by decide) (y := 9223372036854775808) (by decide)
    rw [show ((9223372036854775808 : Nat) : Int) = 9223372036854775808 from rfl] at this
    rw [this, Nat.zero_and]
  rw [show ((9223372036854775808 : Nat) : Int) = 9223372036854775808 from rfl] at h1
  rw [h1, h3, bits_or_nat (by decide) (Nat.lt_of_le_of_lt Nat.and_le_left hy), Nat.zero_or, h2]
  exact h

theorem math_Inf.pos {w : World} {K : Value → World → Prop} (h : K (.float .f64 infR) w) : math_Inf.call [.int .i64 1] w K := by
  refine math_Inf.ok ?_
  unfold math_Inf.x
  exact br_true rfl (math_Float64frombits.ct ⟨_, rfl, h⟩)
theorem math_Inf.neg {w : World} {K : Value → World → Prop} (h : K (.float .f64 (wordD true infR)) w) : math_Inf.call [.int .i64 (-1)] w K := by
  refine math_Inf.ok ?_
  unfold math_Inf.x
  exact br_false rfl (math_Float64frombits.ct ⟨_, rfl, h⟩)

/-- What 'normalize' gives of a finite number other than nought. -/
structure Norm (x y : Nat) (e : Int) : Prop where
  lt : y < 18446744073709551616
  sg : sgn y = sgn x
  fin : fin y
  big : 4503599627370496 ≤ rung y
  ee : e = 0 ∨ e = -52
  val : valR (rung y) = valR (rung x) * 2 ^ (-e).toNat

theorem math_normalize.ct {x : Nat} (hx : x < 18446744073709551616) (hf : fin x) (h0 : rung x ≠ 0) {w : World} {K : Value → World → Prop}
    (h : ∀ y e, Norm x y e → K (.tuple ⟨[.float .f64 y, .int .i64 e]⟩) w) : math_normalize.call [.float .f64 x] w K := by
  refine math_normalize.ok ?_
  unfold math_normalize.x
  refine math_Abs.ct hx ⟨_, rfl, ?_⟩
  have hr := rung_lt x
  have e1 : flt .f64 (rung x) 4503599627370496 = decide (rung x < 4503599627370496) := by
    rw [flt_eq]
    apply decide_eq_decide.2
    rw [(key_pos hr).1, (key_pos (r := 4503599627370496) (by decide)).1]
    have hb : ¬ nan 4503599627370496 := by decide
    unfold fin at hf
    unfold nan
    rw [(key_pos hr).2]
    constructor
    · rintro ⟨_, _, h⟩; exact_mod_cast h
    · intro h; exact ⟨by omega, hb, by exact_mod_cast h⟩
  rw [e1]
  refine br_intro (fun hb => ?_) (fun hb => ?_)
  · have hlt := of_decide_eq_true hb
    have hc : fin 4841369599423283200 := by decide
    refine fop_some (mul_fin hf hc) ?_
    have hm : magR (rung x) = rung x := by unfold magR; rw [if_pos hlt]
    have hs : shR (rung x) = 0 := by unfold shR; rw [if_pos hlt]
    have c1 : sgn 4841369599423283200 = false := by decide
    have c2 : magR (rung 4841369599423283200) = 2 ^ 52 := by decide
    have c3 : shR (rung 4841369599423283200) = 1074 := by decide
    rw [hm, hs, c1, c2, c3, Bool.xor_false]
    have hl : (rung x).log2 < 52 := (Nat.log2_lt h0).2 (by simpa using hlt)
    have hl1 := Nat.log2_self_le h0
    have hl2 := log2_lt (rung x)
    have hM : ∃ M, 4503599627370496 ≤ M ∧ M < 9007199254740992 ∧ rung x * 2 ^ 52 = M * 2 ^ (rung x).log2 := by
      refine ⟨rung x * 2 ^ (52 - (rung x).log2), ?_, ?_, ?_⟩
      · calc 4503599627370496 = 2 ^ (rung x).log2 * 2 ^ (52 - (rung x).log2) := by rw [← Nat.pow_add, show (rung x).log2 + (52 - (rung x).log2) = 52 by omega]
          _ ≤ _ := Nat.mul_le_mul_right _ hl1
      · calc _ < 2 ^ ((rung x).log2 + 1) * 2 ^ (52 - (rung x).log2) := Nat.mul_lt_mul_of_pos_right hl2 (Nat.two_pow_pos _)
          _ = 9007199254740992 := by rw [← Nat.pow_add, show (rung x).log2 + 1 + (52 - (rung x).log2) = 53 by omega]
      · rw [Nat.mul_assoc, ← Nat.pow_add, show 52 - (rung x).log2 + (rung x).log2 = 52 by omega]
    obtain ⟨M, m1, m2, m3⟩ := hM
    rw [m3, near_shift', nearest_eq _ _ _ (by omega), nearR_norm m1 m2 (by omega)]
    have e2 : (-1074 + ((0 : Nat) : Int) + (-1074 + ((1074 : Nat) : Int)) + ((rung x).log2 : Int) + 1074).toNat = (rung x).log2 := by omega
    rw [e2, Nat.min_eq_left (by unfold infR; omega)]
    have hbig : (rung x).log2 * 4503599627370496 + M < 9223372036854775808 := by omega
    refine h _ _ ⟨wordD_lt hbig, sgn_word _ hbig, ?_, ?_, Or.inr rfl, ?_⟩
    · unfold fin infR; rw [rung_word _ hbig]; omega
    · rw [rung_word _ hbig]; omega
    · rw [rung_word _ hbig, valR_parts (by omega) (Or.inr m1), ← m3]
      unfold valR
      rw [hm, hs]
      simp
  · have hge := of_decide_eq_false hb
    exact h _ _ ⟨hx, rfl, hf, by omega, Or.inl rfl, by simp⟩

theorem math_ldexp.ct {x : Nat} {k : Int} (hx : x < 18446744073709551616) (hk1 : -5000 ≤ k) (hk2 : k ≤ 5000) {w : World} {K : Value → World → Prop}
    (h : K (.float .f64 (ldB x k)) w) : math_ldexp.call [.float .f64 x, .int .i64 k] w K := by
  refine math_ldexp.ok ?_
  unfold math_ldexp.x
  rw [feq_zero]
  refine br_intro (fun hb => ?_) (fun hb => ?_)
  · have h0 := of_decide_eq_true hb
    have : ldB x k = x := by
      unfold ldB
      rw [if_pos (by unfold fin infR; omega), h0, show magR 0 = 0 from rfl, nearest_zero, word_zero hx h0]
    rw [this] at h
    exact h
  have h0 := of_decide_eq_false hb
  have hnf : ¬ fin x → K (.float .f64 x) w := fun hn => by
    unfold ldB at h
    rw [if_neg hn] at h
    exact h
  refine math_IsInf.ct hx ⟨_, rfl, br_intro (fun hb => ?_) (fun hb => ?_)⟩
  · exact hnf (by have := of_decide_eq_true hb; unfold fin; omega)
  have hi := of_decide_eq_false hb
  refine math_IsNaN.ct ⟨_, rfl, br_intro (fun hb => ?_) (fun hb => ?_)⟩
  · exact hnf (by have := of_decide_eq_true hb; unfold fin nan at *; omega)
  have hn := of_decide_eq_false hb
  have hf : fin x := by unfold nan fin at *; omega
  unfold ldB at h
  rw [if_pos hf] at h
  refine math_normalize.ct hx hf h0 fun y e hy => ⟨_, _, rfl, math_Float64bits.ct ⟨_, rfl, ?_⟩⟩
  rw [field_i64 hy.lt, strike hy.lt]
  have hyr := hy.fin
  unfold fin infR at hyr
  obtain ⟨g1, g2, g3⟩ := magR_norm hy.big
  have hsh : rung y / 4503599627370496 = shR (rung y) + 1 := by
    have := hy.big
    unfold shR; rw [if_neg (by omega)]; omega
  have hlow : rung y % 4503599627370496 = magR (rung y) - 4503599627370496 := by
    have := hy.big
    unfold magR; rw [if_neg (by omega)]; omega
  have hshlt : shR (rung y) ≤ 2045 := by have := hy.big; unfold shR; rw [if_neg (by omega)]; omega
  rw [hsh, hlow]
  -- what is wanted, of y
  have hval : double.nearest (sgn x) (magR (rung x)) (-1074 + shR (rung x) + k) = double.nearest (sgn y) (magR (rung y)) (-1074 + shR (rung y) + k + e) := by
    rw [hy.sg]
    have hv := hy.val
    unfold valR at hv
    refine near_eq_of_val (shR (rung x) + (-e).toNat) (shR (rung y)) ?_ ?_
    · have := hy.ee; omega
    · rw [hv, Nat.mul_assoc, ← Nat.pow_add]
  rw [hval] at h
  have hs1 := hy.sg
  have hE := hy.ee
  generalize shR (rung y) = S at *
  generalize magR (rung y) = M at *
  have w1 : IntKind.i64.wrap (k + e) = k + e := wrap_i64 (by omega) (by omega)
  have w2 : IntKind.i64.wrap (((S + 1 : Nat) : Int) - 1023) = S + 1 - 1023 := by rw [wrap_i64 (by omega) (by omega)]; omega
  have w3 : IntKind.i64.wrap (k + e + ((S : Int) + 1 - 1023)) = k + e + S - 1022 := by rw [wrap_i64 (by omega) (by omega)]; omega
  rw [w1, w2, w3]
  have hM0 : M ≠ 0 := by omega
  refine br_intro (fun hb => ?_) (fun hb => ?_)
  · have hlt := of_decide_eq_true hb
    refine math_Copysign.ct hy.lt ⟨_, rfl, ?_⟩
    rw [nearest_eq _ _ _ hM0, nearR_small hM0 g2 (by omega)] at h
    exact h
  have c1 := of_decide_eq_false hb
  refine br_intro (fun hb => ?_) (fun hb => ?_)
  · have hgt := of_decide_eq_true hb
    rw [nearest_eq _ _ _ hM0, nearR_norm g1 g2 (by omega), Nat.min_eq_right (by unfold infR; omega)] at h
    have hneg : flt .f64 y 0 = sgn y := by
      rw [flt_eq]
      have hyb := hy.big
      have hn : ¬ nan y := by unfold nan infR; omega
      have h1 : key 0 = 0 := by decide
      have h2 : ¬ nan 0 := by decide
      rw [h1]
      unfold key
      cases sgn y
      · simp only [Bool.false_eq_true, if_false]
        apply decide_eq_false
        rintro ⟨_, _, h⟩; omega
      · simp only [if_true]
        apply decide_eq_true
        exact ⟨hn, h2, by omega⟩
    rw [hneg]
    refine br_intro (fun hb => ?_) (fun hb => ?_)
    · rw [hb] at h; exact math_Inf.neg ⟨_, rfl, h⟩
    · rw [hb] at h; exact math_Inf.pos ⟨_, rfl, h⟩
  have c2 := of_decide_eq_false hb
  have fld : ∀ (E : Nat) (z : Int), z = E → E < 2048 → IntKind.u64.wrap (IntKind.u64.wrap (IntKind.i64.wrap z) * 2 ^ (shiftN .u64 52)) = ((E * 4503599627370496 : Nat) : Int) := by
    intro E z hz hE
    rw [hz, wrap_i64 (by omega) (by omega), wrap_u64 _ (by omega), sh52]
    have : (E : Int) * 2 ^ 52 = ((E * 4503599627370496 : Nat) : Int) := by
      rw [Int.natCast_mul]; rfl
    rw [this, wrap_u64 _ (by omega)]
  have fin_E : ∀ E, 1 ≤ E → E < 2047 → let z := wordD (sgn y) (E * 4503599627370496 + (M - 4503599627370496)); fin z ∧ sgn z = sgn y ∧ magR (rung z) = M ∧ shR (rung z) = E - 1 := by
    intro E h1 h2 z
    have hb : E * 4503599627370496 + (M - 4503599627370496) < 9223372036854775808 := by omega
    refine ⟨?_, sgn_word _ hb, ?_, ?_⟩
    · unfold fin infR; rw [rung_word _ hb]; omega
    · rw [rung_word _ hb]; unfold magR; rw [if_neg (by omega)]; omega
    · rw [rung_word _ hb]; unfold shR; rw [if_neg (by omega)]; omega
  refine br_intro (fun hb => ?_) (fun hb => ?_)
  · have c3 := of_decide_eq_true hb
    have w4 : IntKind.i64.wrap (k + e + (S : Int) - 1022 + 53) = k + e + S - 1022 + 53 := wrap_i64 (by omega) (by omega)
    obtain ⟨E, hEq⟩ : ∃ E : Nat, k + e + (S : Int) - 1022 + 53 + 1023 = E := ⟨(k + e + (S : Int) - 1022 + 53 + 1023).toNat, by omega⟩
    rw [w4, fld E _ hEq (by omega), set_field (by omega) (by omega)]
    refine math_Float64frombits.ct ⟨_, rfl, ?_⟩
    rw [Int.toNat_natCast]
    obtain ⟨f1, f2, f3, f4⟩ := fin_E E (by omega) (by omega)
    refine fop_some (mul_fin (by decide) f1) ?_
    have d1 : sgn 4368491638549381120 = false := by decide
    have d2 : magR (rung 4368491638549381120) = 2 ^ 52 := by decide
    have d3 : shR (rung 4368491638549381120) = 969 := by decide
    rw [f2, f3, f4, d1, d2, d3, Bool.false_xor, Nat.mul_comm, near_shift']
    have : (-1074 + ((969 : Nat) : Int) + (-1074 + ((E - 1 : Nat) : Int)) + ((52 : Nat) : Int)) = -1074 + S + k + e := by omega
    rw [this]
    exact h
  · have c3 := of_decide_eq_false hb
    obtain ⟨E, hEq⟩ : ∃ E : Nat, k + e + (S : Int) - 1022 + 1023 = E := ⟨(k + e + (S : Int) - 1022 + 1023).toNat, by omega⟩
    rw [fld E _ hEq (by omega), set_field (by omega) (by omega)]
    refine math_Float64frombits.ct ⟨_, rfl, ?_⟩
    rw [Int.toNat_natCast]
    obtain ⟨f1, f2, f3, f4⟩ := fin_E E (by omega) (by omega)
    refine fop_some (mul_fin (by decide) f1) ?_
    have d1 : sgn 4607182418800017408 = false := by decide
    have d2 : magR (rung 4607182418800017408) = 2 ^ 52 := by decide
    have d3 : shR (rung 4607182418800017408) = 1022 := by decide
    rw [f2, f3, f4, d1, d2, d3, Bool.false_xor, Nat.mul_comm, near_shift']
    have : (-1074 + ((1022 : Nat) : Int) + (-1074 + ((E - 1 : Nat) : Int)) + ((52 : Nat) : Int)) = -1074 + S + k + e := by omega
    rw [this]
    exact h

def scB (x : Nat) (k : Int) : Nat := ldB x (max (min k 5000) (-5000))

theorem num_Scale.ct {x : Nat} {k : Int} (hx : x < 18446744073709551616) {w : World} {K : Value → World → Prop}
    (h : K (.float .f64 (scB x k)) w) : num_Scale.call [.float .f64 x, .int .i64 k] w K := by
  refine num_Scale.ok ?_
  unfold num_Scale.x
  have e : (if (-5000 : Int) > (if 5000 < k then 5000 else k) then (-5000) else (if 5000 < k then 5000 else k)) = max (min k 5000) (-5000) := by
    split <;> split <;> omega
  rw [e]
  refine math_Ldexp.ok ?_
  unfold math_Ldexp.x
  exact math_ldexp.ct hx (by omega) (by omega) ⟨_, rfl, _, rfl, h⟩

theorem num_Two.ct {k : Int} {w : World} {K : Value → World → Prop}
    (h : K (.float .f64 (scB 4607182418800017408 k)) w) : num_Two.call [.int .i64 k] w K := by
  refine num_Two.ok ?_
  unfold num_Two.x
  exact num_Scale.ct (by decide) ⟨_, rfl, h⟩

/-- A finite number's exponent: the place of its first digit. -/
def expB (x : Nat) : Int := if fin x ∧ rung x ≠ 0 then (magR (rung x)).log2 + shR (rung x) - 1074 else 0

theorem num_Exp.ct {x : Nat} (hx : x < 18446744073709551616) {w : World} {K : Value → World → Prop}
    (h : ∀ w', Ext w w' → K (.int .i64 (expB x)) w') : num_Exp.call [.float .f64 x] w K := by
  refine num_Exp.ok ?_
  unfold num_Exp.x
  rw [feq_zero]
  refine br_intro (fun hb => ?_) (fun hb => ?_)
  · have h0 := of_decide_eq_true hb
    have := h w (Ext.refl w)
    unfold expB at this
    rwa [if_neg (by simp [h0])] at this
  have h0 := of_decide_eq_false hb
  refine newB_intro fun q w2 _ _ hext hrow _ _ => ?_
  have hl : Fls w2 (some q) 1 [x] := Fls.of_row (xs := [x]) hrow
  refine num_Finite.ct hl (by simpa using hx) (by decide) ⟨_, rfl, ?_⟩
  have hall : ([x].all finB) = decide (fin x) := by simp [finB]
  rw [hall]
  refine br_intro (fun hb => ?_) (fun hb => ?_)
  · have hn : ¬ fin x := by simpa using hb
    have := h w2 hext
    unfold expB at this
    rwa [if_neg (by simp [hn])] at this
  have hf : fin x := by simpa using hb
  refine math_Frexp.ok ?_
  unfold math_Frexp.x
  refine math_frexp.ok ?_
  unfold math_frexp.x
  rw [feq_zero]
  refine dec_false h0 ?_
  refine math_IsInf.ct hx ⟨_, rfl, dec_false (by unfold fin at hf; omega) ?_⟩
  refine math_IsNaN.ct ⟨_, rfl, dec_false (by unfold fin nan at *; omega) ?_⟩
  refine math_normalize.ct hx hf h0 fun y e hy => ⟨_, _, rfl, math_Float64bits.ct ⟨_, rfl, ?_⟩⟩
  refine math_Float64frombits.ct ⟨_, rfl, ?_⟩
  refine ⟨_, _, rfl, ?_⟩
  refine ⟨_, _, rfl, ?_⟩
  rw [field_u64 hy.lt]
  have hyr := hy.fin
  unfold fin infR at hyr
  have hsh : rung y / 4503599627370496 = shR (rung y) + 1 := by
    have := hy.big
    unfold shR; rw [if_neg (by omega)]; omega
  have hshlt : shR (rung y) ≤ 2045 := by have := hy.big; unfold shR; rw [if_neg (by omega)]; omega
  have hE := hy.ee
  rw [hsh, wrap_i64 (z := ((shR (rung y) + 1 : Nat) : Int)) (by omega) (by omega), wrap_i64 (z := ((shR (rung y) + 1 : Nat) : Int) - 1023) (by omega) (by omega), wrap_i64 (z := ((shR (rung y) + 1 : Nat) : Int) - 1023 + 1) (by omega) (by omega),
    wrap_i64 (z := e + _) (by omega) (by omega), wrap_i64 (by omega) (by omega)]
  have hk := h w2 hext
  unfold expB at hk
  rw [if_pos ⟨hf, h0⟩] at hk
  obtain ⟨g1, g2, g3⟩ := magR_norm hy.big
  have hl52 : (magR (rung y)).log2 = 52 := by
    have a : (magR (rung y)).log2 < 53 := (Nat.log2_lt (by omega)).2 (by simpa using g2)
    have b : 52 ≤ (magR (rung y)).log2 := (Nat.le_log2 (by omega)).2 (by simpa using g1)
    omega
  have hm0 : magR (rung x) ≠ 0 := by unfold magR; split <;> omega
  have hv := hy.val
  unfold valR at hv
  have hlog := congrArg Nat.log2 hv
  rw [Nat.mul_assoc, ← Nat.pow_add, log2_mul_pow _ _ (by omega), log2_mul_pow _ _ hm0, hl52] at hlog
  have : e + (((shR (rung y) + 1 : Nat) : Int) - 1023 + 1) - 1 = (magR (rung x)).log2 + shR (rung x) - 1074 := by omega
  rw [this]
  exact hk
end Go.Proofs.YtgdkahbnepafgaaDoor
