import Derived.Test.YtgdkahbnepafgaaDoorKawake
set_option maxRecDepth 100000
set_option linter.unusedVariables false
namespace Go.Proofs.YtgdkahbnepafgaaDoor
open Go Go.Wk Ieee
attribute [local irreducible] br

theorem xor_parts (a b c d n : Nat) (hb : b < 2 ^ n) (hd : d < 2 ^ n) : (2 ^ n * a + b) ^^^ (2 ^ n * c + d) = 2 ^ n * (a ^^^ c) + (b ^^^ d) := by
  have hbd : b ^^^ d < 2 ^ n := Nat.xor_lt_two_pow hb hd
  apply Nat.eq_of_testBit_eq
  intro i
  rw [Nat.testBit_xor, Nat.testBit_two_pow_mul_add _ hb, Nat.testBit_two_pow_mul_add _ hd, Nat.testBit_two_pow_mul_add _ hbd]
  split <;> simp

theorem negF {x : Nat} (hx : x < 18446744073709551616) : Op.negFloat .f64 x = wordD (!sgn x) (rung x) := by
  show x ^^^ 2 ^ 63 = _
  have hs := split_word hx
  rw [Nat.mul_comm] at hs
  have hx' : x = 2 ^ 63 * (x / 9223372036854775808) + rung x := hs
  have e1 : 2 ^ 63 = 2 ^ 63 * 1 + 0 := by decide
  rw [show x ^^^ 2 ^ 63 = (2 ^ 63 * (x / 9223372036854775808) + rung x) ^^^ (2 ^ 63 * 1 + 0) by rw [← hx', ← e1], xor_parts _ _ _ _ _ (rung_lt x) (by decide), top_bit hx]
  unfold wordD
  cases sgn x <;> simp

theorem neg_lt {x : Nat} (hx : x < 18446744073709551616) : Op.negFloat .f64 x < 18446744073709551616 := by
  rw [negF hx]; exact wordD_lt (rung_lt x)
theorem neg_rung {x : Nat} (hx : x < 18446744073709551616) : rung (Op.negFloat .f64 x) = rung x := by rw [negF hx, rung_word _ (rung_lt x)]
theorem neg_sgn {x : Nat} (hx : x < 18446744073709551616) : sgn (Op.negFloat .f64 x) = !sgn x := by rw [negF hx, sgn_word _ (rung_lt x)]
theorem neg_key {x : Nat} (hx : x < 18446744073709551616) : key (Op.negFloat .f64 x) = - key x := by
  unfold key
  rw [neg_rung hx, neg_sgn hx]
  cases sgn x <;> simp
theorem neg_nan {x : Nat} (hx : x < 18446744073709551616) : nan (Op.negFloat .f64 x) ↔ nan x := by unfold nan; rw [neg_rung hx]
theorem neg_fin {x : Nat} (hx : x < 18446744073709551616) : fin (Op.negFloat .f64 x) ↔ fin x := by unfold fin; rw [neg_rung hx]

/-- The next number above. -/
def upB (x : Nat) : Nat := if nan x ∨ x = infR then x else if rung x = 0 then 1 else if sgn x then x - 1 else x + 1

theorem word_cases {x : Nat} (hx : x < 18446744073709551616) : (sgn x = false ∧ x = rung x) ∨ (sgn x = true ∧ x = 9223372036854775808 + rung x) := by
  have := word_of hx
  unfold wordD at this
  cases h : sgn x
  · rw [h] at this; exact Or.inl ⟨rfl, by simpa using this.symm⟩
  · rw [h] at this; exact Or.inr ⟨rfl, by simpa using this.symm⟩

theorem upB_spec {x : Nat} (hx : x < 18446744073709551616) (hf : fin x) : ¬ nan (upB x) ∧ key (upB x) = key x + 1 ∧ upB x < 18446744073709551616 := by
  have hr := rung_lt x
  unfold upB
  unfold fin infR at hf
  have hn : ¬ (nan x ∨ x = infR) := by
    rintro (h | h)
    · unfold nan infR at h; omega
    · rw [h] at hf; exact absurd hf (by decide)
  rw [if_neg hn]
  by_cases h0 : rung x = 0
  · rw [if_pos h0]
    refine ⟨by decide, ?_, by decide⟩
    have : key 1 = 1 := by decide
    rw [this]
    unfold key
    rw [h0]
    split <;> rfl
  · rw [if_neg h0]
    rcases word_cases hx with ⟨hs, he⟩ | ⟨hs, he⟩
    · rw [hs]
      simp only [Bool.false_eq_true, if_false]
      have k1 := key_pos (r := x + 1) (by omega)
      have k2 := key_pos (r := x) (by omega)
      refine ⟨?_, ?_, by omega⟩
      · unfold nan infR; rw [k1.2]; omega
      · rw [k1.1, k2.1]; omega
    · rw [hs]
      simp only [if_true]
      have e : x - 1 = wordD true (rung x - 1) := by unfold wordD; simp; omega
      rw [e]
      have hb : rung x - 1 < 9223372036854775808 := by omega
      refine ⟨?_, ?_, wordD_lt hb⟩
      · unfold nan infR; rw [rung_word _ hb]; omega
      · unfold key; rw [rung_word _ hb, sgn_word _ hb, hs]; simp; omega

theorem upB_lt {x : Nat} (hx : x < 18446744073709551616) : upB x < 18446744073709551616 := by
  by_cases hf : fin x
  · exact (upB_spec hx hf).2.2
  · unfold upB
    by_cases hn : nan x ∨ x = infR
    · rw [if_pos hn]; exact hx
    · rw [if_neg hn]
      have : rung x = infR := by unfold fin at hf; unfold nan at hn; omega
      rw [if_neg (by rw [this]; decide)]
      rcases word_cases hx with ⟨hs, he⟩ | ⟨hs, he⟩
      · exact absurd (Or.inr (he.trans this)) hn
      · rw [hs]; simp; omega

theorem num_Up.ct {x : Nat} (hx : x < 18446744073709551616) {w : World} {K : Value → World → Prop} (h : K (.float .f64 (upB x)) w) : num_Up.call [.float .f64 x] w K := by
  refine num_Up.ok ?_
  unfold num_Up.x
  have hr := rung_lt x
  refine math_Float64bits.ct ⟨_, rfl, ?_⟩
  have hn : fne .f64 x x = decide (nan x) := by rw [fne_eq, feq_eq]; simp
  rw [hn]
  unfold upB at h
  by_cases h1 : nan x
  · refine dec_true h1 ?_
    rw [if_pos (Or.inl h1)] at h; exact h
  refine dec_false h1 ?_
  refine math_Inf.pos ⟨_, rfl, ?_⟩
  have k0 := key_pos (r := infR) (by decide)
  have hi : feq .f64 x infR = decide (x = infR) := by
    rw [feq_eq]
    apply decide_eq_decide.2
    rw [k0.1]
    have h2 : ¬ nan infR := by decide
    rcases word_cases hx with ⟨hs, he⟩ | ⟨hs, he⟩
    · unfold key; rw [hs]; simp only [Bool.false_eq_true, if_false]
      constructor
      · rintro ⟨_, _, h⟩; omega
      · intro h; exact ⟨h1, h2, by omega⟩
    · unfold key; rw [hs]; simp only [if_true]
      constructor
      · rintro ⟨_, _, h⟩; unfold infR at h; omega
      · intro h; unfold infR at h; omega
  rw [hi]
  by_cases h2 : x = infR
  · refine dec_true h2 ?_
    rw [if_pos (Or.inr h2)] at h; exact h
  refine dec_false h2 ?_
  rw [if_neg (by rintro (h | h) <;> contradiction)] at h
  rw [feq_zero]
  by_cases h3 : rung x = 0
  · refine dec_true h3 (math_Float64frombits.ct ⟨_, rfl, ?_⟩)
    rw [if_pos h3] at h; exact h
  refine dec_false h3 ?_
  rw [if_neg h3] at h
  have hg : fgt .f64 x 0 = !sgn x := by
    rw [fgt_eq]
    have z1 : ¬ nan 0 := by decide
    have z2 : key 0 = 0 := by decide
    rw [z2]
    unfold key
    cases sgn x
    · simp only [Bool.false_eq_true, if_false]
      exact decide_eq_true ⟨h1, z1, by omega⟩
    · simp only [if_true]
      exact decide_eq_false (by rintro ⟨_, _, h⟩; omega)
  rw [hg]
  unfold nan infR at h1
  rcases word_cases hx with ⟨hs, he⟩ | ⟨hs, he⟩
  · rw [hs] at h ⊢
    refine br_true rfl (math_Float64frombits.ct ⟨_, rfl, ?_⟩)
    rw [wrap_u64' (by omega) (by omega)]
    have : ((x : Int) + 1).toNat = x + 1 := by omega
    rw [this]; exact h
  · rw [hs] at h ⊢
    refine br_false rfl (math_Float64frombits.ct ⟨_, rfl, ?_⟩)
    rw [wrap_u64' (by omega) (by omega)]
    have : ((x : Int) - 1).toNat = x - 1 := by omega
    rw [this]; exact h

theorem num_Down.ct {x : Nat} (hx : x < 18446744073709551616) {w : World} {K : Value → World → Prop} (h : K (.float .f64 (Op.negFloat .f64 (upB (Op.negFloat .f64 x)))) w) :
    num_Down.call [.float .f64 x] w K := by
  refine num_Down.ok ?_
  unfold num_Down.x
  exact num_Up.ct (neg_lt hx) ⟨_, rfl, h⟩

/-- A number that there is, is rounded to itself. -/
theorem near_rep {s : Bool} {M r : Nat} {p : Int} (i : Nat) (hp : p = -1074 + i) (hr : r ≤ infR) (h : M * 2 ^ i = valR r) : double.nearest s M p = wordD s r := by
  by_cases h0 : r = 0
  · rw [h0, valR_zero] at h
    have : M = 0 := by
      rcases Nat.mul_eq_zero.1 h with h | h
      · exact h
      · have := Nat.two_pow_pos i; omega
    rw [this, h0, nearest_zero]
  · have hM : M ≠ 0 := by
      intro hM
      rw [hM, Nat.zero_mul] at h
      have := @valR_le r 0
      rw [← h, valR_zero] at this
      omega
    rw [nearest_eq _ _ _ hM, ← nearR_shift M p i hM, h]
    have := nearR_val r h0 (shR r)
    have e : (-1074 + (shR r : Int) - (shR r : Int)) = p - i := by omega
    rw [e] at this
    have h2 : nearR (valR r) (p - i) = r := this
    rw [h2, Nat.min_eq_left hr]

theorem rparts (r : Nat) : r = shR r * 4503599627370496 + magR r ∧ magR r < 9007199254740992 ∧ (shR r = 0 ∨ 4503599627370496 ≤ magR r) := by
  by_cases h : r < 4503599627370496
  · have a1 : magR r = r := by unfold magR; rw [if_pos h]
    have a2 : shR r = 0 := by unfold shR; rw [if_pos h]
    rw [a1, a2]; omega
  · have := magR_norm (r := r) (by omega)
    exact ⟨this.2.2, this.2.1, Or.inr this.1⟩

theorem straightedgeref01_Up.ct {x : Nat} (hx : x < 18446744073709551616) {w : World} {K : Value → World → Prop} (h : K (.float .f64 (upB x)) w) :
    straightedgeref01_Up.call [.float .f64 x] w K := by
  refine straightedgeref01_Up.ok ?_
  unfold straightedgeref01_Up.x
  refine straightedgeref01_Parts.ct hx ⟨_, _, _, _, rfl, ?_⟩
  have hr := rung_lt x
  unfold upB at h
  unfold kindB mB eB
  by_cases hf : fin x
  · rw [if_pos hf, if_pos hf, if_pos hf]
    have hf' := hf
    unfold fin infR at hf'
    have hn : ¬ (nan x ∨ x = infR) := by
      rintro (h | h)
      · unfold nan infR at h; omega
      · rw [h] at hf'; exact absurd hf' (by decide)
    rw [if_neg hn] at h
    refine br_false rfl (br_false rfl (br_false rfl ?_))
    obtain ⟨q1, q2, q3⟩ := rparts (rung x)
    have hm0 : (((magR (rung x) : Nat) : Int) == 0) = decide (rung x = 0) := by
      have := nat_beq (magR (rung x)) 0
      rw [show ((0 : Nat) : Int) = 0 from rfl] at this
      rw [this]
      by_cases h0 : rung x = 0
      · rw [decide_eq_true h0, h0]; rfl
      · rw [decide_eq_false h0, beq_eq_false_iff_ne]
        omega
    rw [hm0]
    by_cases h0 : rung x = 0
    · refine dec_true h0 ?_
      rw [if_pos h0] at h
      refine straightedgeref01_Make.ct (m := 1) (by decide) ⟨_, rfl, ?_⟩
      rw [near_rep (M := 1) (p := -1074) (r := 1) 0 (by decide) (by decide) (by decide)]
      exact h
    refine dec_false h0 ?_
    rw [if_neg h0] at h
    have hs := shR_le hf
    generalize magR (rung x) = m at *
    generalize shR (rung x) = S at *
    rcases word_cases hx with ⟨hsg, he⟩ | ⟨hsg, he⟩
    · rw [hsg] at h ⊢
      refine br_true rfl ?_
      have w1 : IntKind.u64.wrap ((m : Int) + 1) = ((m + 1 : Nat) : Int) := by rw [wrap_u64' (by omega) (by omega)]; omega
      rw [w1]
      refine straightedgeref01_Make.ct (by omega) ⟨_, rfl, ?_⟩
      rw [near_rep (r := x + 1) S rfl (by unfold infR; omega)]
      · simpa [wordD] using h
      · have := valR_parts (a := S) (k := m + 1) (by omega) (by omega)
        exact this.symm.trans (congrArg valR (by omega))
    · rw [hsg] at h ⊢
      refine br_false rfl ?_
      have hxw : x - 1 = wordD true (rung x - 1) := by unfold wordD; simp; omega
      simp only [if_true] at h
      rw [hxw] at h
      have hm5 : ((m : Int) == 4503599627370496) = decide (m = 4503599627370496) := by
        have := nat_beq m 4503599627370496
        rw [show ((4503599627370496 : Nat) : Int) = 4503599627370496 from rfl] at this
        rw [this]; rfl
      rw [hm5]
      have w1 : IntKind.u64.wrap ((m : Int) - 1) = ((m - 1 : Nat) : Int) := by rw [wrap_u64' (by omega) (by omega)]; omega
      have step : ¬ (m = 4503599627370496 ∧ S ≠ 0) → straightedgeref01_Make.call [(.bool true), (.int .u64 (IntKind.u64.wrap ((m : Int) - 1))), (.int .i64 (-1074 + (S : Int)))] w fun v19 w20 => ∃ x21 : Nat, v19 = (.float .f64 x21) ∧ K (.float .f64 x21) w20 := by
        intro hne
        rw [w1]
        refine straightedgeref01_Make.ct (by omega) ⟨_, rfl, ?_⟩
        rw [near_rep (r := rung x - 1) S rfl (by unfold infR; omega)]
        · exact h
        · have := valR_parts (a := S) (k := m - 1) (by omega) (by omega)
          exact this.symm.trans (congrArg valR (by omega))
      by_cases h5 : m = 4503599627370496
      · refine dec_true h5 ?_
        by_cases hS : S = 0
        · refine dec_false (by omega) (step (by rintro ⟨_, h⟩; exact h hS))
        · refine dec_true (by omega) ?_
          rw [wrap_i64 (by omega) (by omega)]
          refine straightedgeref01_Make.ct (m := 9007199254740991) (by decide) ⟨_, rfl, ?_⟩
          rw [near_rep (r := rung x - 1) (S - 1) (by omega) (by unfold infR; omega)]
          · exact h
          · have := valR_parts (a := S - 1) (k := 9007199254740991) (by omega) (by omega)
            exact this.symm.trans (congrArg valR (by omega))
      · refine dec_false h5 (step (by rintro ⟨h, _⟩; exact h5 h))
  · rw [if_neg hf, if_neg hf, if_neg hf]
    by_cases h2 : nan x
    · rw [if_pos h2]
      refine br_true rfl ?_
      rw [if_pos (Or.inl h2)] at h; exact h
    · rw [if_neg h2]
      refine br_false rfl (br_true rfl ?_)
      have hri : rung x = infR := by unfold fin nan at *; omega
      rcases word_cases hx with ⟨hsg, he⟩ | ⟨hsg, he⟩
      · rw [hsg]
        refine br_true rfl ?_
        rw [if_pos (Or.inr (he.trans hri))] at h; exact h
      · rw [hsg]
        refine br_false rfl (br_true rfl ?_)
        rw [if_neg (by rintro (h | h); exact h2 h; unfold infR at h; omega), if_neg (by rw [hri]; decide), hsg] at h
        refine straightedgeref01_Make.ct (m := 9007199254740991) (by decide) ⟨_, rfl, ?_⟩
        rw [near_rep (p := 971) (r := infR - 1) 2045 (by decide) (by decide)]
        · have : x - 1 = wordD true (infR - 1) := by rw [he, hri]; decide
          simp only [if_true] at h
          rw [this] at h; exact h
        · have := valR_parts (a := 2045) (k := 9007199254740991) (by decide) (by decide)
          exact this.symm.trans (congrArg valR (by decide))

theorem straightedgelaw01_NumNext.ct {x : Nat} (hx : x < 18446744073709551616) {w : World} {K : Value → World → Prop} (hT : T4 w)
    (h : ∀ w', Ext w w' → K (.bool true) w') : straightedgelaw01_NumNext.call [.float .f64 x] w K := by
  refine straightedgelaw01_NumNext.ok ?_
  unfold straightedgelaw01_NumNext.x
  have hu := upB_lt hx
  have hnx := neg_lt hx
  have hnu := upB_lt hnx
  have hd := neg_lt hnu
  refine straightedgelaw01_awake.ct hT fun w2 e2 => ⟨_, rfl, br_false rfl ?_⟩
  refine num_Up.ct hx ⟨_, rfl, num_Down.ct hx ⟨_, rfl, ?_⟩⟩
  refine straightedgeref01_Up.ct hx ⟨_, rfl, straightedgeref01_Same.ct hu hu ⟨_, rfl, br_false (by rw [sameB_refl]; rfl) ?_⟩⟩
  refine straightedgeref01_Up.ct hnx ⟨_, rfl, straightedgeref01_Same.ct hd hd ⟨_, rfl, br_false (by rw [sameB_refl]; rfl) ?_⟩⟩
  refine newB_intro fun q w3 _ _ e3 hrow _ _ => ?_
  have ee := e2.trans e3
  have last : straightedgelaw01_awake.call [] w3 fun v w' => ∃ b : Bool, v = .bool b ∧ K (.bool b) w' :=
    straightedgelaw01_awake.ct (hT.ext ee) fun w6 e6 => ⟨_, rfl, h w6 (ee.trans e6)⟩
  have hb : ∀ z ∈ [x, upB x, Op.negFloat .f64 (upB (Op.negFloat .f64 x))], z < 18446744073709551616 := by simp [hx, hu, hd]
  refine straightedgeref01_Finite.ct (Fls.of_row (xs := [x, upB x, Op.negFloat .f64 (upB (Op.negFloat .f64 x))]) hrow) hb (by decide) ⟨_, rfl, ?_⟩
  refine br_intro (fun _ => last) (fun hall => ?_)
  simp only [List.all_cons, List.all_nil, finB, Bool.and_true, Bool.not_eq_false', Bool.and_eq_true, decide_eq_true_eq] at hall
  obtain ⟨f1, f2, f3⟩ := hall
  have s1 := upB_spec hx f1
  have s2 := upB_spec hnx ((neg_fin hx).2 f1)
  have nn : ∀ {z}, fin z → ¬ nan z := fun hz => by unfold fin nan at *; omega
  have kd : key (Op.negFloat .f64 (upB (Op.negFloat .f64 x))) = key x - 1 := by rw [neg_key hnu, s2.2.1, neg_key hx]; omega
  refine br_true ?_ (br_true ?_ ?_)
  · rw [flt_eq]; exact decide_eq_true ⟨nn f3, nn f1, by omega⟩
  · rw [flt_eq]; exact decide_eq_true ⟨nn f1, nn f2, by omega⟩
  have hnu' := neg_lt hu
  have s3 := upB_spec hnu' ((neg_fin hu).2 f2)
  refine num_Down.ct hu ⟨_, rfl, br_true ?_ ?_⟩
  · rw [feq_eq]
    refine decide_eq_true ⟨fun hc => s3.1 ((neg_nan s3.2.2).1 hc), nn f1, ?_⟩
    rw [neg_key s3.2.2, s3.2.1, neg_key hu, s1.2.1]; omega
  have s4 := upB_spec hd f3
  refine num_Up.ct hd ⟨_, rfl, br_true ?_ last⟩
  · rw [feq_eq]
    exact decide_eq_true ⟨s4.1, nn f1, by rw [s4.2.1, kd]; omega⟩
end Go.Proofs.YtgdkahbnepafgaaDoor
