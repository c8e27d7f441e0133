import Derived.Test.YtgdkahbnepafgaaDoorKsc
import Derived.Test.YtgdkahbnepafgaaDoorGref01
set_option maxRecDepth 100000
set_option linter.unusedVariables false
namespace Go.Proofs.YtgdkahbnepafgaaDoor
open Go Go.Wk Ieee
attribute [local irreducible] br

def kindB (x : Nat) : Int := if fin x then 0 else if nan x then 2 else 1
def mB (x : Nat) : Nat := if fin x then magR (rung x) else 0
def eB (x : Nat) : Int := if fin x then -1074 + shR (rung x) else 0

theorem tmod_nat (a b : Nat) : Int.tmod (a : Int) (b : Int) = ((a % b : Nat) : Int) := (Int.ofNat_tmod a b).symm
theorem tdiv_nat (a b : Nat) : Int.tdiv (a : Int) (b : Int) = ((a / b : Nat) : Int) := (Int.ofNat_tdiv a b).symm

theorem nat_beq (a b : Nat) : ((a : Int) == (b : Int)) = (a == b) := by
  by_cases h : a = b
  · subst h; rw [beq_self_eq_true, beq_self_eq_true]
  · have h' : ¬ (a : Int) = b := by omega
    rw [beq_eq_false_iff_ne.2 h, beq_eq_false_iff_ne.2 h']

theorem straightedgeref01_Parts.ct {x : Nat} (hx : x < 18446744073709551616) {w : World} {K : Value → World → Prop}
    (h : K (.tuple ⟨[.bool (sgn x), .int .u64 (mB x : Int), .int .i64 (eB x), .int .i64 (kindB x)]⟩) w) : straightedgeref01_Parts.call [.float .f64 x] w K := by
  refine straightedgeref01_Parts.ok ?_
  unfold straightedgeref01_Parts.x
  refine math_Float64bits.ct ⟨_, rfl, ?_⟩
  have e1 : Int.tmod (IntKind.i64.wrap (Int.fdiv (x : Int) (2 ^ (shiftN .u64 52)))) 2048 = ((rung x / 4503599627370496 : Nat) : Int) := by
    rw [div52, wrap_i64 (by omega) (by omega)]
    have := tmod_nat (x / 4503599627370496) 2048
    rw [show ((2048 : Nat) : Int) = 2048 from rfl] at this
    rw [this]
    unfold rung
    omega
  have e2 : Int.tmod (x : Int) 4503599627370496 = ((rung x % 4503599627370496 : Nat) : Int) := by
    have := tmod_nat x 4503599627370496
    rw [show ((4503599627370496 : Nat) : Int) = 4503599627370496 from rfl] at this
    rw [this]
    unfold rung
    omega
  have e3 : (Int.fdiv (x : Int) (2 ^ (shiftN .u64 63)) == 1) = sgn x := by
    rw [div63, top_bit hx]
    cases sgn x <;> rfl
  rw [e1, e2, e3]
  have hr := rung_lt x
  have q1 : (((rung x / 4503599627370496 : Nat) : Int) == 2047) = decide (¬ fin x) := by
    have := nat_beq (rung x / 4503599627370496) 2047
    rw [show ((2047 : Nat) : Int) = 2047 from rfl] at this
    rw [this]
    by_cases h : rung x / 4503599627370496 = 2047
    · rw [decide_eq_true (by unfold fin infR; omega), h]; rfl
    · rw [decide_eq_false (by unfold fin infR; omega), beq_eq_false_iff_ne.2 h]
  have q2 : (((rung x % 4503599627370496 : Nat) : Int) == 0) = decide (rung x % 4503599627370496 = 0) := by
    have := nat_beq (rung x % 4503599627370496) 0
    rw [show ((0 : Nat) : Int) = 0 from rfl] at this
    rw [this]; rfl
  have q3 : (((rung x / 4503599627370496 : Nat) : Int) == 0) = decide (rung x / 4503599627370496 = 0) := by
    have := nat_beq (rung x / 4503599627370496) 0
    rw [show ((0 : Nat) : Int) = 0 from rfl] at this
    rw [this]; rfl
  rw [q1, q2, q3]
  unfold mB eB kindB at h
  have hfin : fin x → br (decide (rung x / 4503599627370496 = 0))
      (K (.tuple ⟨[.bool (sgn x), .int .u64 ((rung x % 4503599627370496 : Nat) : Int), .int .i64 (-1074), .int .i64 0]⟩) w)
      (K (.tuple ⟨[.bool (sgn x), .int .u64 (IntKind.u64.wrap (((rung x % 4503599627370496 : Nat) : Int) + 4503599627370496)), .int .i64 (IntKind.i64.wrap (((rung x / 4503599627370496 : Nat) : Int) - 1075)), .int .i64 0]⟩) w) := by
    intro hf
    rw [if_pos hf, if_pos hf, if_pos hf] at h
    unfold fin infR at hf
    refine br_intro (fun hb => ?_) (fun hb => ?_)
    · have h0 := of_decide_eq_true hb
      have a1 : magR (rung x) = rung x % 4503599627370496 := by unfold magR; rw [if_pos (by omega)]; omega
      have a2 : shR (rung x) = 0 := by unfold shR; rw [if_pos (by omega)]
      rw [a1, a2] at h
      exact h
    · have h0 := of_decide_eq_false hb
      have a1 : ((magR (rung x) : Nat) : Int) = ((rung x % 4503599627370496 : Nat) : Int) + 4503599627370496 := by unfold magR; rw [if_neg (by omega)]; omega
      have a2 : (-1074 + (shR (rung x) : Int)) = ((rung x / 4503599627370496 : Nat) : Int) - 1075 := by unfold shR; rw [if_neg (by omega)]; omega
      rw [wrap_u64' (by omega) (by omega), wrap_i64 (by omega) (by omega), ← a1, ← a2]
      exact h
  refine br_intro (fun hb => ?_) (fun hb => ?_)
  · have hf := of_decide_eq_true hb
    rw [if_neg hf, if_neg hf, if_neg hf] at h
    refine br_intro (fun hb => ?_) (fun hb => ?_)
    · have h0 := of_decide_eq_true hb
      rw [if_neg (by unfold nan fin infR at *; omega)] at h
      exact h
    · have h0 := of_decide_eq_false hb
      rw [if_pos (by unfold nan fin infR at *; omega)] at h
      exact br_true (decide_eq_true hf) h
  · have hf := of_decide_eq_false hb
    have hf' : fin x := by unfold fin at *; omega
    exact br_false hb (hfin hf')

theorem straightedgeref01_Same.ct {x y : Nat} (hx : x < 18446744073709551616) (hy : y < 18446744073709551616) {w : World} {K : Value → World → Prop}
    (h : K (.bool (sameB x y)) w) : straightedgeref01_Same.call [.float .f64 x, .float .f64 y] w K := by
  refine straightedgeref01_Same.ok ?_
  unfold straightedgeref01_Same.x
  refine straightedgeref01_Parts.ct hx ⟨_, _, _, _, rfl, straightedgeref01_Parts.ct hy ⟨_, _, _, _, rfl, math_Float64bits.ct ⟨_, rfl, math_Float64bits.ct ⟨_, rfl, ?_⟩⟩⟩⟩
  rw [nat_beq]
  have hk : ∀ z, (kindB z == 2) = decide (nan z) := by
    intro z
    unfold kindB
    by_cases h1 : fin z
    · rw [if_pos h1]
      have : ¬ nan z := by unfold fin nan at *; omega
      rw [decide_eq_false this]; rfl
    · rw [if_neg h1]
      by_cases h2 : nan z
      · rw [if_pos h2, decide_eq_true h2]; rfl
      · rw [if_neg h2, decide_eq_false h2]; rfl
  rw [hk, hk]
  unfold sameB at h
  refine br_intro (fun hb => ?_) (fun hb => ?_)
  · have : x = y := by simpa using hb
    simpa [this] using h
  · have hne : ¬ x = y := by simpa using hb
    refine br_intro (fun hb => ?_) (fun hb => ?_)
    · have : nan x := by simpa using hb
      simpa [hne, this] using h
    · have : ¬ nan x := by simpa using hb
      simpa [hne, this] using h

theorem straightedgeref01_Finite.ct {p : Option Addr} {n c : Nat} {xs : List Nat} {w : World} {K : Value → World → Prop} (hx : Fls w p n xs)
    (hb : ∀ x ∈ xs, x < 18446744073709551616) (hn : n < 4611686018427387904) (h : K (.bool (xs.all finB)) w) : straightedgeref01_Finite.call [.slice p n c] w K := by
  refine straightedgeref01_Finite.ok (n + 1) ?_
  unfold straightedgeref01_Finite.x
  have main : ∀ (d i : Nat) (fu : Nat), i + d = n → d < fu → ((xs.drop i).all finB = xs.all finB) → straightedgeref01_Finite.c2 K fu p n c (i : Int) w := by
    intro d
    induction d with
    | zero =>
      intro i fu hi hfu hall
      obtain ⟨fu, rfl⟩ : ∃ m, fu = m + 1 := ⟨fu - 1, by omega⟩
      refine dec_false (by omega) ?_
      have : xs.all finB = true := by rw [← hall, List.drop_eq_nil_of_le (by rw [hx.len]; omega)]; rfl
      rw [this] at h
      exact h
    | succ d ih =>
      intro i fu hi hfu hall
      obtain ⟨fu, rfl⟩ : ∃ m, fu = m + 1 := ⟨fu - 1, by omega⟩
      have hlt : i < xs.length := by rw [hx.len]; omega
      obtain ⟨a, ha, hc⟩ := hx.at_ i xs[i] (by simp [hlt])
      refine dec_true (by omega) (ptrSome_intro ha ⟨by omega, by omega, xs[i], by simpa using hc, ?_⟩)
      have hxi := hb xs[i] (List.getElem_mem hlt)
      have hdrop : xs.drop i = xs[i] :: xs.drop (i + 1) := List.drop_eq_getElem_cons hlt
      refine straightedgeref01_Parts.ct hxi ⟨_, _, _, _, rfl, ?_⟩
      have hk : (kindB xs[i] != 0) = decide (¬ fin xs[i]) := by
        unfold kindB
        by_cases h1 : fin xs[i]
        · simp [h1]
        · rw [if_neg h1]
          by_cases h2 : nan xs[i] <;> simp [h1, h2]
      rw [hk]
      refine br_intro (fun hb => ?_) (fun hb => ?_)
      · have hnf := of_decide_eq_true hb
        have : xs.all finB = false := by rw [← hall, hdrop, List.all_cons]; simp [finB, hnf]
        rw [this] at h
        exact h
      · have hnf := of_decide_eq_false hb
        have hf : fin xs[i] := by unfold fin at *; omega
        have e : IntKind.i64.wrap ((i : Int) + 1) = ((i + 1 : Nat) : Int) := by rw [wrap_i64] <;> omega
        rw [e]
        refine ih (i + 1) fu (by omega) (by omega) ?_
        rw [← hall, hdrop, List.all_cons]
        simp [finB, hf]
  exact main n 0 (n + 1) (by omega) (by omega) rfl

theorem straightedgeref01_Exp.ct {x : Nat} (hx : x < 18446744073709551616) {w : World} {K : Value → World → Prop}
    (h : K (.int .i64 (expB x)) w) : straightedgeref01_Exp.call [.float .f64 x] w K := by
  refine straightedgeref01_Exp.ok 100 ?_
  unfold straightedgeref01_Exp.x
  refine straightedgeref01_Parts.ct hx ⟨_, _, _, _, rfl, ?_⟩
  unfold expB at h
  unfold kindB mB eB
  have hr := rung_lt x
  by_cases hf : fin x
  · rw [if_pos hf, if_pos hf, if_pos hf]
    refine br_false rfl ?_
    by_cases h0 : rung x = 0
    · rw [if_neg (by simp [h0])] at h
      rw [h0]
      exact br_true rfl h
    · rw [if_pos ⟨hf, h0⟩] at h
      have hm0 : magR (rung x) ≠ 0 := by unfold magR; split <;> omega
      refine br_false (by simp [hm0]) ?_
      have hml : magR (rung x) < 9007199254740992 := by unfold magR; split <;> omega
      have hsl : shR (rung x) ≤ 2045 := by unfold fin infR at hf; unfold shR; split <;> omega
      generalize magR (rung x) = m at *
      have main : ∀ (d fu m : Nat) (e : Int), m ≠ 0 → m.log2 = d → d < fu → m < 9007199254740992 → -1074 ≤ e → e < 4000 - d →
          K (.int .i64 (e + d)) w → straightedgeref01_Exp.c4 K fu (m : Int) e w := by
        intro d
        induction d with
        | zero =>
          intro fu m e hm hl hfu hml he1 he2 hK
          obtain ⟨fu, rfl⟩ : ∃ m, fu = m + 1 := ⟨fu - 1, by omega⟩
          have h2 := log2_lt m
          rw [hl] at h2
          refine dec_false (by omega) ?_
          simpa using hK
        | succ d ih =>
          intro fu m e hm hl hfu hml he1 he2 hK
          obtain ⟨fu, rfl⟩ : ∃ m, fu = m + 1 := ⟨fu - 1, by omega⟩
          have h1 := Nat.log2_self_le hm
          have h2 := log2_lt m
          rw [hl] at h1 h2
          have hp : 0 < 2 ^ d := Nat.two_pow_pos _
          have e1 : 2 ^ (d + 1) = 2 * 2 ^ d := by rw [Nat.pow_succ]; omega
          have e2 : 2 ^ (d + 1 + 1) = 2 * 2 ^ (d + 1) := by rw [Nat.pow_succ]; omega
          refine dec_true (by omega) ?_
          have w1 : IntKind.u64.wrap (Int.tdiv (m : Int) 2) = ((m / 2 : Nat) : Int) := by
            have := tdiv_nat m 2
            rw [show ((2 : Nat) : Int) = 2 from rfl] at this
            rw [this, wrap_u64 _ (by omega)]
          rw [w1, wrap_i64 (by omega) (by omega)]
          refine ih fu (m / 2) (e + 1) (by omega) ?_ (by omega) (by omega) (by omega) (by omega) ?_
          · refine (Nat.log2_eq_iff (by omega)).2 ⟨by omega, by omega⟩
          · have : e + 1 + (d : Int) = e + ((d + 1 : Nat) : Int) := by omega
            rw [this]; exact hK
      have hl : m.log2 < 53 := (Nat.log2_lt hm0).2 (by simpa using hml)
      refine main m.log2 100 m _ hm0 rfl (by omega) hml (by omega) (by omega) ?_
      have : -1074 + (shR (rung x) : Int) + (m.log2 : Int) = m.log2 + shR (rung x) - 1074 := by omega
      rw [this]; exact h
  · rw [if_neg hf, if_neg hf, if_neg hf]
    rw [if_neg (by simp [hf])] at h
    refine br_true ?_ h
    by_cases h2 : nan x <;> simp [h2]
end Go.Proofs.YtgdkahbnepafgaaDoor
