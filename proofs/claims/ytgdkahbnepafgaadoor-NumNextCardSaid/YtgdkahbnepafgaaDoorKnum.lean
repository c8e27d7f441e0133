import Derived.Test.YtgdkahbnepafgaaDoorWkArr
import Derived.Test.YtgdkahbnepafgaaDoorGnum
import Derived.Test.YtgdkahbnepafgaaDoorGmath
set_option maxRecDepth 100000
set_option linter.unusedVariables false
namespace Go.Proofs.YtgdkahbnepafgaaDoor
open Go Go.Wk
attribute [local irreducible] br

theorem math_Float64bits.ct {x : Nat} {w : World} {K : Value → World → Prop} (h : K (.int .u64 x) w) : math_Float64bits.call [.float .f64 x] w K :=
  CallF_of_value (by kernel_rfl) h
theorem math_Float64frombits.ct {n : Int} {w : World} {K : Value → World → Prop} (h : K (.float .f64 n.toNat) w) : math_Float64frombits.call [.int .u64 n] w K :=
  CallF_of_value (by kernel_rfl) h

theorem math_Abs.ct {x : Nat} {w : World} {K : Value → World → Prop} (hx : x < 18446744073709551616) (h : K (.float .f64 (rung x)) w) :
    math_Abs.call [.float .f64 x] w K := by
  refine math_Abs.ok ?_
  unfold math_Abs.x
  refine math_Float64bits.ct ⟨_, rfl, math_Float64frombits.ct ⟨_, rfl, ?_⟩⟩
  have := bits_andNot_nat hx (y := 9223372036854775808) (by decide)
  have h2 : bits .andNot .u64 (x : Int) 9223372036854775808 = ((rung x : Nat) : Int) := by
    rw [← and_sign]; exact this
  rw [h2]
  exact h

theorem math_IsNaN.ct {x : Nat} {w : World} {K : Value → World → Prop} (h : K (.bool (decide (nan x))) w) : math_IsNaN.call [.float .f64 x] w K := by
  refine math_IsNaN.ok ?_
  unfold math_IsNaN.x
  have : fne .f64 x x = decide (nan x) := by
    rw [fne_eq, feq_eq]; simp
  rw [this]
  exact h

theorem key_pos {r : Nat} (h : r < 9223372036854775808) : key r = r ∧ rung r = r := by
  have h1 : rung r = r := Nat.mod_eq_of_lt h
  have h2 : sgn r = false := by unfold sgn; simp; omega
  unfold key
  rw [h1, h2]
  exact ⟨rfl, rfl⟩

theorem math_IsInf.ct {x : Nat} {w : World} {K : Value → World → Prop} (hx : x < 18446744073709551616) (h : K (.bool (decide (rung x = infR))) w) :
    math_IsInf.call [.float .f64 x, .int .i64 0] w K := by
  refine math_IsInf.ok ?_
  unfold math_IsInf.x
  refine br_true rfl ?_
  refine math_Abs.ct hx ⟨_, rfl, ?_⟩
  have hr := rung_lt x
  have : fgt .f64 (rung x) 9218868437227405311 = decide (rung x = infR) := by
    rw [fgt_eq]
    have h1 := (key_pos hr)
    have h2 := (key_pos (r := 9218868437227405311) (by decide))
    apply decide_eq_decide.2
    unfold nan
    rw [h1.1, h1.2, h2.1, h2.2]
    unfold infR
    omega
  rw [this]
  exact h

def sameB (x y : Nat) : Bool := decide (x = y ∨ (nan x ∧ nan y))

theorem num_Same.ct {x y : Nat} {w : World} {K : Value → World → Prop} (h : K (.bool (sameB x y)) w) : num_Same.call [.float .f64 x, .float .f64 y] w K := by
  refine num_Same.ok ?_
  unfold num_Same.x
  refine math_Float64bits.ct ⟨_, rfl, math_Float64bits.ct ⟨_, rfl, ?_⟩⟩
  have hn : ∀ z, fne .f64 z z = decide (nan z) := fun z => by rw [fne_eq, feq_eq]; simp
  rw [hn, hn]
  unfold sameB at h
  refine br_intro (fun hb => ?_) (fun hb => ?_)
  · have : x = y := Int.ofNat_inj.1 (of_decide_eq_true hb)
    simpa [this] using h
  · have hne : ¬ x = y := fun e => of_decide_eq_false hb (congrArg Int.ofNat e)
    refine br_intro (fun hb => ?_) (fun hb => ?_)
    · have : nan x := by simpa using hb
      simpa [hne, this] using h
    · have : ¬ nan x := by simpa using hb
      simpa [hne, this] using h

def finB (x : Nat) : Bool := decide (fin x)

theorem num_Finite.ct {p : Option Addr} {n c : Nat} {xs : List Nat} {w : World} {K : Value → World → Prop} (hx : Fls w p n xs)
    (hb : ∀ x ∈ xs, x < 18446744073709551616) (hn : n < 4611686018427387904) (h : K (.bool (xs.all finB)) w) : num_Finite.call [.slice p n c] w K := by
  refine num_Finite.ok (n + 1) ?_
  unfold num_Finite.x
  have main : ∀ (d i : Nat) (fu : Nat), i + d = n → d < fu → ((xs.drop i).all finB = xs.all finB) → num_Finite.c2 K fu p n c (n : Int) (i : Int) w := by
    intro d
    induction d with
    | zero =>
      intro i fu hi hfu hall
      obtain ⟨fu, rfl⟩ : ∃ m, fu = m + 1 := ⟨fu - 1, by omega⟩
      refine dec_false (by omega) ?_
      have : xs.all finB = true := by rw [← hall, List.drop_eq_nil_of_le (by rw [hx.len]; omega)]; rfl
      rw [this] at h
      exact h
    | succ d ih =>
      intro i fu hi hfu hall
      obtain ⟨fu, rfl⟩ : ∃ m, fu = m + 1 := ⟨fu - 1, by omega⟩
      have hlt : i < xs.length := by rw [hx.len]; omega
      obtain ⟨a, ha, hc⟩ := hx.at_ i xs[i] (by simp [hlt])
      refine dec_true (by omega) (ptrSome_intro ha ⟨by omega, by omega, xs[i], by simpa using hc, ?_⟩)
      have hxi := hb xs[i] (List.getElem_mem hlt)
      have hdrop : xs.drop i = xs[i] :: xs.drop (i + 1) := List.drop_eq_getElem_cons hlt
      have hn : fne .f64 xs[i] xs[i] = decide (nan xs[i]) := by rw [fne_eq, feq_eq]; simp
      rw [hn]
      have hbad : ¬ fin xs[i] → K (.bool false) w := by
        intro hnf
        have : xs.all finB = false := by rw [← hall, hdrop, List.all_cons]; simp [finB, hnf]
        rw [this] at h
        exact h
      refine br_intro (fun hb => hbad ?_) (fun hb => ?_)
      · have : nan xs[i] := by simpa using hb
        unfold nan fin at *; omega
      · have hnn : ¬ nan xs[i] := by simpa using hb
        refine math_IsInf.ct hxi ⟨_, rfl, ?_⟩
        refine br_intro (fun hb => hbad ?_) (fun hb => ?_)
        · have : rung xs[i] = infR := by simpa using hb
          unfold fin; omega
        · have hni : ¬ rung xs[i] = infR := by simpa using hb
          have hf : fin xs[i] := by unfold nan fin at *; omega
          have e : IntKind.i64.wrap ((i : Int) + 1) = ((i + 1 : Nat) : Int) := by rw [wrap_i64] <;> omega
          rw [e]
          refine ih (i + 1) fu (by omega) (by omega) ?_
          rw [← hall, hdrop, List.all_cons]
          simp [finB, hf]
  exact main n 0 (n + 1) (by omega) (by omega) rfl
end Go.Proofs.YtgdkahbnepafgaaDoor
