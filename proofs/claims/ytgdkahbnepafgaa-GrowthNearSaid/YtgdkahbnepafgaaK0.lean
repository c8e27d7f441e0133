/- A part of the proof. -/
import Derived.Test.YtgdkahbnepafgaaWk0
import Derived.Test.YtgdkahbnepafgaaG1
import Derived.Test.YtgdkahbnepafgaaG2
import Derived.Test.YtgdkahbnepafgaaG3
import Derived.Test.YtgdkahbnepafgaaG0
import Derived.Test.YtgdkahbnepafgaaWk1
set_option linter.unusedVariables false

/-! ### AKnum -/

set_option maxRecDepth 100000
set_option linter.unusedVariables false
namespace Go.Proofs.Ytgdkahbnepafgaa
open Go Go.Wk
attribute [local irreducible] br

theorem math_Float64bits.ct {x : Nat} {w : World} {K : Value → World → Prop} (h : K (.int .u64 x) w) : math_Float64bits.call [.float .f64 x] w K :=
  CallF_of_value (by kernel_rfl) h
theorem math_Float64frombits.ct {n : Int} {w : World} {K : Value → World → Prop} (h : K (.float .f64 n.toNat) w) : math_Float64frombits.call [.int .u64 n] w K :=
  CallF_of_value (by kernel_rfl) h

theorem math_Abs.ct {x : Nat} {w : World} {K : Value → World → Prop} (hx : x < 18446744073709551616) (h : K (.float .f64 (rung x)) w) :
    math_Abs.call [.float .f64 x] w K := by
  refine math_Abs.ok ?_
  unfold math_Abs.x
  refine math_Float64bits.ct ⟨_, rfl, math_Float64frombits.ct ⟨_, rfl, ?_⟩⟩
  have := bits_andNot_nat hx (y := 9223372036854775808) (by decide)
  have h2 : bits .andNot .u64 (x : Int) 9223372036854775808 = ((rung x : Nat) : Int) := by
    rw [← and_sign]; exact this
  rw [h2]
  exact h

theorem key_pos {r : Nat} (h : r < 9223372036854775808) : key r = r ∧ rung r = r := by
  have h1 : rung r = r := Nat.mod_eq_of_lt h
  have h2 : sgn r = false := by unfold sgn; simp; omega
  unfold key
  rw [h1, h2]
  exact ⟨rfl, rfl⟩

def sameB (x y : Nat) : Bool := decide (x = y ∨ (nan x ∧ nan y))

def finB (x : Nat) : Bool := decide (fin x)

end Go.Proofs.Ytgdkahbnepafgaa

/-! ### AKref1 -/
set_option maxRecDepth 100000
set_option linter.unusedVariables false
namespace Go.Proofs.Ytgdkahbnepafgaa
open Go Go.Wk Ieee
attribute [local irreducible] br

def kindB (x : Nat) : Int := if fin x then 0 else if nan x then 2 else 1
def mB (x : Nat) : Nat := if fin x then magR (rung x) else 0
def eB (x : Nat) : Int := if fin x then -1074 + shR (rung x) else 0

theorem tmod_nat (a b : Nat) : Int.tmod (a : Int) (b : Int) = ((a % b : Nat) : Int) := (Int.ofNat_tmod a b).symm
theorem tdiv_nat (a b : Nat) : Int.tdiv (a : Int) (b : Int) = ((a / b : Nat) : Int) := (Int.ofNat_tdiv a b).symm

theorem nat_beq (a b : Nat) : ((a : Int) == (b : Int)) = (a == b) := by
  by_cases h : a = b
  · subst h; rw [beq_self_eq_true, beq_self_eq_true]
  · have h' : ¬ (a : Int) = b := by omega
    rw [beq_eq_false_iff_ne.2 h, beq_eq_false_iff_ne.2 h']

theorem straightedgeref01_Parts.ct {x : Nat} (hx : x < 18446744073709551616) {w : World} {K : Value → World → Prop}
    (h : K (.tuple ⟨[.bool (sgn x), .int .u64 (mB x : Int), .int .i64 (eB x), .int .i64 (kindB x)]⟩) w) : straightedgeref01_Parts.call [.float .f64 x] w K := by
  refine straightedgeref01_Parts.ok ?_
  unfold straightedgeref01_Parts.x
  refine math_Float64bits.ct ⟨_, rfl, ?_⟩
  have e1 : Int.tmod (IntKind.i64.wrap (Int.fdiv (x : Int) (2 ^ (shiftN .u64 52)))) 2048 = ((rung x / 4503599627370496 : Nat) : Int) := by
    rw [div52, wrap_i64 (by omega) (by omega)]
    have := tmod_nat (x / 4503599627370496) 2048
    rw [show ((2048 : Nat) : Int) = 2048 from rfl] at this
    rw [this]
    unfold rung
    omega
  have e2 : Int.tmod (x : Int) 4503599627370496 = ((rung x % 4503599627370496 : Nat) : Int) := by
    have := tmod_nat x 4503599627370496
    rw [show ((4503599627370496 : Nat) : Int) = 4503599627370496 from rfl] at this
    rw [this]
    unfold rung
    omega
  have e3 : (Int.fdiv (x : Int) (2 ^ (shiftN .u64 63)) == 1) = sgn x := by
    rw [div63, top_bit hx]
    cases sgn x <;> rfl
  rw [e1, e2, e3]
  have hr := rung_lt x
  have q1 : (((rung x / 4503599627370496 : Nat) : Int) == 2047) = decide (¬ fin x) := by
    have := nat_beq (rung x / 4503599627370496) 2047
    rw [show ((2047 : Nat) : Int) = 2047 from rfl] at this
    rw [this]
    by_cases h : rung x / 4503599627370496 = 2047
    · rw [decide_eq_true (by unfold fin infR; omega), h]; rfl
    · rw [decide_eq_false (by unfold fin infR; omega), beq_eq_false_iff_ne.2 h]
  have q2 : (((rung x % 4503599627370496 : Nat) : Int) == 0) = decide (rung x % 4503599627370496 = 0) := by
    have := nat_beq (rung x % 4503599627370496) 0
    rw [show ((0 : Nat) : Int) = 0 from rfl] at this
    rw [this]; rfl
  have q3 : (((rung x / 4503599627370496 : Nat) : Int) == 0) = decide (rung x / 4503599627370496 = 0) := by
    have := nat_beq (rung x / 4503599627370496) 0
    rw [show ((0 : Nat) : Int) = 0 from rfl] at this
    rw [this]; rfl
  rw [q1, q2, q3]
  unfold mB eB kindB at h
  have hfin : fin x → br (decide (rung x / 4503599627370496 = 0))
      (K (.tuple ⟨[.bool (sgn x), .int .u64 ((rung x % 4503599627370496 : Nat) : Int), .int .i64 (-1074), .int .i64 0]⟩) w)
      (K (.tuple ⟨[.bool (sgn x), .int .u64 (IntKind.u64.wrap (((rung x % 4503599627370496 : Nat) : Int) + 4503599627370496)), .int .i64 (IntKind.i64.wrap (((rung x / 4503599627370496 : Nat) : Int) - 1075)), .int .i64 0]⟩) w) := by
    intro hf
    rw [if_pos hf, if_pos hf, if_pos hf] at h
    unfold fin infR at hf
    refine br_intro (fun hb => ?_) (fun hb => ?_)
    · have h0 := of_decide_eq_true hb
      have a1 : magR (rung x) = rung x % 4503599627370496 := by unfold magR; rw [if_pos (by omega)]; omega
      have a2 : shR (rung x) = 0 := by unfold shR; rw [if_pos (by omega)]
      rw [a1, a2] at h
      exact h
    · have h0 := of_decide_eq_false hb
      have a1 : ((magR (rung x) : Nat) : Int) = ((rung x % 4503599627370496 : Nat) : Int) + 4503599627370496 := by unfold magR; rw [if_neg (by omega)]; omega
      have a2 : (-1074 + (shR (rung x) : Int)) = ((rung x / 4503599627370496 : Nat) : Int) - 1075 := by unfold shR; rw [if_neg (by omega)]; omega
      rw [wrap_u64' (by omega) (by omega), wrap_i64 (by omega) (by omega), ← a1, ← a2]
      exact h
  refine br_intro (fun hb => ?_) (fun hb => ?_)
  · have hf := of_decide_eq_true hb
    rw [if_neg hf, if_neg hf, if_neg hf] at h
    refine br_intro (fun hb => ?_) (fun hb => ?_)
    · have h0 := of_decide_eq_true hb
      rw [if_neg (by unfold nan fin infR at *; omega)] at h
      exact h
    · have h0 := of_decide_eq_false hb
      rw [if_pos (by unfold nan fin infR at *; omega)] at h
      exact br_true (decide_eq_true hf) h
  · have hf := of_decide_eq_false hb
    have hf' : fin x := by unfold fin at *; omega
    exact br_false hb (hfin hf')

theorem straightedgeref01_Same.ct {x y : Nat} (hx : x < 18446744073709551616) (hy : y < 18446744073709551616) {w : World} {K : Value → World → Prop}
    (h : K (.bool (sameB x y)) w) : straightedgeref01_Same.call [.float .f64 x, .float .f64 y] w K := by
  refine straightedgeref01_Same.ok ?_
  unfold straightedgeref01_Same.x
  refine straightedgeref01_Parts.ct hx ⟨_, _, _, _, rfl, straightedgeref01_Parts.ct hy ⟨_, _, _, _, rfl, math_Float64bits.ct ⟨_, rfl, math_Float64bits.ct ⟨_, rfl, ?_⟩⟩⟩⟩
  rw [nat_beq]
  have hk : ∀ z, (kindB z == 2) = decide (nan z) := by
    intro z
    unfold kindB
    by_cases h1 : fin z
    · rw [if_pos h1]
      have : ¬ nan z := by unfold fin nan at *; omega
      rw [decide_eq_false this]; rfl
    · rw [if_neg h1]
      by_cases h2 : nan z
      · rw [if_pos h2, decide_eq_true h2]; rfl
      · rw [if_neg h2, decide_eq_false h2]; rfl
  rw [hk, hk]
  unfold sameB at h
  refine br_intro (fun hb => ?_) (fun hb => ?_)
  · have : x = y := by simpa using hb
    simpa [this] using h
  · have hne : ¬ x = y := by simpa using hb
    refine br_intro (fun hb => ?_) (fun hb => ?_)
    · have : nan x := by simpa using hb
      simpa [hne, this] using h
    · have : ¬ nan x := by simpa using hb
      simpa [hne, this] using h

theorem straightedgeref01_Finite.ct {p : Option Addr} {n c : Nat} {xs : List Nat} {w : World} {K : Value → World → Prop} (hx : Fls w p n xs)
    (hb : ∀ x ∈ xs, x < 18446744073709551616) (hn : n < 4611686018427387904) (h : K (.bool (xs.all finB)) w) : straightedgeref01_Finite.call [.slice p n c] w K := by
  refine straightedgeref01_Finite.ok (n + 1) ?_
  unfold straightedgeref01_Finite.x
  have main : ∀ (d i : Nat) (fu : Nat), i + d = n → d < fu → ((xs.drop i).all finB = xs.all finB) → straightedgeref01_Finite.c2 K fu p n c (i : Int) w := by
    intro d
    induction d with
    | zero =>
      intro i fu hi hfu hall
      obtain ⟨fu, rfl⟩ : ∃ m, fu = m + 1 := ⟨fu - 1, by omega⟩
      refine dec_false (by omega) ?_
      have : xs.all finB = true := by rw [← hall, List.drop_eq_nil_of_le (by rw [hx.len]; omega)]; rfl
      rw [this] at h
      exact h
    | succ d ih =>
      intro i fu hi hfu hall
      obtain ⟨fu, rfl⟩ : ∃ m, fu = m + 1 := ⟨fu - 1, by omega⟩
      have hlt : i < xs.length := by rw [hx.len]; omega
      obtain ⟨a, ha, hc⟩ := hx.at_ i xs[i] (by simp [hlt])
      refine dec_true (by omega) (ptrSome_intro ha ⟨by omega, by omega, xs[i], by simpa using hc, ?_⟩)
      have hxi := hb xs[i] (List.getElem_mem hlt)
      have hdrop : xs.drop i = xs[i] :: xs.drop (i + 1) := List.drop_eq_getElem_cons hlt
      refine straightedgeref01_Parts.ct hxi ⟨_, _, _, _, rfl, ?_⟩
      have hk : (kindB xs[i] != 0) = decide (¬ fin xs[i]) := by
        unfold kindB
        by_cases h1 : fin xs[i]
        · simp [h1]
        · rw [if_neg h1]
          by_cases h2 : nan xs[i] <;> simp [h1, h2]
      rw [hk]
      refine br_intro (fun hb => ?_) (fun hb => ?_)
      · have hnf := of_decide_eq_true hb
        have : xs.all finB = false := by rw [← hall, hdrop, List.all_cons]; simp [finB, hnf]
        rw [this] at h
        exact h
      · have hnf := of_decide_eq_false hb
        have hf : fin xs[i] := by unfold fin at *; omega
        have e : IntKind.i64.wrap ((i : Int) + 1) = ((i + 1 : Nat) : Int) := by rw [wrap_i64] <;> omega
        rw [e]
        refine ih (i + 1) fu (by omega) (by omega) ?_
        rw [← hall, hdrop, List.all_cons]
        simp [finB, hf]
  exact main n 0 (n + 1) (by omega) (by omega) rfl

end Go.Proofs.Ytgdkahbnepafgaa

/-! ### AKdig -/
set_option maxRecDepth 100000
set_option linter.unusedVariables false
namespace Go.Proofs.Ytgdkahbnepafgaa
open Go Go.Wk Go.RowKit Ieee
attribute [local irreducible] br

/-! ### the types of whole numbers -/
abbrev tInt : TypeId := 3
abbrev tInts : TypeId := 31
theorem tInts_is : prog.underlying tInts = some (.slice tInt) := by kernel_rfl
theorem tInt_is : prog.info? tInt = some ((prog.info? tInt).get (by kernel_rfl)) := by kernel_rfl
theorem tInt_zero : ((prog.info? tInt).get (by kernel_rfl)).zero = some (.int .i64 0) := by kernel_rfl
theorem tInt_size : ((prog.info? tInt).get (by kernel_rfl)).size = 1 := by kernel_rfl
theorem tInt_bytes : ((prog.info? tInt).get (by kernel_rfl)).bytes = 8 := by kernel_rfl

theorem appI {tb : TypeId} {w0 w : World} {p : Option Addr} {n c : Nat} {xs : List Int} {u : Int} {R : Value → World → Prop}
    (hown : Own w w0.heap.size tInt p n c (xs.map fun x => .int .i64 x)) (he : Ext w0 w) (hn : n < 8796093022300)
    (h : ∀ p' c' w', Ext w0 w' → Own w' w0.heap.size tInt p' (n + 1) c' ((xs ++ [u]).map fun x => .int .i64 x) → R (.slice p' (n + 1) c') w') :
    newB [.int .i64 u] tb w fun q w2 => Raw prog (Builtin.append_ #[31, 31] 31 ⟨[.slice p n c, .slice (some q) 1 1]⟩) w2 fun v w3 => R v w3 :=
  app_one (t := tInts) (e := tInt) tInts_is tInt_is tInt_zero tInt_size tInt_bytes rfl hown he rfl (by omega) (by omega) fun p' c' w' h1 h2 => h p' c' w' h1 (by simpa using h2)

theorem beq_zero (i : Int) : (i == 0) = decide (i = 0) := rfl

set_option maxHeartbeats 2000000 in
theorem straightedgeref02_Made.ct {s : Bool} {p : Option Addr} {n c : Nat} {e : Int} {l : List Int} {w : World} {K : Value → World → Prop} {B : Int}
    (hl : Ints w p n l) (hd : Dig l) (hc : n ≤ c) (hlo : -B ≤ e) (hhi : e + n ≤ B) (hB : B < 4611686018427387904) (hB0 : 0 ≤ B)
    (h : ∀ w' s' p' n' c' e', Ext w w' → DR w' s' p' n' e' B (dv s l e) → n' ≤ n → (∀ a, p' = some a → ∃ b, p = some b ∧ a.block = b.block) → K (.agg ⟨[.bool s', .slice p' n' c', .int .i64 e']⟩) w') :
    straightedgeref02_Made.call [.bool s, .slice p n c, .int .i64 e] w K := by
  refine straightedgeref02_Made.ok (2 * n + 3) ?_
  unfold straightedgeref02_Made.x
  refine newB_intro fun q w2 hqb _ hext hrow _ _ => ?_
  have hq : w.heap.size ≤ q.block := by omega
  -- the end
  have fin0 : ∀ (l' : List Int) (p' : Option Addr) (n' c' : Nat) (e' : Int), Ints w p' n' l' → Dig l' → n' ≤ n → -B ≤ e' → e' + n' ≤ B → dv s l' e' = dv s l e → (∀ a, p' = some a → ∃ b, p = some b ∧ a.block = b.block) → (l' ≠ [] → 0 < valL l') →
      br (((n' : Nat) : Int) == 0) (ptrSome (some q) fun q3 => (w2.cell? q3).isSome = true ∧ w2.frozen? q3 = false ∧ ((w2.setCell q3 (.bool false)).cell? (q3.add 1)).isSome = true ∧ (w2.setCell q3 (.bool false)).frozen? (q3.add 1) = false ∧ (((w2.setCell q3 (.bool false)).setCell (q3.add 1) (.slice none 0 0)).cell? (q3.add 2)).isSome = true ∧ ((w2.setCell q3 (.bool false)).setCell (q3.add 1) (.slice none 0 0)).frozen? (q3.add 2) = false ∧ ptrSome (some q) fun q4 => ∃ b5 : Bool, ∃ (a6 : Option Addr) (n7 c8 : Nat), ∃ i9 : Int, (((w2.setCell q3 (.bool false)).setCell (q3.add 1) (.slice none 0 0)).setCell (q3.add 2) (.int .i64 0)).cell? q4 = some (.bool b5) ∧ (((w2.setCell q3 (.bool false)).setCell (q3.add 1) (.slice none 0 0)).setCell (q3.add 2) (.int .i64 0)).cell? (q4.add 1) = some (.slice a6 n7 c8) ∧ (((w2.setCell q3 (.bool false)).setCell (q3.add 1) (.slice none 0 0)).setCell (q3.add 2) (.int .i64 0)).cell? (q4.add 2) = some (.int .i64 i9) ∧ K (.agg ⟨[(.bool b5), (.slice a6 n7 c8), (.int .i64 i9)]⟩) (((w2.setCell q3 (.bool false)).setCell (q3.add 1) (.slice none 0 0)).setCell (q3.add 2) (.int .i64 0)))
        (ptrSome (some q) fun q10 => (w2.cell? q10).isSome = true ∧ w2.frozen? q10 = false ∧ ((w2.setCell q10 (.bool s)).cell? (q10.add 1)).isSome = true ∧ (w2.setCell q10 (.bool s)).frozen? (q10.add 1) = false ∧ (((w2.setCell q10 (.bool s)).setCell (q10.add 1) (.slice p' n' c')).cell? (q10.add 2)).isSome = true ∧ ((w2.setCell q10 (.bool s)).setCell (q10.add 1) (.slice p' n' c')).frozen? (q10.add 2) = false ∧ ptrSome (some q) fun q11 => ∃ b12 : Bool, ∃ (a13 : Option Addr) (n14 c15 : Nat), ∃ i16 : Int, (((w2.setCell q10 (.bool s)).setCell (q10.add 1) (.slice p' n' c')).setCell (q10.add 2) (.int .i64 e')).cell? q11 = some (.bool b12) ∧ (((w2.setCell q10 (.bool s)).setCell (q10.add 1) (.slice p' n' c')).setCell (q10.add 2) (.int .i64 e')).cell? (q11.add 1) = some (.slice a13 n14 c15) ∧ (((w2.setCell q10 (.bool s)).setCell (q10.add 1) (.slice p' n' c')).setCell (q10.add 2) (.int .i64 e')).cell? (q11.add 2) = some (.int .i64 i16) ∧ K (.agg ⟨[(.bool b12), (.slice a13 n14 c15), (.int .i64 i16)]⟩) (((w2.setCell q10 (.bool s)).setCell (q10.add 1) (.slice p' n' c')).setCell (q10.add 2) (.int .i64 e'))) := by
    intro l' p' n' c' e' hi' hd' hn' hlo' hhi' hv hbk hpos
    by_cases h0 : n' = 0
    · subst h0
      have hl' : l' = [] := List.eq_nil_of_length_eq_zero hi'.len
      refine br_true rfl (ret3p hrow ?_)
      refine h _ _ _ _ _ _ (ext_put3 hext hq _ _ _) ?_ (Nat.zero_le _) (fun _ h => by cases h)
      rw [← hv, hl']
      have : dv s [] e' = 0 := by unfold dv; simp [valL]
      rw [this]
      exact DR.zero hB0
    · refine br_false (beq_eq_false_iff_ne.2 (by omega)) (ret3p hrow ?_)
      have hne : l' ≠ [] := by intro hh; rw [hh] at hi'; exact h0 hi'.len.symm
      refine h _ _ _ _ _ _ (ext_put3 hext hq _ _ _) ⟨⟨l', hi'.ext (ext_put3 hext hq _ _ _), hd', hv.symm, fun hh => absurd hh hne, fun _ => hpos hne⟩, hlo', hhi'⟩ hn' hbk
  -- noughts at the end
  have back : ∀ (m fu : Nat) (l' : List Int) (p' : Option Addr) (n' c' : Nat) (e' : Int), n' = m → n' < fu → Ints w p' n' l' → Dig l' → n' ≤ c' → n' ≤ n → -B ≤ e' → e' + n' ≤ B → dv s l' e' = dv s l e → (∀ a, p' = some a → ∃ b, p = some b ∧ a.block = b.block) →
      (straightedgeref02_Made.H K fu).2 s p' n' c' e' (some q) w2 := by
    intro m
    induction m with
    | zero =>
      intro fu l' p' n' c' e' hm hfu hi' hd' hc' hn' hlo' hhi' hv hbk
      obtain ⟨fu, rfl⟩ : ∃ m, fu = m + 1 := ⟨fu - 1, by omega⟩
      show straightedgeref02_Made.b4 K (straightedgeref02_Made.H K fu).1 (straightedgeref02_Made.H K fu).2 _ _ _ _ _ _ _
      unfold straightedgeref02_Made.b4
      refine dec_false (by omega) ?_
      refine fin0 l' p' n' c' e' hi' hd' hn' hlo' hhi' hv hbk fun hne => absurd (List.eq_nil_of_length_eq_zero (by rw [hi'.len]; exact hm)) hne
    | succ m ih =>
      intro fu l' p' n' c' e' hm hfu hi' hd' hc' hn' hlo' hhi' hv hbk
      obtain ⟨fu, rfl⟩ : ∃ m, fu = m + 1 := ⟨fu - 1, by omega⟩
      show straightedgeref02_Made.b4 K (straightedgeref02_Made.H K fu).1 (straightedgeref02_Made.H K fu).2 _ _ _ _ _ _ _
      unfold straightedgeref02_Made.b4
      have hlen := hi'.len
      have hlast : l' = l'.take m ++ [l'[m]] := by
        have h1 : l'.drop m = [l'[m]] := by rw [List.drop_eq_getElem_cons (by omega), List.drop_eq_nil_of_le (by omega)]
        rw [← h1, List.take_append_drop]
      obtain ⟨a, ha, hcell⟩ := hi'.at_ m l'[m] (by simp)
      replace hcell := hext.cell_of hcell
      have hw : IntKind.i64.wrap ((n' : Int) - 1) = (m : Int) := by rw [wrap_i64 (by omega) (by omega)]; omega
      rw [hw]
      refine dec_true (by omega) (ptrSome_intro ha ⟨by omega, by omega, l'[m], by simpa using hcell, ?_⟩)
      rw [beq_zero]
      by_cases hz : l'[m] = 0
      · refine dec_true hz ⟨by omega, by omega, ?_⟩
        rw [if_neg (by omega)]
        have hp : Option.map (fun x => x.add (0 * 1)) p' = p' := by rw [ha]; rfl
        rw [hp]
        have hi2 : Ints w p' m (l'.take m) := ⟨by simp; omega, fun i x hx => hi'.at_ i x (by
          rw [List.getElem?_take] at hx
          split at hx
          · exact hx
          · cases hx)⟩
        have := ih fu (l'.take m) p' m c' e' rfl (by omega) hi2 (fun d hdm => hd' d (List.mem_of_mem_take hdm)) (by omega) (by omega) hlo' (by omega)
          (by rw [← hv, ← dv_append_zero s (l'.take m) e', ← hz, ← hlast]) hbk
        simpa using this
      · have hpos : 0 < valL l' := by
          rw [hlast]
          refine valL_snoc_pos (fun d hdm => hd' d (List.mem_of_mem_take hdm)) ?_
          have h2 := hd' l'[m] (List.getElem_mem _)
          omega
        have done := fin0 l' p' n' c' e' hi' hd' hn' hlo' hhi' hv hbk fun _ => hpos
        exact dec_false hz done
  -- noughts at the head
  have main : ∀ (m fu : Nat) (l' : List Int) (p' : Option Addr) (n' c' : Nat) (e' : Int), n' = m → n' + n + 2 < fu → Ints w p' n' l' → Dig l' → n' ≤ c' → n' ≤ n → -B ≤ e' → e' + n' ≤ B → dv s l' e' = dv s l e → (∀ a, p' = some a → ∃ b, p = some b ∧ a.block = b.block) →
      (straightedgeref02_Made.H K fu).1 s p' n' c' e' (some q) w2 := by
    intro m
    induction m with
    | zero =>
      intro fu l' p' n' c' e' hm hfu hi' hd' hc' hn' hlo' hhi' hv hbk
      obtain ⟨fu, rfl⟩ : ∃ m, fu = m + 1 := ⟨fu - 1, by omega⟩
      show straightedgeref02_Made.b1 K (straightedgeref02_Made.H K fu).1 (straightedgeref02_Made.H K fu).2 _ _ _ _ _ _ _
      unfold straightedgeref02_Made.b1
      exact dec_false (by omega) (back n' fu l' p' n' c' e' rfl (by omega) hi' hd' hc' hn' hlo' hhi' hv hbk)
    | succ m ih =>
      intro fu l' p' n' c' e' hm hfu hi' hd' hc' hn' hlo' hhi' hv hbk
      obtain ⟨fu, rfl⟩ : ∃ m, fu = m + 1 := ⟨fu - 1, by omega⟩
      show straightedgeref02_Made.b1 K (straightedgeref02_Made.H K fu).1 (straightedgeref02_Made.H K fu).2 _ _ _ _ _ _ _
      unfold straightedgeref02_Made.b1
      have hlen := hi'.len
      obtain ⟨x, r, rfl⟩ : ∃ x r, l' = x :: r := by
        cases l' with
        | nil => simp at hlen; omega
        | cons x r => exact ⟨x, r, rfl⟩
      obtain ⟨a, ha, hcell⟩ := hi'.at_ 0 x rfl
      replace hcell := hext.cell_of hcell
      refine dec_true (by omega) (ptrSome_intro ha ⟨by omega, by omega, x, hcell, ?_⟩)
      rw [beq_zero]
      by_cases hz : x = 0
      · refine dec_true hz ⟨by omega, by omega, ?_⟩
        have hi2 : Ints w (if c' = Int.toNat 1 then p' else p'.map fun x => x.add (Int.toNat 1 * 1)) (n' - Int.toNat 1) r := by
          refine ⟨by simp at hlen ⊢; omega, fun i y hy => ?_⟩
          obtain ⟨b, hb, hcb⟩ := hi'.at_ (i + 1) y (by simpa using hy)
          have hlt : i < r.length := (List.getElem?_eq_some_iff.1 hy).1
          rw [if_neg (by simp at hlen ⊢; omega), hb]
          exact ⟨_, rfl, by rw [add_add]; rw [← hcb]; congr 2; simp; omega⟩
        have e1 : n' - Int.toNat 1 = m := by simp; omega
        rw [e1] at hi2 ⊢
        rw [wrap_i64 (by omega) (by omega)]
        refine ih fu r _ m _ (e' + 1) rfl (by omega) hi2 (fun d hdm => hd' d (by simp [hdm])) (by simp; omega) (by omega) (by omega) (by omega) (by rw [← hv, hz, dv_zero_cons]) ?_
        intro b hb
        split at hb
        · exact hbk b hb
        · rw [ha] at hb
          cases hb
          obtain ⟨d, hd1, hd2⟩ := hbk a ha
          exact ⟨d, hd1, by rw [add_block]; exact hd2⟩
      · exact dec_false hz (back n' fu (x :: r) p' n' c' e' rfl (by omega) hi' hd' hc' hn' hlo' hhi' hv hbk)
  exact main n (2 * n + 3) l p n c e rfl (by omega) hl hd hc (Nat.le_refl _) hlo hhi rfl fun a ha => ⟨a, ha, rfl⟩
end Go.Proofs.Ytgdkahbnepafgaa

/-! ### AKview -/
set_option maxRecDepth 100000
set_option maxHeartbeats 1000000
set_option linter.unusedVariables false
namespace Go.Proofs.Ytgdkahbnepafgaa
open Go Go.Wk Go.RowKit Ieee
attribute [local irreducible] br

theorem view_fits.ct {size off steps step more : Int} {w : World} {K : Value → World → Prop} (h1 : 0 ≤ size) (h2 : size < 4611686018427387904) (h3 : I64 off) (h4 : 0 ≤ steps) (h5 : I64 steps)
    (h6 : 1 ≤ step) (h7 : I64 step) (h8 : 0 ≤ more) (h9 : I64 more) (h : K (.bool (decide (0 ≤ off ∧ off + steps * step + more < size))) w) :
    view_fits.call [.int .i64 size, .int .i64 off, .int .i64 steps, .int .i64 step, .int .i64 more] w K := by
  unfold I64 at *
  have hm := Int.mul_nonneg h4 (show 0 ≤ step by omega)
  refine view_fits.ok ?_
  unfold view_fits.x
  have no : ¬ (0 ≤ off ∧ off + steps * step + more < size) → K (.bool false) w := fun hn => by rwa [decide_eq_false hn] at h
  refine br_d (fun c => no (by omega)) (fun c1 => br_d (fun c => no (by omega)) (fun c2 => ?_))
  rw [wrap_i64 (z := size - off) (by omega) (by omega)]
  refine br_d (fun c => no (by omega)) (fun c3 => eq_false' (by omega) ?_)
  rw [wrap_i64 (z := size - 1) (by omega) (by omega), wrap_i64 (z := size - 1 - off) (by omega) (by omega), wrap_i64 (z := size - 1 - off - more) (by omega) (by omega),
    Int.tdiv_eq_ediv_of_nonneg (by omega)]
  have hd : 0 ≤ (size - 1 - off - more) / step := Int.ediv_nonneg (by omega) (by omega)
  have hd2 : (size - 1 - off - more) / step ≤ size - 1 - off - more := Int.ediv_le_self _ (by omega)
  rw [wrap_i64 (by omega) (by omega)]
  have := @ediv_steps steps step (size - 1 - off - more) h6
  have e : (steps ≤ (size - 1 - off - more) / step) ↔ (0 ≤ off ∧ off + steps * step + more < size) := by rw [this]; omega
  rw [show decide (steps ≤ (size - 1 - off - more) / step) = decide (0 ≤ off ∧ off + steps * step + more < size) from decide_eq_decide.2 e]
  exact h

theorem view_Good.ct {p : Option Addr} {n c : Nat} {off rows cols ld : Int} {w : World} {K : Value → World → Prop} (hn : n < 4611686018427387904) (ho : I64 off) (hr : I64 rows) (hc : I64 cols) (hl : I64 ld)
    (h : ∀ w', Ext w w' → K (.bool (goodB n off rows cols ld)) w') : view_Good.call [matV p n c off rows cols ld] w K := by
  unfold I64 at *
  refine view_Good.os ?_
  unfold view_Good.s
  intro k3 w2 hk _ e2
  have no : ¬ GoodM n off rows cols ld → K (.bool false) w2 := fun hn => by have := h w2 e2; rwa [good_no hn] at this
  have yes : GoodM n off rows cols ld → K (.bool true) w2 := fun hn => by have := h w2 e2; rwa [good_yes hn] at this
  refine br_d (fun c => no (by unfold GoodM; omega)) fun c1 => br_d (fun c => no (by unfold GoodM; omega)) fun c2 => br_d (fun c => no (by unfold GoodM; omega)) fun c3 =>
    br_d (fun c => no (by unfold GoodM; omega)) fun c4 => br_d (fun c => no (by unfold GoodM; omega)) fun c5 => br_e (fun c => yes (by unfold GoodM; omega)) fun c6 => br_e (fun c => yes (by unfold GoodM; omega)) fun c7 => ?_
  rw [wrap_i64 (by omega) (by omega), wrap_i64 (by omega) (by omega)]
  refine view_fits.ct (by omega) (by omega) ho (by omega) (by unfold I64; omega) (by omega) hl (by omega) (by unfold I64; omega) ⟨.inl (Ext.refl _), _, rfl, ?_⟩
  have e : (0 ≤ off ∧ off + (cols - 1) * ld + (rows - 1) < n) ↔ GoodM n off rows cols ld := by unfold GoodM; omega
  have := h w2 e2
  unfold goodB at this
  rw [← decide_eq_decide.2 e] at this
  exact this

theorem view_Right.ct {p : Option Addr} {n c : Nat} {off len inc : Int} {w : World} {K : Value → World → Prop} (hn : n < 4611686018427387904) (ho : I64 off) (hr : I64 len) (hc : I64 inc)
    (h : ∀ w', Ext w w' → K (.bool (rightB n off len inc)) w') : view_Right.call [vecV p n c off len inc] w K := by
  unfold I64 at *
  refine view_Right.os ?_
  unfold view_Right.s
  intro k3 w2 hk _ e2
  have no : ¬ RightV n off len inc → K (.bool false) w2 := fun hn => by have := h w2 e2; unfold rightB at this; rwa [decide_eq_false hn] at this
  have yes : RightV n off len inc → K (.bool true) w2 := fun hn => by have := h w2 e2; unfold rightB at this; rwa [decide_eq_true hn] at this
  refine br_d (fun c => no (by unfold RightV; omega)) fun c1 => br_d (fun c => no (by unfold RightV; omega)) fun c2 => br_d (fun c => no (by unfold RightV; omega)) fun c3 =>
    br_e (fun c => yes (by unfold RightV; omega)) fun c4 => ?_
  rw [wrap_i64 (by omega) (by omega)]
  refine view_fits.ct (by omega) (by omega) ho (by omega) (by unfold I64; omega) (by omega) hc (by omega) (by unfold I64; omega) ⟨.inl (Ext.refl _), _, rfl, ?_⟩
  have e : (0 ≤ off ∧ off + (len - 1) * inc + 0 < n) ↔ RightV n off len inc := by unfold RightV; omega
  have := h w2 e2
  unfold rightB at this
  rw [← decide_eq_decide.2 e] at this
  exact this

/-- A place within a matrix. -/
theorem view_place.ct {p : Option Addr} {n c : Nat} {off rows cols ld i j : Int} {w : World} {K : Value → World → Prop} (hn : n < 4611686018427387904) (g : GoodM n off rows cols ld) (hl : I64 ld) (hi0 : 0 ≤ i) (hi : i < rows) (hj0 : 0 ≤ j) (hj : j < cols)
    (h : ∀ w', Ext w w' → K (.int .i64 (off + i + j * ld)) w') : view_place.call [matV p n c off rows cols ld, .int .i64 i, .int .i64 j] w K := by
  have hp := place_lt g hi0 hi hj0 hj
  have g' := g
  obtain ⟨g1, g2, g3, g4, g5, g6⟩ := g'
  have hld := hl.hi
  have hcol : cols - 1 ≤ (cols - 1) * ld := by
    have := Int.mul_le_mul_of_nonneg_left g4 (show 0 ≤ cols - 1 by omega)
    omega
  refine view_place.os ?_
  unfold view_place.s
  intro k3 w2 hk _ e2
  refine view_Good.ct hn (by unfold I64; omega) (by unfold I64; omega) (by unfold I64; omega) hl fun w3 e3 => ⟨.inl e3, _, rfl, ?_⟩
  rw [good_yes g]
  refine br_false rfl (dec_false (by omega) (dec_false (by omega) (dec_false (by omega) (dec_false (by omega) ?_))))
  rw [wrap_i64 (z := off + i) (by omega) (by omega), wrap_i64 (z := j * ld) (by omega) (by omega), wrap_i64 (by omega) (by omega)]
  exact h _ (e2.trans e3)

/-- A number of a matrix. -/
theorem view_At.ct {p : Option Addr} {c : Nat} {off rows cols ld i j : Int} {xs : List Nat} {w : World} {K : Value → World → Prop} (hx : Flw w p xs) (hn : xs.length < 4611686018427387904) (g : GoodM xs.length off rows cols ld) (hl : I64 ld)
    (hi0 : 0 ≤ i) (hi : i < rows) (hj0 : 0 ≤ j) (hj : j < cols)
    (h : ∀ w', Ext w w' → K (.float .f64 (xs.getD (off + i + j * ld).toNat 0)) w') : view_At.call [matV p xs.length c off rows cols ld, .int .i64 i, .int .i64 j] w K := by
  have hp := place_lt g hi0 hi hj0 hj
  refine view_At.os ?_
  unfold view_At.s
  intro k3 w2 hk _ e2
  refine view_place.ct hn g hl hi0 hi hj0 hj fun w3 e3 => ⟨.inl e3, _, rfl, ?_⟩
  have e := e2.trans e3
  obtain ⟨a, ha, hc, _⟩ := (hx.ext e).get (i := (off + i + j * ld).toNat) (by omega)
  exact dec_true (by omega) (ptrSome_intro ha ⟨by omega, by omega, rd_f64.of hc (h _ e)⟩)

theorem view_span.ct {p : Option Addr} {n c : Nat} {off rows cols ld : Int} {w : World} {K : Value → World → Prop} (hn : n < 4611686018427387904) (g : GoodM n off rows cols ld) (ho : I64 off) (hr : I64 rows) (hc : I64 cols) (hl : I64 ld)
    (h : ∀ w' a b, Ext w w' → (rows ≠ 0 → cols ≠ 0 → a = off ∧ b = off + (cols - 1) * ld + rows - 1) → K (.tuple ⟨[.int .i64 a, .int .i64 b, .bool (decide (rows ≠ 0 ∧ cols ≠ 0))]⟩) w') :
    view_span.call [matV p n c off rows cols ld] w K := by
  unfold I64 at *
  refine view_span.os ?_
  unfold view_span.s
  intro k3 w2 hk _ e2
  refine view_Good.ct hn ho hr hc hl fun w3 e3 => ⟨.inl e3, _, rfl, ?_⟩
  rw [good_yes g]
  refine br_false rfl (br_e (fun c1 => ?_) fun c1 => br_e (fun c2 => ?_) fun c2 => ?_)
  · have := h w3 0 0 (e2.trans e3) (fun h' => absurd c1 h')
    rwa [decide_eq_false (by omega)] at this
  · have := h w3 0 0 (e2.trans e3) (fun _ h' => absurd c2 h')
    rwa [decide_eq_false (by omega)] at this
  · obtain ⟨g1, g2, g3, g4, g5, g6⟩ := g
    have hcol : cols - 1 ≤ (cols - 1) * ld := by
      have := Int.mul_le_mul_of_nonneg_left g4 (show 0 ≤ cols - 1 by omega)
      omega
    have := h w3.drew off (off + (cols - 1) * ld + rows - 1) ((e2.trans e3).trans (Ext.drew _)) (fun _ _ => ⟨rfl, rfl⟩)
    rw [decide_eq_true ⟨c1, c2⟩] at this
    rw [wrap_i64 (z := cols - 1) (by omega) (by omega), wrap_i64 (z := (cols - 1) * ld) (by omega) (by omega), wrap_i64 (z := off + _) (by omega) (by omega), wrap_i64 (z := _ + rows) (by omega) (by omega), wrap_i64 (by omega) (by omega)]
    exact this

theorem view_Col.ct {p : Option Addr} {n c : Nat} {off rows cols ld j : Int} {w : World} {K : Value → World → Prop} (hn : n < 4611686018427387904) (g : GoodM n off rows cols ld) (ho : I64 off) (hr : I64 rows) (hc : I64 cols) (hl : I64 ld)
    (hj0 : 0 ≤ j) (hj : j < cols) (h : ∀ w', Ext w w' → K (vecV p n c (if 0 < rows then off + j * ld else off) rows 1) w') :
    view_Col.call [matV p n c off rows cols ld, .int .i64 j] w K := by
  unfold I64 at *
  refine view_Col.os ?_
  unfold view_Col.s
  intro k3 w2 hk3 _ e2 k7 w6 hk7 _ e6
  refine view_Good.ct hn ho hr hc hl fun w17 e17 => ⟨.inl e17, _, rfl, ?_⟩
  rw [good_yes g]
  refine br_false rfl (dec_false (by omega) (dec_false (by omega) ?_))
  intro k48 w47 hk48 _ e47 w50 e50
  refine br_d (fun c1 => ?_) (fun c1 => ?_)
  · intro w54 e54 w61 e61
    have hp := place_lt g (Int.le_refl 0) (by omega) hj0 hj
    rw [wrap_i64 (z := j * ld) (by omega) (by omega), wrap_i64 (by omega) (by omega)]
    have hh := h w61 (by grind [Ext.trans, Exc.ext, Ext.size, Exc.size])
    rw [if_pos (by omega)] at hh
    exact hh
  · intro w74 e74
    have hh := h w74 (by grind [Ext.trans, Exc.ext, Ext.size, Exc.size])
    rw [if_neg (by omega)] at hh
    exact hh
end Go.Proofs.Ytgdkahbnepafgaa

/-! ### AKview2 -/
set_option maxRecDepth 100000
set_option maxHeartbeats 1000000
set_option linter.unusedVariables false
namespace Go.Proofs.Ytgdkahbnepafgaa
open Go Go.Wk Go.RowKit Ieee
attribute [local irreducible] br

theorem view_Row.ct {p : Option Addr} {n c : Nat} {off rows cols ld i : Int} {w : World} {K : Value → World → Prop} (hn : n < 4611686018427387904) (g : GoodM n off rows cols ld) (ho : I64 off) (hr : I64 rows) (hc : I64 cols) (hl : I64 ld)
    (hi0 : 0 ≤ i) (hi : i < rows) (h : ∀ w', Ext w w' → K (vecV p n c (if 0 < cols then off + i else off) cols ld) w') :
    view_Row.call [matV p n c off rows cols ld, .int .i64 i] w K := by
  unfold I64 at *
  refine view_Row.os ?_
  unfold view_Row.s
  intro k3 w2 hk3 _ e2 k7 w6 hk7 _ e6
  refine view_Good.ct hn ho hr hc hl fun w17 e17 => ⟨.inl e17, _, rfl, ?_⟩
  rw [good_yes g]
  refine br_false rfl (dec_false (by omega) (dec_false (by omega) ?_))
  intro k49 w48 hk49 _ e48 w51 e51
  refine br_d (fun c1 => ?_) (fun c1 => ?_)
  · intro w54 e54 w61 e61
    have hp := place_lt g hi0 hi (Int.le_refl 0) (by omega)
    rw [wrap_i64 (by omega) (by omega)]
    have hh := h w61 (by grind [Ext.trans, Exc.ext, Ext.size, Exc.size])
    rw [if_pos (by omega)] at hh
    exact hh
  · intro w74 e74
    have hh := h w74 (by grind [Ext.trans, Exc.ext, Ext.size, Exc.size])
    rw [if_neg (by omega)] at hh
    exact hh

theorem view_Part.ct {p : Option Addr} {n c : Nat} {off rows cols ld i j r s : Int} {w : World} {K : Value → World → Prop} (hn : n < 4611686018427387904) (g : GoodM n off rows cols ld) (ho : I64 off) (hr : I64 rows) (hc : I64 cols) (hl : I64 ld)
    (hi0 : 0 ≤ i) (hr0 : 0 < r) (hi : i + r ≤ rows) (hj0 : 0 ≤ j) (hs0 : 0 < s) (hj : j + s ≤ cols) (h : ∀ w', Ext w w' → K (matV p n c (off + i + j * ld) r s ld) w') :
    view_Part.call [matV p n c off rows cols ld, .int .i64 i, .int .i64 j, .int .i64 r, .int .i64 s] w K := by
  unfold I64 at *
  have hp := place_lt g hi0 (show i < rows by omega) hj0 (show j < cols by omega)
  refine view_Part.os ?_
  unfold view_Part.s
  intro k3 w2 hk3 _ e2 k7 w6 hk7 _ e6
  refine view_Good.ct hn ho hr hc hl fun w17 e17 => ⟨.inl e17, _, rfl, ?_⟩
  rw [good_yes g]
  have h1 := g.1
  have h2 := g.2.1
  refine br_false rfl (dec_false (by omega) (dec_false (by omega) (dec_false (by omega) (dec_false (by omega) ?_))))
  rw [wrap_i64 (z := rows - i) (by omega) (by omega)]
  refine dec_false (by omega) ?_
  rw [wrap_i64 (z := cols - j) (by omega) (by omega)]
  refine dec_false (by omega) ?_
  intro k84 w83 hk84 _ e83 w86 e86
  refine dec_true (by omega) (dec_true (by omega) ?_)
  intro w89 e89 w97 e97
  have e1 : IntKind.i64.wrap (i + IntKind.i64.wrap (j * ld)) = i + j * ld := by
    rw [wrap_i64 (z := j * ld) (by omega) (by omega), wrap_i64 (by have := g.2.2.1; omega) (by have := g.2.2.1; omega)]
  rw [e1, wrap_i64 (by omega) (by omega)]
  have hh := h w97 (by grind [Ext.trans, Exc.ext, Ext.size, Exc.size])
  rw [Int.add_assoc] at hh
  exact hh

theorem tPtr_is : prog.underlying 101 = some (.pointer 38) := by kernel_rfl
theorem tF_size : szOf prog 38 = some 1 := by kernel_rfl

/-- Two matrices in blocks of their own do not meet. -/
theorem view_Meet.ct {p1 p2 : Option Addr} {n1 c1 n2 c2 : Nat} {off1 rows1 cols1 ld1 off2 rows2 cols2 ld2 : Int} {w : World} {K : Value → World → Prop}
    (hn1 : n1 < 4611686018427387904) (g1 : GoodM n1 off1 rows1 cols1 ld1) (hl1 : I64 ld1) (hr1 : I64 rows1) (hc1 : I64 cols1) (ho1 : I64 off1)
    (hn2 : n2 < 4611686018427387904) (g2 : GoodM n2 off2 rows2 cols2 ld2) (hl2 : I64 ld2) (hr2 : I64 rows2) (hc2 : I64 cols2) (ho2 : I64 off2)
    (hp1 : n1 ≠ 0 → ∃ a, p1 = some a ∧ Plain w a) (hp2 : n2 ≠ 0 → ∃ a, p2 = some a ∧ Plain w a) (hne : ∀ a b, p1 = some a → p2 = some b → a.block ≠ b.block)
    (h : ∀ w', Ext w w' → K (.bool false) w') : view_Meet.call [matV p1 n1 c1 off1 rows1 cols1 ld1, matV p2 n2 c2 off2 rows2 cols2 ld2] w K := by
  refine view_Meet.os ?_
  unfold view_Meet.s
  intro k3 w2 hk3 _ e2 k7 w6 hk7 _ e6
  refine view_span.ct hn1 g1 ho1 hr1 hc1 hl1 fun w17 a1 b1 e17 f1 => ⟨.inl e17, _, _, _, rfl, ?_⟩
  refine view_span.ct hn2 g2 ho2 hr2 hc2 hl2 fun w29 a2 b2 e29 f2 => ⟨.inl e29, _, _, _, rfl, ?_⟩
  have e : Ext w w29.drew := by grind [Ext.trans, Ext.drew]
  refine br_d (fun c1 => br_d (fun c2 => ?_) (fun _ => h _ e)) (fun _ => h _ e)
  have h1 := g1
  have h2 := g2
  unfold GoodM at h1 h2
  have q1 : n1 ≠ 0 := by
    intro hz
    have := place_lt g1 (Int.le_refl 0) (by omega) (Int.le_refl 0) (by omega)
    omega
  have q2 : n2 ≠ 0 := by
    intro hz
    have := place_lt g2 (Int.le_refl 0) (by omega) (Int.le_refl 0) (by omega)
    omega
  obtain ⟨x1, rfl, pl1⟩ := hp1 q1
  obtain ⟨x2, rfl, pl2⟩ := hp2 q2
  refine ptrSome_intro rfl ⟨by omega, by omega, ptrSome_intro rfl ⟨by omega, by omega, ?_⟩⟩
  refine ptr_eq tPtr_is tF_size (by omega) ((pl1.ext e).add _) ((pl2.ext e).add _) ⟨.inl (Ext.refl _), _, rfl, ?_⟩
  rw [decide_eq_false (by
    intro hh
    have := congrArg Addr.block hh
    rw [add_block, add_block] at this
    exact hne x1 x2 rfl rfl this)]
  exact br_false rfl (h _ e)
end Go.Proofs.Ytgdkahbnepafgaa

/-! ### AKview3 -/
set_option maxRecDepth 100000
set_option maxHeartbeats 1000000
set_option linter.unusedVariables false
namespace Go.Proofs.Ytgdkahbnepafgaa
open Go Go.Wk Go.RowKit Ieee
attribute [local irreducible] br

/-! ### types of floats and lists of them -/
abbrev tF : TypeId := 38
abbrev tFs : TypeId := 22
theorem tFs_is : prog.underlying tFs = some (.slice tF) := by kernel_rfl
theorem tF_is : prog.info? tF = some ((prog.info? tF).get (by kernel_rfl)) := by kernel_rfl
theorem tF_zero : ((prog.info? tF).get (by kernel_rfl)).zero = some (.float .f64 0) := by kernel_rfl
theorem tF_size1 : ((prog.info? tF).get (by kernel_rfl)).size = 1 := by kernel_rfl
theorem tF_bytes : ((prog.info? tF).get (by kernel_rfl)).bytes = 8 := by kernel_rfl

theorem appF {tb : TypeId} {w : World} {p : Option Addr} {n c base : Nat} {xs : List Nat} {x : Nat} {R : Option Addr → Nat → Nat → World → Prop} {ks : List Nat}
    (hown : Own w base tF p n c (xs.map fun x => .float .f64 x)) (hbase : base ≤ w.heap.size) (hn : n < 8796093022300) (hks : ∀ k ∈ ks, k < w.heap.size ∧ ∀ a, p = some a → a.block ≠ k)
    (h : ∀ p' c' w', GrowP p w w' → Own w' base tF p' (n + 1) c' ((xs ++ [x]).map fun x => .float .f64 x) → (∀ a, p' = some a → (∃ b, p = some b ∧ a.block = b.block) ∨ w.heap.size ≤ a.block) → R p' (n + 1) c' w') :
    newB [.float .f64 x] tb w fun q w2 => Raw prog (Builtin.append_ #[22, 22] 22 ⟨[.slice p n c, .slice (some q) 1 1]⟩) w2 fun v w3 => Stay ks w2 w3 ∧ ∃ (a : Option Addr) (m d : Nat), v = .slice a m d ∧ R a m d w3 :=
  app_x (t := tFs) (e := tF) tFs_is tF_is tF_zero tF_size1 tF_bytes rfl hown hbase rfl (by omega) (by omega) hks fun p' c' w' h1 h2 h3 => h p' c' w' h1 (by simpa using h2) h3

theorem zerosF (n : Nat) : ((List.range n).map fun j => List.getD [(.float .f64 0 : Value)] (j % 1) default) = (List.replicate n 0).map fun x => .float .f64 x := by
  apply List.ext_getElem
  · simp
  · intro i h1 h2; simp [Nat.mod_one]

/-- What a new matrix holds. -/
def denseL (cols ld : Nat) : Nat → List Nat → List Nat → List Nat
  | _, [], xs => xs
  | k, x :: r, xs => denseL cols ld (k + 1) r (xs.set (k / cols + k % cols * ld) x)

theorem denseL_snoc (cols ld : Nat) : ∀ (l : List Nat) (k : Nat) (xs : List Nat) (x : Nat), denseL cols ld k (l ++ [x]) xs = (denseL cols ld k l xs).set ((k + l.length) / cols + (k + l.length) % cols * ld) x
  | [], k, xs, x => rfl
  | y :: l, k, xs, x => by
    simp only [List.cons_append, denseL, List.length_cons]
    rw [denseL_snoc cols ld l]
    congr 2 <;> rw [show k + 1 + l.length = k + (l.length + 1) by omega]
theorem denseL_length (cols ld : Nat) : ∀ (l : List Nat) (k : Nat) (xs : List Nat), (denseL cols ld k l xs).length = xs.length
  | [], _, _ => rfl
  | _ :: l, k, xs => by simp only [denseL]; rw [denseL_length cols ld l]; simp

theorem view_Dense.ct {r s : Nat} {p : Option Addr} {n c : Nat} {ls : List Nat} {w : World} {K : Value → World → Prop} (hr : r ≤ 64) (hs : s ≤ 64) (hl : Flw w p ls) (hln : ls.length = n) (hnc : n ≤ c) (hn : n ≤ r * s)
    (h : ∀ q w', w.heap.size ≤ q.block → Ext w w' → FBlk w' q (denseL s (max r 1) 0 ls (List.replicate (r * s) 0)) → K (matV (some q) (r * s) (r * s) 0 r s ((max r 1 : Nat) : Int)) w') :
    view_Dense.call [.int .i64 (r : Int), .int .i64 (s : Int), .slice p n c] w K := by
  have hrs : r * s ≤ 4096 := by
    have := Nat.mul_le_mul hr hs
    omega
  refine view_Dense.os (n + 1) ?_
  unfold view_Dense.s
  intro k3 w2 hk3 _ e2
  refine dec_false (by omega) (dec_false (by omega) (dec_false (by omega) (dec_false (by omega) ?_)))
  have ew : IntKind.i64.wrap ((r : Int) * (s : Int)) = ((r * s : Nat) : Int) := by rw [← Int.natCast_mul, wrap_i64 (by omega) (by omega)]
  rw [ew, Int.toNat_natCast]
  refine ⟨by omega, by omega, by omega, by omega, ?_⟩
  rw [zerosF]
  refine newB_blk fun q w38 hq _ e38 hb => ?_
  intro k41 w40 hk41 _ e40 w43 e43
  have emin : (if ((r * s : Nat) : Int) < (n : Int) then ((r * s : Nat) : Int) else (n : Int)) = (n : Int) := by
    split <;> omega
  have eld : (if 1 > (r : Int) then 1 else (r : Int)) = ((max r 1 : Nat) : Int) := by split <;> omega
  rw [emin, eld, add0_if, Int.toNat_natCast, Nat.sub_zero, Nat.sub_zero]
  refine ⟨by omega, by omega, ?_⟩
  have b0 : FBlk w43 q (List.replicate (r * s) 0) := by
    refine (FBlk.ext (w' := w40) ⟨hb, ?_⟩ e40).exc e43 (by omega)
    intro x hx; rw [List.eq_of_mem_replicate hx]; decide
  have e0 : Ext w w43 := by grind [Ext.trans, Exc.ext, Ext.size, Exc.size]
  have main : ∀ (d i fu : Nat) (w5 : World), i + d = n → d < fu → Ext w w5 → k3 < w5.heap.size → k41 < w5.heap.size → FBlk w5 q (denseL s (max r 1) 0 (ls.take i) (List.replicate (r * s) 0)) →
      view_Dense.d5 K fu (s : Int) k3 none 0 0 0 0 0 0 k41 (some q) (r * s) (r * s) 0 (r : Int) (s : Int) ((max r 1 : Nat) : Int) p n c (n : Int) (i : Int) w5 := by
    intro d
    induction d with
    | zero =>
      intro i fu w5 hi hfu e5 hk3' hk41' hb5
      obtain ⟨fu, rfl⟩ : ∃ m, fu = m + 1 := ⟨fu - 1, by omega⟩
      refine dec_false (by omega) ?_
      intro w21 e21
      rw [List.take_of_length_le (by omega)] at hb5
      exact h q w21 (by have := e2.size; omega) (e21.ext e5 (by omega)) (hb5.exc e21 (by omega))
    | succ d ih =>
      intro i fu w5 hi hfu e5 hk3' hk41' hb5
      obtain ⟨fu, rfl⟩ : ∃ m, fu = m + 1 := ⟨fu - 1, by omega⟩
      have hil : i < ls.length := by omega
      obtain ⟨a, ha, hc, hx⟩ := (hl.ext e5).get hil
      have hs0 : s ≠ 0 := by intro hz; subst hz; omega
      have hr0 : r ≠ 0 := by intro hz; subst hz; omega
      refine dec_true (by omega) (ptrSome_intro ha ⟨by omega, by omega, rd_f64.of (by rw [Int.toNat_natCast]; exact hc) (eq_false' (by omega) (eq_false' (by omega) (ptrSome_intro rfl ?_)))⟩)
      have hdiv : i / s < r := Nat.div_lt_of_lt_mul (by rw [Nat.mul_comm]; omega)
      have hmod : i % s < s := Nat.mod_lt _ (by omega)
      have hmax : max r 1 = r := by omega
      have hpl := mx_lt (n := r) (m := s) hdiv hmod
      have hmm : i % s * r ≤ 4096 := by
        have : i % s * r ≤ s * r := Nat.mul_le_mul_right _ (by omega)
        rw [Nat.mul_comm s r] at this
        omega
      have ep : IntKind.i64.wrap (IntKind.i64.wrap (Int.tdiv (i : Int) (s : Int)) + IntKind.i64.wrap (Int.tmod (i : Int) (s : Int) * ((max r 1 : Nat) : Int))) = ((i / s + i % s * max r 1 : Nat) : Int) := by
        rw [tdivN, tmodN, hmax, ← Int.natCast_mul]
        clear hpl hmod
        generalize i / s = A at *
        generalize i % s * r = B at *
        rw [wrap_i64 (z := (B : Int)) (by omega) (by omega), wrap_i64 (z := (A : Int)) (by omega) (by omega), wrap_i64 (by omega) (by omega)]
        omega
      rw [ep, Int.toNat_natCast]
      refine ⟨Int.natCast_nonneg _, by rw [hmax]; exact Int.ofNat_lt.2 hpl, ?_⟩
      refine (hb5.ext (Ext.drew _)).put (by rw [denseL_length, List.length_replicate, hmax]; exact hpl) hx fun w11 e11 hs11 hb11 => ⟨?_, ?_⟩
      · exact e11.keep2 hk3' (by have := e2.size; omega) hk41' (by omega)
      · have e9 : IntKind.i64.wrap ((i : Int) + 1) = ((i + 1 : Nat) : Int) := by rw [wrap_i64 (by omega) (by omega)]; omega
        rw [e9]
        refine ih (i + 1) fu w11 (by omega) (by omega) (e11.ext (e5.trans (Ext.drew _)) (by have := e2.size; omega)) (by rw [hs11]; exact hk3') (by rw [hs11]; exact hk41') ?_
        have et : ls.take (i + 1) = ls.take i ++ [ls.getD i 0] := by
          rw [List.take_add_one]; simp [List.getD, hil]
        rw [et, denseL_snoc]
        simpa [Nat.min_eq_left (show i ≤ ls.length by omega)] using hb11
  exact main n 0 (n + 1) w43 (by omega) (by omega) e0 (by have := e38.size; have := e40.size; have := e43.size; omega) (by have := e43.size; omega) b0

/-- All numbers of a matrix. -/
theorem view_Numbers.ct {p : Option Addr} {c : Nat} {off ld : Int} {rows cols : Nat} {xs : List Nat} {w : World} {K : Value → World → Prop} (hx : Flw w p xs) (hn : xs.length < 4611686018427387904)
    (g : GoodM xs.length off rows cols ld) (ho : I64 off) (hl : I64 ld) (hr : rows ≤ 1048576) (hc : cols ≤ 1048576)
    (h : ∀ p' n' c' w' base, Ext w w' → w.heap.size ≤ base → n' = rows * cols → Own w' base tF p' n' c' ((numsL (fun i j => xs.getD (off + i + j * ld).toNat 0) rows (rows * cols)).map fun x => .float .f64 x) → K (.slice p' n' c') w') :
    view_Numbers.call [matV p xs.length c off rows cols ld] w K := by
  have hrc : rows * cols ≤ 1099511627776 := by
    have := Nat.mul_le_mul hr hc
    omega
  have g' := g
  unfold GoodM at g'
  have ho' := ho
  have hl' := hl
  unfold I64 at ho' hl'
  refine view_Numbers.os (cols * (rows + 2) + 2) ?_
  unfold view_Numbers.s
  intro k3 w2 hk3 hk3' e2
  refine view_span.ct hn g ho (by unfold I64; omega) (by unfold I64; omega) hl fun w3 a b e3 hab => ⟨.inl e3, _, _, _, rfl, ?_⟩
  have e03 := e2.trans e3
  by_cases hz : (rows : Int) ≠ 0 ∧ (cols : Int) ≠ 0
  case neg =>
    rw [decide_eq_false hz]
    refine br_true rfl ?_
    have hzero : rows * cols = 0 := by
      by_cases h0 : rows = 0
      · rw [h0, Nat.zero_mul]
      · have : cols = 0 := by omega
        rw [this, Nat.mul_zero]
    refine h none 0 0 w3 w.heap.size e03 (Nat.le_refl _) hzero.symm ?_
    rw [hzero]
    exact Own.nil _ _ _
  rw [decide_eq_true hz]
  refine br_false rfl ?_
  obtain ⟨f, hf⟩ : ∃ f : Nat → Nat → Nat, f = fun (i j : Nat) => xs.getD (off + (i : Int) + (j : Int) * ld).toNat 0 := ⟨_, rfl⟩
  rw [← hf] at h
  obtain ⟨base, hbase⟩ : ∃ base, base = w3.heap.size := ⟨_, rfl⟩
  have hb0 : w.heap.size ≤ base := by have := e03.size; omega
  have hbk : k3 < base := by have := e3.size; omega
  -- the columns
  have main : ∀ (d j fu : Nat) (po : Option Addr) (co : Nat) (w5 : World), j + d = cols → d * (rows + 2) + 1 ≤ fu → Ext w w5 → base ≤ w5.heap.size →
      Own w5 base tF po (j * rows) co ((numsL f rows (j * rows)).map fun x => .float .f64 x) →
      (view_Numbers.I K fu).1 k3 p xs.length c off rows cols ld po (j * rows) co (cols : Int) (j : Int) w5 := by
    intro d
    induction d with
    | zero =>
      intro j fu po co w5 hj hfu e5 hb5 hown
      obtain ⟨fu, rfl⟩ : ∃ m, fu = m + 1 := ⟨fu - 1, by omega⟩
      show view_Numbers.e6 K (view_Numbers.I K fu).1 (view_Numbers.I K fu).2 _ _ _ _ _ _ _ _ _ _ _ _ _ _
      unfold view_Numbers.e6
      refine dec_false (by omega) ?_
      have hjc : j = cols := by omega
      subst hjc
      refine h po _ co w5 base e5 hb0 (Nat.mul_comm _ _) ?_
      rw [Nat.mul_comm rows j]; exact hown
    | succ d ih =>
      intro j fu po co w5 hj hfu e5 hb5 hown
      have hfu' : d * (rows + 2) + (rows + 2) + 1 ≤ fu := by rw [Nat.succ_mul] at hfu; exact hfu
      obtain ⟨fu, rfl⟩ : ∃ m, fu = m + 1 := ⟨fu - 1, by omega⟩
      show view_Numbers.e6 K (view_Numbers.I K fu).1 (view_Numbers.I K fu).2 _ _ _ _ _ _ _ _ _ _ _ _ _ _
      unfold view_Numbers.e6
      refine dec_true (by omega) (view_Col.ct hn g ho (by unfold I64; omega) (by unfold I64; omega) hl (by omega) (by omega) fun w10 e10 => ⟨.inl e10, _, _, _, _, _, _, rfl, ?_⟩)
      rw [if_pos (by omega)]
      intro k19 w18 hk19 hk19' e18 w21 e21
      have own10 := hown.ext e10
      have own18 := own10.ext e18
      have hfr : ∀ a, po = some a → a.block ≠ k19 := fun a ha => by
        subst ha
        have := (World.ownsRow.lt own10 a.block rfl).2
        omega
      have e5' : Ext w w21 := by grind [Ext.trans, Exc.ext, Ext.size, Exc.size]
      have hown21 : Own w21 base tF po (j * rows) co ((numsL f rows (j * rows)).map fun x => .float .f64 x) := by
        refine ⟨own18.1, ?_⟩
        rcases own18.2 with h1 | ⟨g1, cap, cur, hv, hb, hg, r⟩
        · exact .inl h1
        · refine .inr ⟨g1, cap, cur, hv, hb, ?_, r⟩
          rw [e21.block g1 (Array.getElem?_eq_some_iff.1 hg).1 (by
            have := hfr ⟨g1, 0, none⟩ (by cases hv; rfl)
            exact this)]
          exact hg
      have hk21 : k19 < w21.heap.size := by have := e21.size; omega
      -- a column's numbers
      have inner : ∀ (t i fu' : Nat) (po' : Option Addr) (co' : Nat) (w7 : World), i + t = rows → d * (rows + 2) + t + 2 ≤ fu' → Ext w w7 → base ≤ w7.heap.size → k19 < w7.heap.size →
          (∀ a, po' = some a → a.block ≠ k19) → Own w7 base tF po' (j * rows + i) co' ((numsL f rows (j * rows + i)).map fun x => .float .f64 x) →
          (view_Numbers.I K fu').2 k3 p xs.length c off rows cols ld po' (j * rows + i) co' k19 p xs.length c (off + (j : Int) * ld) rows 1 (cols : Int) (j : Int) (rows : Int) (i : Int) w7 := by
        intro t
        induction t with
        | zero =>
          intro i fu' po' co' w7 hi hfu' e7 hb7 hk7 hne hown7
          obtain ⟨fu', rfl⟩ : ∃ m, fu' = m + 1 := ⟨fu' - 1, by omega⟩
          show view_Numbers.e10 K (view_Numbers.I K fu').1 (view_Numbers.I K fu').2 _ _ _ _ _ _ _ _ _ _ _ _ _ _ _ _ _ _ _ _ _ _ _
          unfold view_Numbers.e10
          refine dec_false (by omega) ?_
          have e9 : IntKind.i64.wrap ((j : Int) + 1) = ((j + 1 : Nat) : Int) := by rw [wrap_i64 (by omega) (by omega)]; omega
          rw [e9]
          have en : j * rows + i = (j + 1) * rows := by rw [Nat.succ_mul]; omega
          rw [en] at hown7 ⊢
          exact ih (j + 1) fu' po' co' w7 (by omega) (by omega) e7 hb7 hown7
        | succ t iht =>
          intro i fu' po' co' w7 hi hfu' e7 hb7 hk7 hne hown7
          obtain ⟨fu', rfl⟩ : ∃ m, fu' = m + 1 := ⟨fu' - 1, by omega⟩
          show view_Numbers.e10 K (view_Numbers.I K fu').1 (view_Numbers.I K fu').2 _ _ _ _ _ _ _ _ _ _ _ _ _ _ _ _ _ _ _ _ _ _ _
          unfold view_Numbers.e10
          have hp := place_lt g (i := (i : Int)) (j := (j : Int)) (by omega) (by omega) (by omega) (by omega)
          have e9 : IntKind.i64.wrap (off + (j : Int) * ld + (i : Int)) = off + i + j * ld := by rw [wrap_i64 (by omega) (by omega)]; omega
          rw [e9]
          obtain ⟨a, ha, hca, hxb⟩ := (hx.ext e7).get (i := (off + i + j * ld).toNat) (by omega)
          refine dec_true (by omega) (ptrSome_intro ha ⟨by omega, by omega, rd_f64.of hca ?_⟩)
          have hlt : j * rows + i < rows * cols := by have := mx_lt (n := rows) (m := cols) (i := i) (j := j) (by omega) (by omega); omega
          have hkk : ∀ k ∈ [k3, k19], k < w7.heap.size ∧ ∀ a, po' = some a → a.block ≠ k := by
            intro k hk
            simp at hk
            rcases hk with rfl | rfl
            · exact ⟨by omega, fun a ha => by subst ha; have := (World.ownsRow.lt hown7 a.block rfl).1; omega⟩
            · exact ⟨hk7, hne⟩
          refine appF hown7 hb7 (by omega) hkk fun p' c' w8 hg hown8 hwh => ?_
          have e10' : IntKind.i64.wrap ((i : Int) + 1) = ((i + 1 : Nat) : Int) := by rw [wrap_i64 (by omega) (by omega)]; omega
          rw [e10']
          refine iht (i + 1) fu' p' c' w8 (by omega) (by omega) (hg.ext e7 (hown7.fr.mono hb0)) (by have := hg.size; omega) (by have := hg.size; omega) ?_ ?_
          · intro a ha
            rcases hwh a ha with ⟨b, hb, e⟩ | hh
            · rw [e]; exact hne b hb
            · omega
          · have hfi : f i j = xs.getD (off + i + j * ld).toNat 0 := by rw [hf]
            rw [← Nat.add_assoc, numsL_step f (by omega), hfi]
            exact hown8
      have := inner rows 0 fu po co w21 (by omega) (by omega) e5' (by have := e10.size; have := e18.size; have := e21.size; omega) hk21 hfr hown21
      exact this
  have := main cols 0 (cols * (rows + 2) + 2) none 0 w3 (by omega) (by omega) e03 (by omega) (by rw [Nat.zero_mul]; exact Own.nil _ _ _)
  rw [Nat.zero_mul] at this
  exact this
end Go.Proofs.Ytgdkahbnepafgaa

/-! ### AKsums -/
set_option maxRecDepth 100000
set_option maxHeartbeats 1000000
set_option linter.unusedVariables false
namespace Go.Proofs.Ytgdkahbnepafgaa
open Go Go.Wk Go.RowKit Ieee
attribute [local irreducible] br

theorem sums_at.ct {p : Option Addr} {c : Nat} {off len inc i : Int} {xs : List Nat} {w : World} {K : Value → World → Prop} (hx : Flw w p xs) (hn : xs.length < 4611686018427387904)
    (hi : I64 (i * inc)) (h0 : 0 ≤ off + i * inc) (h1 : off + i * inc < xs.length)
    (h : ∀ w', Ext w w' → K (.float .f64 (xs.getD (off + i * inc).toNat 0)) w') : sums_at.call [vecV p xs.length c off len inc, .int .i64 i] w K := by
  unfold I64 at hi
  refine sums_at.os ?_
  unfold sums_at.s
  intro k3 w2 hk _ e2
  rw [wrap_i64 (z := i * inc) (by omega) (by omega), wrap_i64 (by omega) (by omega)]
  obtain ⟨a, ha, hc, _⟩ := (hx.ext e2).get (i := (off + i * inc).toNat) (by omega)
  exact ptrSome_intro ha ⟨by omega, by omega, rd_f64.of hc (h _ e2)⟩

theorem sums_Most.ct {p : Option Addr} {c : Nat} {off : Int} {len : Nat} {xs : List Nat} {w : World} {K : Value → World → Prop} (hx : Flw w p xs) (hn : xs.length < 4611686018427387904) (hl0 : 0 < len) (hl : len ≤ 1048576)
    (g : RightV xs.length off len 1) (ho : I64 off)
    (h : ∀ w', Ext w w' → K (.tuple ⟨[.int .i64 ((mostF (fun (i : Nat) => xs.getD (off + (i : Int)).toNat 0) len : Nat) : Int), .int .i64 0]⟩) w') :
    sums_Most.call [vecV p xs.length c off len 1] w K := by
  have g' := g
  unfold RightV at g'
  refine sums_Most.os (len + 1) ?_
  unfold sums_Most.s
  intro k3 w2 hk hk' e2
  refine view_Right.ct hn ho (by unfold I64; omega) (by unfold I64; omega) fun w3 e3 => ⟨.inl e3, _, rfl, ?_⟩
  rw [show rightB xs.length off len 1 = true from decide_eq_true g]
  refine br_false rfl ?_
  obtain ⟨f, hf⟩ : ∃ f : Nat → Nat, f = fun (i : Nat) => xs.getD (off + (i : Int)).toNat 0 := ⟨_, rfl⟩
  rw [← hf] at h
  have hfx : ∀ i : Nat, xs.getD (off + (i : Int)).toNat 0 = f i := fun i => by rw [hf]
  have main : ∀ (d i fu : Nat) (w5 : World), i + d = len → d < fu → Ext w w5 →
      sums_Most.d5 K fu k3 p xs.length c off len 1 (if i = 0 then -1 else ((mostF f i : Nat) : Int)) len (i : Int) w5 := by
    intro d
    induction d with
    | zero =>
      intro i fu w5 hi hfu e5
      obtain ⟨fu, rfl⟩ : ∃ m, fu = m + 1 := ⟨fu - 1, by omega⟩
      refine dec_false (by omega) ?_
      have : i = len := by omega
      rw [if_neg (by omega), this]
      exact h _ e5
    | succ d ih =>
      intro i fu w5 hi hfu e5
      obtain ⟨fu, rfl⟩ : ∃ m, fu = m + 1 := ⟨fu - 1, by omega⟩
      have e9 : IntKind.i64.wrap ((i : Int) + 1) = ((i + 1 : Nat) : Int) := by rw [wrap_i64 (by omega) (by omega)]; omega
      have rcc := fun w6 e6 => ih (i + 1) fu w6 (by omega) (by omega) e6
      rw [if_neg (by omega)] at rcc
      unfold mostF at rcc
      refine dec_true (by omega) ?_
      by_cases hi0 : i = 0
      · rw [if_pos hi0] at rcc ⊢
        refine dec_true (by omega) ?_
        rw [e9]
        subst hi0
        exact rcc _ (e5.trans (Ext.drew _))
      · rw [if_neg hi0] at rcc ⊢
        have hm := mostF_lt f i (by omega)
        refine dec_false (by omega) ?_
        have bit : ∀ j : Nat, j < len → f j < 18446744073709551616 := fun j hj => by
          rw [← hfx]
          obtain ⟨_, _, _, hb⟩ := hx.get (i := (off + (j : Int)).toNat) (by omega)
          exact hb
        have e5' := e5.trans (Ext.drew w5)
        refine sums_at.ct (hx.ext e5') hn (by unfold I64; omega) (by omega) (by omega) fun w7 e7 => ⟨.inl e7, _, rfl, e7.kept, ?_⟩
        rw [Int.mul_one, hfx]
        refine math_Abs.ct (bit i (by omega)) ⟨.inl (Ext.refl _), _, rfl, (Ext.refl _).kept, ?_⟩
        refine sums_at.ct (hx.ext (e5'.trans e7)) hn (by unfold I64; omega) (by omega) (by omega) fun w8 e8 => ⟨.inl e8, _, rfl, ?_⟩
        rw [Int.mul_one, hfx]
        refine math_Abs.ct (bit _ (by omega)) ⟨.inl (Ext.refl _), _, rfl, ?_⟩
        have e8' := (e5'.trans e7).trans e8
        rw [e9]
        refine br_intro (fun hb => ?_) (fun hb => ?_)
        · have := rcc _ e8'
          rwa [if_pos (show gtA (f i) (f (mostF f i)) = true from hb)] at this
        · have := rcc _ e8'
          rwa [if_neg (show ¬ gtA (f i) (f (mostF f i)) = true by unfold gtA; rw [hb]; exact Bool.false_ne_true)] at this
  have := main len 0 (len + 1) w3 (by omega) (by omega) (e2.trans e3)
  rw [if_pos rfl] at this
  exact this
end Go.Proofs.Ytgdkahbnepafgaa

/-! ### AKmove -/
set_option maxRecDepth 100000
set_option maxHeartbeats 1000000
set_option linter.unusedVariables false
namespace Go.Proofs.Ytgdkahbnepafgaa
open Go Go.Wk Go.RowKit Ieee
attribute [local irreducible] br


/-- Two rows of a matrix in one block. -/
theorem move_swap.ct {q : Addr} {n m i k c1 c2 : Nat} {xs : List Nat} {w : World} {K : Value → World → Prop} (hb : FBlk w q xs) (hl : xs.length = n * m) (hn : n ≤ 1048576) (hm : m ≤ 1048576) (hi : i < n) (hk : k < n) (hik : i ≠ k)
    (h : ∀ w' xs', Exc q.block w w' → FBlk w' q xs' → xs'.length = n * m → (∀ r c, r < n → c < m → mx n xs' r c = mx n xs (swp i k r) c) → K (.tuple ⟨[]⟩) w') :
    move_swap.call [vecV (some q) xs.length c1 i m n, vecV (some q) xs.length c2 k m n] w K := by
  have hnm : n * m ≤ 1099511627776 := by
    have := Nat.mul_le_mul hn hm
    omega
  refine move_swap.os (m + 1) ?_
  unfold move_swap.s
  intro k3 w2 hk3 _ e2 k7 w6 hk7 _ e6
  have main : ∀ (d t fu : Nat) (ys : List Nat) (w5 : World), t + d = m → d < fu → Exc q.block w w5 → k3 < w5.heap.size → k7 < w5.heap.size → FBlk w5 q ys → ys.length = n * m →
      (∀ r c, r < n → c < m → mx n ys r c = if c < t then mx n xs (swp i k r) c else mx n xs r c) →
      move_swap.d2 K fu k3 (some q) xs.length c1 i m n k7 (some q) xs.length c2 k m n (m : Int) (t : Int) w5 := by
    intro d
    induction d with
    | zero =>
      intro t fu ys w5 ht hfu e5 h3 h7 hb5 hl5 hv
      obtain ⟨fu, rfl⟩ : ∃ m, fu = m + 1 := ⟨fu - 1, by omega⟩
      refine dec_false (by omega) ?_
      exact h w5 ys e5 hb5 hl5 fun r c hr hc => by rw [hv r c hr hc, if_pos (by omega)]
    | succ d ih =>
      intro t fu ys w5 ht hfu e5 h3 h7 hb5 hl5 hv
      obtain ⟨fu, rfl⟩ : ∃ m, fu = m + 1 := ⟨fu - 1, by omega⟩
      have p1 := mx_lt (n := n) (m := m) (i := i) (j := t) hi (by omega)
      have p2 := mx_lt (n := n) (m := m) (i := k) (j := t) hk (by omega)
      have ep : ∀ a : Nat, a + t * n < n * m → IntKind.i64.wrap ((a : Int) + IntKind.i64.wrap ((t : Int) * (n : Int))) = ((a + t * n : Nat) : Int) := by
        intro a ha
        rw [← Int.natCast_mul, wrap_i64 (z := ((t * n : Nat) : Int)) (by omega) (by omega), wrap_i64 (by omega) (by omega)]; omega
      have hqlt := hb.lt
      refine dec_true (by omega) (ptrSome_intro rfl ?_)
      rw [ep i p1, ep k p2]
      simp only [Int.toNat_natCast]
      refine ⟨by omega, by omega, ptrSome_intro rfl ⟨by omega, by omega, ?_⟩⟩
      have hbd := (hb5.ext (Ext.drew _)).ext (Ext.drew _)
      obtain ⟨a1, ha1, hc1, hx1⟩ := hbd.flw.get (i := k + t * n) (by omega)
      obtain ⟨a2, ha2, hc2, hx2⟩ := hbd.flw.get (i := i + t * n) (by omega)
      cases ha1
      cases ha2
      refine rd_f64.of hc1 (rd_f64.of hc2 ?_)
      have v1 : ys.getD (k + t * n) 0 = mx n xs k t := by have := hv k t hk (by omega); rw [if_neg (by omega)] at this; exact this
      have v2 : ys.getD (i + t * n) 0 = mx n xs i t := by have := hv i t hi (by omega); rw [if_neg (by omega)] at this; exact this
      rw [v1] at hx1 ⊢
      rw [v2] at hx2 ⊢
      have hs3 : k3 < (w5.drew).drew.heap.size := h3
      have hs7 : k7 < (w5.drew).drew.heap.size := h7
      have hq3 : k3 ≠ q.block := by omega
      have hq7 : k7 ≠ q.block := by have := e2.size; omega
      refine hbd.put (by omega) hx1 fun w11 e11 hs11 hb11 => ⟨e11.keep2 hs3 hq3 hs7 hq7, ?_⟩
      refine hb11.put (by simp; omega) hx2 fun w12 e12 hs12 hb12 => ⟨e12.keep2 (by omega) hq3 (by omega) hq7, ?_⟩
      have e9 : IntKind.i64.wrap ((t : Int) + 1) = ((t + 1 : Nat) : Int) := by rw [wrap_i64 (by omega) (by omega)]; omega
      rw [e9]
      refine ih (t + 1) fu _ w12 (by omega) (by omega) ?_ (by omega) (by omega) hb12 (by simp [hl5]) ?_
      · exact (((e5.ext_r (Ext.drew _)).ext_r (Ext.drew _)).trans e11).trans e12
      · intro r c hr hc
        rw [mx_set (m := m) (by simp [hl5]) hk (by omega) hr, mx_set hl5 hi (by omega) hr, hv r c hr hc]
        unfold swp
        by_cases hct : c = t
        · subst hct
          by_cases hri : r = i
          · have hrk : r ≠ k := by omega
            simp [hri, hik]
          · by_cases hrk : r = k
            · simp [hrk, Ne.symm hik]
            · simp [hri, hrk]
        · by_cases hlt : c < t
          · have h2 : c < t + 1 := by omega
            simp [hct, hlt, h2]
          · have h2 : ¬ c < t + 1 := by omega
            simp [hct, hlt, h2]
  have e06 := e2.trans e6
  exact main m 0 (m + 1) xs w6 (by omega) (by omega) (e06.exc _) (by have := e6.size; omega) (by omega) (hb.ext e06) hl fun r c _ _ => by rw [if_neg (by omega)]

theorem move_Rows.ct {q : Addr} {n m i k c : Nat} {xs : List Nat} {w : World} {K : Value → World → Prop} (hb : FBlk w q xs) (hl : xs.length = n * m) (hn : n ≤ 1048576) (hm : m ≤ 1048576) (hm0 : 0 < m) (hi : i < n) (hk : k < n)
    (h : ∀ w' xs', Exc q.block w w' → FBlk w' q xs' → xs'.length = n * m → (∀ r c, r < n → c < m → mx n xs' r c = mx n xs (swp i k r) c) → K (.int .i64 0) w') :
    move_Rows.call [matV (some q) xs.length c 0 n m n, .int .i64 (i : Int), .int .i64 (k : Int)] w K := by
  have hnm : n * m ≤ 1099511627776 := by
    have := Nat.mul_le_mul hn hm
    omega
  have g : GoodM xs.length 0 n m n := by
    have := mx_lt (n := n) (m := m) (i := n - 1) (j := m - 1) (by omega) (by omega)
    refine ⟨by omega, by omega, by omega, by omega, by omega, .inr (.inr ?_)⟩
    rw [hl]
    have e : ((m : Int) - 1) * n = (((m - 1) * n : Nat) : Int) := by rw [Int.natCast_mul]; congr 1; omega
    rw [e]
    omega
  refine move_Rows.os ?_
  unfold move_Rows.s
  intro k3 w2 hk3 _ e2
  refine view_Good.ct (by omega) (by unfold I64; omega) (by unfold I64; omega) (by unfold I64; omega) (by unfold I64; omega) fun w3 e3 => ⟨.inl e3, _, rfl, ?_⟩
  rw [good_yes g]
  have e03 := e2.trans e3
  refine br_false rfl (dec_false (by omega) (dec_false (by omega) (dec_false (by omega) (dec_false (by omega) (br_ne (fun hne => ?_) (fun heq => ?_))))))
  · refine view_Row.ct (by omega) g (by unfold I64; omega) (by unfold I64; omega) (by unfold I64; omega) (by unfold I64; omega) (by omega) (by omega) fun w4 e4 => ⟨.inl e4, _, _, _, _, _, _, rfl, e4.kept, ?_⟩
    refine view_Row.ct (by omega) g (by unfold I64; omega) (by unfold I64; omega) (by unfold I64; omega) (by unfold I64; omega) (by omega) (by omega) fun w5 e5 => ⟨.inl e5, _, _, _, _, _, _, rfl, ?_⟩
    rw [if_pos (by omega), if_pos (by omega), Int.zero_add, Int.zero_add]
    have e05 : Ext w w5 := by grind [Ext.trans, Ext.drew]
    refine move_swap.ct (hb.ext e05) hl hn hm hi hk (by omega) fun w' xs' he hb' hl' hv => ⟨.inr (he.keep1 ?_ ?_), rfl, ?_⟩
    · have := e3.size; have := e4.size; have := e5.size
      have : w3.heap.size = w3.drew.heap.size := rfl
      omega
    · have := hb.lt; omega
    · exact h w' xs' (Exc.ext_l e05 he) hb' hl' hv
  · have hik : i = k := by omega
    refine h w3 xs (e03.exc _) (hb.ext e03) hl fun r c hr hc => ?_
    unfold swp
    congr 1
    split
    · omega
    · split <;> omega
end Go.Proofs.Ytgdkahbnepafgaa

/-! ### AKger -/
set_option maxRecDepth 100000
set_option maxHeartbeats 1000000
set_option linter.unusedVariables false
namespace Go.Proofs.Ytgdkahbnepafgaa
open Go Go.Wk Go.RowKit Ieee
attribute [local irreducible] br

theorem ger_row.ct {p : Option Addr} {n c : Nat} {off len inc : Int} {w : World} {K : Value → World → Prop} (h : ∀ w', Ext w w' → K (matV p n c off 1 len inc) w') :
    ger_row.call [vecV p n c off len inc] w K := by
  refine ger_row.os ?_
  unfold ger_row.s
  intro k3 w2 hk3 _ e2 k7 w6 hk7 _ e6 w15 e15
  exact h w15 (by grind [Ext.trans, Exc.ext, Ext.size, Exc.size])

/-- What is done with each number of a matrix in one block. -/
theorem ger_each.ct {q : Addr} {n c : Nat} {off ld : Int} {rows cols : Nat} {g : FuncId} {fi ca : List Value} {w : World} {K : Value → World → Prop} (hn : n < 4611686018427387904)
    (gd : GoodM n off rows cols ld) (ho : I64 off) (hl : I64 ld) (hr : rows ≤ 1048576) (hc : cols ≤ 1048576) (hr0 : 0 < rows) (hq : q.block < w.heap.size) (I : Nat → Nat → World → Prop)
    (h0 : ∀ w', Ext w w' → I 0 0 w')
    (hst : ∀ i j w1 w2 k, I i j w1 → w.heap.size ≤ k → Exc k w1 w2 → I i j w2)
    (hcol : ∀ j w1, I rows j w1 → I 0 (j + 1) w1)
    (hdo : ∀ i j w1 (K' : Value → World → Prop), i < rows → j < cols → I i j w1 → w.heap.size ≤ w1.heap.size → (∀ w2, Exc q.block w1 w2 → I (i + 1) j w2 → K' (.tuple ⟨[]⟩) w2) →
      CallF prog g (fi ++ [.int .i64 (i : Int), .int .i64 (j : Int), .pointer (some (q.add (off + i + j * ld).toNat))] ++ ca) w1 K')
    (h : ∀ w', Exc q.block w w' → I 0 cols w' → K (.tuple ⟨[]⟩) w') :
    ger_each.call [matV (some q) n c off rows cols ld, .func (.func g) ⟨fi⟩ ⟨ca⟩] w K := by
  have gd' := gd
  unfold GoodM at gd'
  have ho' := ho
  have hl' := hl
  unfold I64 at ho' hl'
  refine ger_each.os (cols * (rows + 2) + 2) ?_
  unfold ger_each.s
  intro k3 w2 hk3 hk3' e2
  refine eq_false' (by omega) ?_
  have main : ∀ (d j fu : Nat) (w5 : World), j + d = cols → d * (rows + 2) + 1 ≤ fu → Exc q.block w w5 → k3 < w5.heap.size → I 0 j w5 →
      (ger_each.I K fu).1 g fi ca k3 (some q) n c off rows cols ld (cols : Int) (j : Int) w5 := by
    intro d
    induction d with
    | zero =>
      intro j fu w5 hj hfu e5 h3 hI
      obtain ⟨fu, rfl⟩ : ∃ m, fu = m + 1 := ⟨fu - 1, by omega⟩
      show ger_each.e3 K (ger_each.I K fu).1 (ger_each.I K fu).2 _ _ _ _ _ _ _ _ _ _ _ _ _ _
      unfold ger_each.e3
      refine dec_false (by omega) ?_
      have : j = cols := by omega
      subst this
      exact h w5 e5 hI
    | succ d ih =>
      intro j fu w5 hj hfu e5 h3 hI
      have hfu' : d * (rows + 2) + (rows + 2) + 1 ≤ fu := by rw [Nat.succ_mul] at hfu; exact hfu
      obtain ⟨fu, rfl⟩ : ∃ m, fu = m + 1 := ⟨fu - 1, by omega⟩
      show ger_each.e3 K (ger_each.I K fu).1 (ger_each.I K fu).2 _ _ _ _ _ _ _ _ _ _ _ _ _ _
      unfold ger_each.e3
      refine dec_true (by omega) (view_Col.ct hn gd ho (by unfold I64; omega) (by unfold I64; omega) hl (by omega) (by omega) fun w10 e10 => ⟨.inl e10, _, _, _, _, _, _, rfl, ?_⟩)
      rw [if_pos (by omega)]
      intro k19 w18 hk19 hk19' e18 w21 e21
      have s5 := e5.size
      have s10 := e10.size
      have s18 := e18.size
      have s21 := e21.size
      have hI21 : I 0 j w21 := by
        refine hst 0 j w18 w21 k19 (hst 0 j w5 w18 k19 hI (by omega) ((e10.trans e18).exc _)) (by omega) e21
      have e5' : Exc q.block w w21 := (e5.ext_r (e10.trans e18)).fresh e21 (by omega)
      have inner : ∀ (t i fu' : Nat) (w7 : World), i + t = rows → d * (rows + 2) + t + 2 ≤ fu' → Exc q.block w w7 → k3 < w7.heap.size → k19 < w7.heap.size → I i j w7 →
          (ger_each.I K fu').2 g fi ca k3 (some q) n c off rows cols ld (j : Int) k19 (some q) n c (off + (j : Int) * ld) rows 1 (cols : Int) (j : Int) (rows : Int) (i : Int) w7 := by
        intro t
        induction t with
        | zero =>
          intro i fu' w7 hi hfu' e7 h3' h19 hI7
          obtain ⟨fu', rfl⟩ : ∃ m, fu' = m + 1 := ⟨fu' - 1, by omega⟩
          show ger_each.e7 K (ger_each.I K fu').1 (ger_each.I K fu').2 _ _ _ _ _ _ _ _ _ _ _ _ _ _ _ _ _ _ _ _ _ _ _ _
          unfold ger_each.e7
          refine dec_false (by omega) ?_
          have e9 : IntKind.i64.wrap ((j : Int) + 1) = ((j + 1 : Nat) : Int) := by rw [wrap_i64 (by omega) (by omega)]; omega
          rw [e9]
          have : i = rows := by omega
          subst this
          exact ih (j + 1) fu' w7 (by omega) (by omega) e7 h3' (hcol j w7 hI7)
        | succ t iht =>
          intro i fu' w7 hi hfu' e7 h3' h19 hI7
          obtain ⟨fu', rfl⟩ : ∃ m, fu' = m + 1 := ⟨fu' - 1, by omega⟩
          show ger_each.e7 K (ger_each.I K fu').1 (ger_each.I K fu').2 _ _ _ _ _ _ _ _ _ _ _ _ _ _ _ _ _ _ _ _ _ _ _ _
          unfold ger_each.e7
          have hp := place_lt gd (i := (i : Int)) (j := (j : Int)) (by omega) (by omega) (by omega) (by omega)
          have e9 : IntKind.i64.wrap (off + (j : Int) * ld + (i : Int)) = off + i + j * ld := by rw [wrap_i64 (by omega) (by omega)]; omega
          rw [e9]
          refine dec_true (by omega) (ptrSome_intro rfl ⟨by omega, by omega, ?_⟩)
          refine hdo i j w7 _ (by omega) (by omega) hI7 e7.size fun w8 e8 hI8 => ⟨.inr (e8.keep2 h3' (by omega) h19 (by omega)), rfl, ?_⟩
          have e10' : IntKind.i64.wrap ((i : Int) + 1) = ((i + 1 : Nat) : Int) := by rw [wrap_i64 (by omega) (by omega)]; omega
          rw [e10']
          have s8 := e8.size
          exact iht (i + 1) fu' w8 (by omega) (by omega) (e7.trans e8) (by omega) (by omega) hI8
      exact inner rows 0 fu w21 (by omega) (by omega) e5' (by omega) (by omega) hI21
  exact main cols 0 _ w2 (by omega) (by omega) (e2.exc _) hk3' (h0 w2 e2)

theorem ger_Ger_1.ct {i j t : Nat} {qa qy qx qm : Addr} {a cy cx : Nat} {py px : Option Addr} {offy leny incy offx lenx incx : Int} {xs ys ms : List Nat} {w : World} {K : Value → World → Prop}
    (ra : Row w qa [.float .f64 a]) (ry : Row w qy [.slice py ys.length cy, .int .i64 offy, .int .i64 leny, .int .i64 incy]) (rx : Row w qx [.slice px xs.length cx, .int .i64 offx, .int .i64 lenx, .int .i64 incx])
    (hy : Flw w py ys) (hx : Flw w px xs) (hm : FBlk w qm ms) (ht : t < ms.length) (hny : ys.length < 4611686018427387904) (hnx : xs.length < 4611686018427387904)
    (iy : I64 (j * incy)) (y0 : 0 ≤ offy + j * incy) (y1 : offy + j * incy < ys.length) (ix : I64 (i * incx)) (x0 : 0 ≤ offx + i * incx) (x1 : offx + i * incx < xs.length)
    (h : ∀ w' v, Exc qm.block w w' → v < 18446744073709551616 →
      cn v = fb .add (ms.getD t 0) (fb .mul (fb .mul a (ys.getD (offy + j * incy).toNat 0)) (xs.getD (offx + i * incx).toNat 0)) → FBlk w' qm (ms.set t v) → K (.tuple ⟨[]⟩) w') :
    ger_Ger_1.call [.int .i64 (i : Int), .int .i64 (j : Int), .pointer (some (qm.add t)), .pointer (some qa), .pointer (some qy), .pointer (some qx)] w K := by
  unfold I64 at iy ix
  refine ger_Ger_1.ok ?_
  unfold ger_Ger_1.x
  have ed := Ext.drew w
  have ra1 := ra.ext ed
  have ry1 := ry.ext ed
  refine ptrSome_intro rfl (rd_f64.of (ra1.get0 rfl) (ptrSome_intro rfl (rd_l.of (ry1.get0 rfl) (ptrSome_intro rfl (rd_i64.of (ry1.get 1 rfl) (ptrSome_intro rfl (rd_i64.of (ry1.get 3 rfl) ?_)))))))
  rw [wrap_i64 (z := j * incy) (by omega) (by omega), wrap_i64 (z := offy + j * incy) (by omega) (by omega)]
  obtain ⟨b, hb, hcb, _⟩ := (hy.ext ed).get (i := (offy + j * incy).toNat) (by omega)
  refine ptrSome_intro hb ⟨by omega, by omega, rd_f64.of hcb (fop_cn fun r1 w15 c1 b1 e15 _ => ?_)⟩
  have e2 := (ed.trans e15).trans (Ext.drew w15)
  have rx1 := rx.ext e2
  obtain ⟨m, hm', hcm, _⟩ := (hm.ext e2).flw.get (i := t) ht
  cases hm'
  refine ptrSome_intro rfl (rd_f64.of hcm (ptrSome_intro rfl (rd_l.of (rx1.get0 rfl) (ptrSome_intro rfl (rd_i64.of (rx1.get 1 rfl) (ptrSome_intro rfl (rd_i64.of (rx1.get 3 rfl) ?_)))))))
  rw [wrap_i64 (z := i * incx) (by omega) (by omega), wrap_i64 (z := offx + i * incx) (by omega) (by omega)]
  obtain ⟨d, hd, hcd, _⟩ := (hx.ext e2).get (i := (offx + i * incx).toNat) (by omega)
  refine ptrSome_intro hd ⟨by omega, by omega, rd_f64.of hcd (fop_cn fun r2 w30 c2 b2 e30 _ => ⟨e30.kept, fop_cn fun r3 w32 c3 b3 e32 _ => ?_⟩)⟩
  have e3 := (e2.trans e30).trans e32
  refine ptrSome_intro rfl ((hm.ext e3).put ht b3 fun w34 e34 _ hb34 => ?_)
  refine h w34 r3 (Exc.ext_l e3 e34) b3 ?_ hb34
  rw [c3]
  refine fb_congr rfl ?_
  rw [c2, cn_fb]
  refine fb_congr ?_ rfl
  rw [c1, cn_fb]

/-- The rest of a square of n rows, behind row and column k, less a product of two vectors. -/
theorem ger_Ger.ct {qm : Addr} {a n k cx cy cm : Nat} {px py : Option Addr} {xs ys ms : List Nat} {w : World} {K : Value → World → Prop} (hm : FBlk w qm ms) (hl : ms.length = n * n) (hn : n ≤ 1048576) (hk : k + 1 < n)
    (hx : Flw w px xs) (hy : Flw w py ys) (lx : xs.length = n - k - 1) (ly : ys.length = n - k - 1)
    (plx : ∃ b, px = some b ∧ Plain w b ∧ b.block ≠ qm.block) (ply : ∃ b, py = some b ∧ Plain w b ∧ b.block ≠ qm.block)
    (h : ∀ w' ms', Exc qm.block w w' → FBlk w' qm ms' → ms'.length = n * n →
      (∀ r c, r < n → c < n → ¬ (k < r ∧ k < c) → mx n ms' r c = mx n ms r c) →
      (∀ r c, r < n → c < n → k < r → k < c → cn (mx n ms' r c) = fb .add (mx n ms r c) (fb .mul (fb .mul a (ys.getD (c - k - 1) 0)) (xs.getD (r - k - 1) 0))) → K (.int .i64 0) w') :
    ger_Ger.call [.float .f64 a, vecV px xs.length cx 0 ((n - k - 1 : Nat) : Int) 1, vecV py ys.length cy 0 ((n - k - 1 : Nat) : Int) 1,
      matV (some qm) ms.length cm (((k + 1) + (k + 1) * n : Nat) : Int) ((n - k - 1 : Nat) : Int) ((n - k - 1 : Nat) : Int) n] w K := by
  have hnn : n * n ≤ 1099511627776 := by
    have := Nat.mul_le_mul hn hn
    omega
  obtain ⟨m, hmr⟩ : ∃ m, n - k - 1 = m := ⟨_, rfl⟩
  rw [hmr] at lx ly ⊢
  have hpl : ∀ i j : Nat, i < m → j < m → (k + 1 + i) + (k + 1 + j) * n < n * n := fun i j hi hj => mx_lt (by omega) (by omega)
  have hpe : ∀ i j : Nat, (((k + 1) + (k + 1) * n : Nat) : Int) + (i : Int) + (j : Int) * (n : Int) = (((k + 1 + i) + (k + 1 + j) * n : Nat) : Int) := by
    intro i j
    rw [← Int.natCast_mul, Nat.add_mul (k + 1) j n]
    omega
  have gm : GoodM ms.length (((k + 1) + (k + 1) * n : Nat) : Int) (m : Int) (m : Int) (n : Int) := by
    refine ⟨by omega, by omega, by omega, by omega, by omega, .inr (.inr ?_)⟩
    have := hpl (m - 1) (m - 1) (by omega) (by omega)
    have e := hpe (m - 1) (m - 1)
    have e1 : ((m - 1 : Nat) : Int) = (m : Int) - 1 := by omega
    rw [e1] at e
    omega
  have hoff : (k + 1) + (k + 1) * n < n * n := by have := hpl 0 0 (by omega) (by omega); omega
  have rgx : ∀ l : List Nat, l.length = m → RightV l.length 0 (m : Int) 1 := fun l hl => ⟨by omega, by omega, by omega, .inr (by omega)⟩
  have grow : ∀ l : List Nat, l.length = m → GoodM l.length 0 1 (m : Int) 1 := fun l hl => ⟨by omega, by omega, by omega, by omega, by omega, .inr (.inr (by omega))⟩
  obtain ⟨bx, hpx, plbx, nbx⟩ := plx
  obtain ⟨by', hpy, plby, nby⟩ := ply
  have hmb : ms.length < 4611686018427387904 := by omega
  refine ger_Ger.os ?_
  unfold ger_Ger.s
  refine newB_blk fun q1 w2 hq1 _ e2 b1 => newB_blk fun q3 w4 hq3 _ e4 b3 => newB_blk fun q5 w6 hq5 _ e6 b5 => ?_
  intro k9 w8 hk9 _ e8
  have r1 := ((b1.ext e4).ext e6).ext e8
  have r3 := (b3.ext e6).ext e8
  have r5 := b5.ext e8
  have e08 : Ext w w8 := ((e2.trans e4).trans e6).trans e8
  refine rd_l_i64_i64_i64.of (r3.row.get0 rfl) (r3.row.get 1 rfl) (r3.row.get 2 rfl) (r3.row.get 3 rfl) ?_
  refine view_Right.ct (by omega) (by unfold I64; omega) (by unfold I64; omega) (by unfold I64; omega) fun w18 e18 => ⟨.inl e18, _, rfl, ?_⟩
  rw [show rightB xs.length 0 (m : Int) 1 = true from decide_eq_true (rgx xs lx)]
  have r5' := r5.ext e18
  refine br_false rfl (rd_l_i64_i64_i64.of (r5'.row.get0 rfl) (r5'.row.get 1 rfl) (r5'.row.get 2 rfl) (r5'.row.get 3 rfl) ?_)
  refine view_Right.ct (by omega) (by unfold I64; omega) (by unfold I64; omega) (by unfold I64; omega) fun w27 e27 => ⟨.inl e27, _, rfl, ?_⟩
  rw [show rightB ys.length 0 (m : Int) 1 = true from decide_eq_true (rgx ys ly)]
  refine br_false rfl (view_Good.ct hmb (by unfold I64; omega) (by unfold I64; omega) (by unfold I64; omega) (by unfold I64; omega) fun w37 e37 => ⟨.inl e37, _, rfl, ?_⟩)
  rw [good_yes gm]
  have e837 := (e18.trans e27).trans e37
  have r3' := r3.ext e837
  have r5'' := r5.ext e837
  refine br_false rfl (rd_i64.of (r3'.row.get 2 rfl) (br_ne (fun hh => absurd rfl hh) fun _ => rd_i64.of (r5''.row.get 2 rfl) (br_ne (fun hh => absurd rfl hh) fun _ => ?_)))
  have ed := e837.trans (Ext.drew w37)
  have r3d := r3.ext ed
  have r5d := r5.ext ed
  refine rd_l_i64_i64_i64.of (r3d.row.get0 rfl) (r3d.row.get 1 rfl) (r3d.row.get 2 rfl) (r3d.row.get 3 rfl) ?_
  refine ger_row.ct fun w58 e58 => ⟨.inl e58, _, _, _, _, _, _, _, rfl, e58.kept, ?_⟩
  have e058 := (e08.trans ed).trans e58
  refine view_Meet.ct (by omega) (grow xs lx) (by unfold I64; omega) (by unfold I64; omega) (by unfold I64; omega) (by unfold I64; omega) hmb gm (by unfold I64; omega) (by unfold I64; omega) (by unfold I64; omega) (by unfold I64; omega)
    (fun _ => ⟨bx, hpx, plbx.ext e058⟩) (fun _ => ⟨qm, rfl, (hm.ext e058).blk.plain⟩) (fun a b ha hb => by rw [hpx] at ha; cases ha; cases hb; exact nbx) fun w67 e67 => ⟨.inl e67, _, rfl, e67.kept, ?_⟩
  refine br_false rfl (rd_l_i64_i64_i64.of (r5d.row.get0 rfl) (r5d.row.get 1 rfl) (r5d.row.get 2 rfl) (r5d.row.get 3 rfl) ?_)
  refine ger_row.ct fun w83 e83 => ⟨.inl e83, _, _, _, _, _, _, _, rfl, e83.kept, ?_⟩
  have e083 := (e058.trans e67).trans e83
  refine view_Meet.ct (by omega) (grow ys ly) (by unfold I64; omega) (by unfold I64; omega) (by unfold I64; omega) (by unfold I64; omega) hmb gm (by unfold I64; omega) (by unfold I64; omega) (by unfold I64; omega) (by unfold I64; omega)
    (fun _ => ⟨by', hpy, plby.ext e083⟩) (fun _ => ⟨qm, rfl, (hm.ext e083).blk.plain⟩) (fun a b ha hb => by rw [hpy] at ha; cases ha; cases hb; exact nby) fun w92 e92 => ⟨.inl e92, _, rfl, br_false rfl ?_⟩
  have e892 : Ext w8 w92 := (((ed.trans e58).trans e67).trans e83).trans e92
  have e092 := e08.trans e892
  have r1z := r1.ext e892
  have r3z := r3.ext e892
  have r5z := r5.ext e892
  have hmz := hm.ext e092
  have sz : q1.block < w92.heap.size ∧ q3.block < w92.heap.size ∧ q5.block < w92.heap.size := ⟨r1z.lt, r3z.lt, r5z.lt⟩
  have hqm := hm.lt
  have hne1 : q1.block ≠ qm.block := by omega
  have hne3 : q3.block ≠ qm.block := by have := e2.size; omega
  have hne5 : q5.block ≠ qm.block := by have := e2.size; have := e4.size; omega
  have lbx : bx.block < w92.heap.size := by obtain ⟨_, _, hh⟩ := plbx.ext e092; exact (Array.getElem?_eq_some_iff.1 hh).1
  have lby : by'.block < w92.heap.size := by obtain ⟨_, _, hh⟩ := plby.ext e092; exact (Array.getElem?_eq_some_iff.1 hh).1
  -- what holds when i numbers of column j are done
  let I : Nat → Nat → World → Prop := fun i j w1 => (Blk w1 q1 [.float .f64 a] ∧ Blk w1 q3 [.slice px xs.length cx, .int .i64 0, .int .i64 (m : Int), .int .i64 1] ∧ Blk w1 q5 [.slice py ys.length cy, .int .i64 0, .int .i64 (m : Int), .int .i64 1]) ∧
    (Flw w1 px xs ∧ Flw w1 py ys) ∧ Exc qm.block w w1 ∧ ∃ ms', FBlk w1 qm ms' ∧ ms'.length = n * n ∧
      ∀ r c, r < n → c < n → (¬ (k < r ∧ k < c ∧ (c < k + 1 + j ∨ (c = k + 1 + j ∧ r < k + 1 + i))) → mx n ms' r c = mx n ms r c) ∧
        ((k < r ∧ k < c ∧ (c < k + 1 + j ∨ (c = k + 1 + j ∧ r < k + 1 + i))) → cn (mx n ms' r c) = fb .add (mx n ms r c) (fb .mul (fb .mul a (ys.getD (c - k - 1) 0)) (xs.getD (r - k - 1) 0)))
  refine ger_each.ct hmb gm (by unfold I64; omega) (by unfold I64; omega) (by omega) (by omega) (by omega) (by have := e092.size; omega) I ?_ ?_ ?_ ?_ ?_
  · intro w' e'
    exact ⟨⟨r1z.ext e', r3z.ext e', r5z.ext e'⟩, ⟨hx.ext (e092.trans e'), hy.ext (e092.trans e')⟩, (e092.trans e').exc _, ms, hmz.ext e', hl, fun r c _ _ => ⟨fun _ => rfl, fun hh => by omega⟩⟩
  · rintro i j w1 w2 kk ⟨⟨c1, c3, c5⟩, ⟨cx', cy'⟩, ce, ms', cb, cl, cv⟩ hkk ee
    refine ⟨⟨c1.exc ee (by omega), c3.exc ee (by omega), c5.exc ee (by omega)⟩, ⟨cx'.exc ee ?_, cy'.exc ee ?_⟩, ce.fresh ee (by have := e092.size; omega), ms', cb.exc ee (by have := e092.size; omega), cl, cv⟩
    · intro z hz; rw [hpx] at hz; cases hz; omega
    · intro z hz; rw [hpy] at hz; cases hz; omega
  · rintro j w1 ⟨c1, c2, ce, ms', cb, cl, cv⟩
    refine ⟨c1, c2, ce, ms', cb, cl, fun r c hr hc => ⟨fun hh => (cv r c hr hc).1 (by omega), fun hh => (cv r c hr hc).2 (by omega)⟩⟩
  · rintro i j w1 K' hi hj ⟨⟨c1, c3, c5⟩, ⟨cx', cy'⟩, ce, ms', cb, cl, cv⟩ _ hK
    rw [hpe i j, Int.toNat_natCast]
    have hpij := hpl i j hi hj
    have goal := ger_Ger_1.ct (i := i) (j := j) (t := (k + 1 + i) + (k + 1 + j) * n) (K := K') c1.row c5.row c3.row cy' cx' cb (by omega) (by omega) (by omega) (by unfold I64; omega) (by omega) (by omega) (by unfold I64; omega) (by omega) (by omega) fun w2 v ee hv hcn hb2 => ?_
    · exact goal
    · refine hK w2 ee ⟨⟨c1.exc ee hne1, c3.exc ee hne3, c5.exc ee hne5⟩, ⟨cx'.exc ee ?_, cy'.exc ee ?_⟩, ce.trans ee, _, hb2, by simp [cl], fun r c hr hc => ?_⟩
      · intro z hz; rw [hpx] at hz; cases hz; exact nbx
      · intro z hz; rw [hpy] at hz; cases hz; exact nby
      · rw [mx_set cl (by omega) (by omega) hr]
        by_cases hrc : r = k + 1 + i ∧ c = k + 1 + j
        · rw [if_pos hrc]
          refine ⟨fun hh => by omega, fun _ => ?_⟩
          rw [hcn]
          have hold := (cv r c hr hc).1 (by omega)
          have e1 : ms'.getD (k + 1 + i + (k + 1 + j) * n) 0 = mx n ms r c := by rw [← hold, hrc.1, hrc.2]; rfl
          have e2' : (0 + (j : Int) * 1).toNat = c - k - 1 := by omega
          have e3' : (0 + (i : Int) * 1).toNat = r - k - 1 := by omega
          rw [e1, e2', e3']
        · rw [if_neg hrc]
          refine ⟨fun hh => (cv r c hr hc).1 (by omega), fun hh => (cv r c hr hc).2 (by omega)⟩
  · rintro w' e' ⟨_, _, ce, ms', cb, cl, cv⟩
    have hkk : k9 ≠ qm.block := by have := e2.size; have := e4.size; have := e6.size; omega
    have hk92 : k9 < w92.heap.size := by have := e892.size; omega
    refine ⟨.inr (e'.keep1 hk92 hkk), rfl, ?_⟩
    refine h w' ms' ce cb cl (fun r c hr hc hh => (cv r c hr hc).1 (by omega)) (fun r c hr hc h1 h2 => (cv r c hr hc).2 (by omega))
end Go.Proofs.Ytgdkahbnepafgaa

/-! ### AKlu -/
set_option maxRecDepth 100000
set_option maxHeartbeats 1000000
set_option linter.unusedVariables false
namespace Go.Proofs.Ytgdkahbnepafgaa
open Go Go.Wk Go.RowKit Ieee
attribute [local irreducible] br

theorem tFs_s : szOf prog 38 = some 1 := tF_size

/-- A copy in a block of its own. -/
theorem move_Clone.ct {p : Option Addr} {c : Nat} {off ld : Int} {rows cols : Nat} {xs : List Nat} {w : World} {K : Value → World → Prop} (hx : Flw w p xs) (hn : xs.length < 4611686018427387904)
    (g : GoodM xs.length off rows cols ld) (ho : I64 off) (hl : I64 ld) (hr : rows ≤ 64) (hc : cols ≤ 64)
    (h : ∀ q w', w.heap.size ≤ q.block → Ext w w' → FBlk w' q (numsL (fun (i j : Nat) => xs.getD (off + (i : Int) + (j : Int) * ld).toNat 0) rows (rows * cols)) →
      K (.tuple ⟨[matV (some q) (rows * cols) (rows * cols) 0 rows cols ((max rows 1 : Nat) : Int), .int .i64 0]⟩) w') :
    move_Clone.call [matV p xs.length c off rows cols ld] w K := by
  have hrc : rows * cols ≤ 4096 := by
    have := Nat.mul_le_mul hr hc
    omega
  refine move_Clone.os ?_
  unfold move_Clone.s
  intro k3 w2 hk3 _ e2 k7 w6 hk7 _ e6
  refine view_Good.ct hn ho (by unfold I64; omega) (by unfold I64; omega) hl fun w17 e17 => ⟨.inl e17, _, rfl, ?_⟩
  rw [good_yes g]
  have s2 := e2.size
  have s6 := e6.size
  have s17 := e17.size
  have e017 : Ext w w17 := (e2.trans e6).trans e17
  refine br_false rfl (dec_false (by omega) (dec_false (by omega) ?_))
  refine view_Dense.ct (p := none) (ls := []) (n := 0) hr hc ⟨fun i x hx => by simp at hx, fun x hx => by simp at hx⟩ rfl (by omega) (by omega) fun q w48 hq e48 hb => ⟨.inl e48, _, _, _, _, _, _, _, rfl, ?_⟩
  intro k58 w57 hk58 hk58' e57 w60 e60
  have s48 := e48.size
  have s57 := e57.size
  have s60 := e60.size
  have qlt := hb.lt
  have hb60 := ((hb.ext e57).exc e60 (by omega)).ext (Ext.drew w60)
  have e060 : Ext w w60.drew := by
    have : Ext w w60 := e60.ext ((e017.trans e48).trans e57) (by omega)
    exact this.trans (Ext.drew _)
  refine view_Numbers.ct (hx.ext e060) hn g ho hl (by omega) (by omega) fun p' n' c' w73 base e73 hbase hn' hown => ⟨.inl e73, _, _, _, rfl, e73.kept, ?_⟩
  subst hn'
  have s73 := e73.size
  have hbz : w60.drew.heap.size = w60.heap.size := rfl
  have hfl := hown.fls
  have hnl : (numsL (fun (i j : Nat) => xs.getD (off + (i : Int) + (j : Int) * ld).toNat 0) rows (rows * cols)).length = rows * cols := numsL_length _ _ _
  have hbits : ∀ x ∈ numsL (fun (i j : Nat) => xs.getD (off + (i : Int) + (j : Int) * ld).toNat 0) rows (rows * cols), x < 18446744073709551616 := by
    intro x hx'
    unfold numsL at hx'
    obtain ⟨s, _, rfl⟩ := List.mem_map.1 hx'
    show xs.getD (off + ((s % rows : Nat) : Int) + ((s / rows : Nat) : Int) * ld).toNat 0 < _
    rw [List.getD_eq_getElem?_getD]
    cases hh : xs[(off + ((s % rows : Nat) : Int) + ((s / rows : Nat) : Int) * ld).toNat]? with
    | none => simp
    | some y => exact hx.bits y (List.mem_of_getElem? hh)
  refine copy_x (t := 22) (e := 38) (xs := denseL cols (max rows 1) 0 [] (List.replicate (rows * cols) 0)) tFs_is tF_size (hb60.ext e73) (by simp [denseL]) ⟨hfl.at_, hbits⟩ hnl fun w78 e78 s78 hb78 => ⟨.inr (e78.keep3 ?_ ?_ ?_ ?_ ?_ ?_), _, rfl, ?_⟩
  · omega
  · omega
  · omega
  · omega
  · omega
  · omega
  · intro w87 e87
    have e78' : Ext w w78 := e78.ext (e060.trans e73) (by omega)
    exact h q w87 (by omega) (e87.ext e78' (by omega)) (hb78.exc e87 (by omega))

theorem lu_square.ct {p : Option Addr} {c : Nat} {off ld : Int} {n : Nat} {xs : List Nat} {w : World} {K : Value → World → Prop} (hx : Flw w p xs) (hn : xs.length < 4611686018427387904)
    (g : GoodM xs.length off n n ld) (ho : I64 off) (hl : I64 ld) (hr : n ≤ 64)
    (h : ∀ q w', w.heap.size ≤ q.block → Ext w w' → FBlk w' q (numsL (fun (i j : Nat) => xs.getD (off + (i : Int) + (j : Int) * ld).toNat 0) n (n * n)) →
      K (.tuple ⟨[matV (some q) (n * n) (n * n) 0 n n ((max n 1 : Nat) : Int), .int .i64 0]⟩) w') :
    lu_square.call [matV p xs.length c off n n ld] w K := by
  refine lu_square.os ?_
  unfold lu_square.s
  intro k3 w2 hk3 _ e2 k7 w6 hk7 _ e6
  refine view_Good.ct hn ho (by unfold I64; omega) (by unfold I64; omega) hl fun w17 e17 => ⟨.inl e17, _, rfl, ?_⟩
  rw [good_yes g]
  have s2 := e2.size
  have s6 := e6.size
  have s17 := e17.size
  have e017 : Ext w w17 := (e2.trans e6).trans e17
  refine br_false rfl (br_ne (fun hh => absurd rfl hh) fun _ => ?_)
  refine move_Clone.ct (hx.ext e017) hn g ho hl hr hr fun q w45 hq e45 hb => ⟨.inl e45, _, _, _, _, _, _, _, _, rfl, ?_⟩
  intro w54 e54
  exact h q w54 (by omega) (e54.ext (e017.trans e45) (by omega)) (hb.exc e54 (by omega))

/-- The pivot of step k: what stands below is looked at, the rows change places. -/
theorem lu_Pivot.ct {q : Addr} {n k c : Nat} {xs : List Nat} {w : World} {K : Value → World → Prop} (hb : FBlk w q xs) (hl : xs.length = n * n) (hn : n ≤ 1048576) (hk : k < n)
    (h : ∀ w' xs' p, Exc q.block w w' → FBlk w' q xs' → xs'.length = n * n → p = k + mostF (fun i => mx n xs (k + i) k) (n - k) → k ≤ p → p < n →
      (∀ r c, r < n → c < n → mx n xs' r c = mx n xs (swp k p r) c) → K (.tuple ⟨[.int .i64 (p : Int), .bool (fne .f64 (mx n xs' k k) 0)]⟩) w') :
    lu_Pivot.call [matV (some q) xs.length c 0 n n n, .int .i64 (k : Int)] w K := by
  have hnn : n * n ≤ 1099511627776 := by
    have := Nat.mul_le_mul hn hn
    omega
  have hkn := mx_lt (n := n) (m := n) (i := n - 1) (j := n - 1) (by omega) (by omega)
  have hkk := mx_lt (n := n) (m := n) (i := n - 1) (j := k) (by omega) (by omega)
  have g : GoodM xs.length 0 n n n := by
    refine ⟨by omega, by omega, by omega, by omega, by omega, .inr (.inr ?_)⟩
    rw [hl]
    have e : ((n : Int) - 1) * n = (((n - 1) * n : Nat) : Int) := by rw [Int.natCast_mul]; congr 1; omega
    rw [e]
    omega
  refine lu_Pivot.os ?_
  unfold lu_Pivot.s
  intro k3 w2 hk3 _ e2
  refine view_Col.ct (by omega) g (by unfold I64; omega) (by unfold I64; omega) (by unfold I64; omega) (by unfold I64; omega) (by omega) (by omega) fun w13 e13 => ⟨.inl e13, _, _, _, _, _, _, rfl, ?_⟩
  intro k22 w21 hk22 _ e21 w24 e24 w26 e26 w28 e28
  have s2 := e2.size
  have s13 := e13.size
  have s21 := e21.size
  have s24 := e24.size
  have s26 := e26.size
  have s28 := e28.size
  have e028 : Ext w w28 := e28.ext (e26.ext (e24.ext ((e2.trans e13).trans e21) (by omega)) (by omega)) (by omega)
  have hb28 := hb.ext e028
  rw [if_pos (by omega)]
  have e1 : IntKind.i64.wrap (0 + (k : Int) * (n : Int) + (k : Int)) = ((k * n + k : Nat) : Int) := by
    rw [← Int.natCast_mul, wrap_i64 (by omega) (by omega)]; omega
  have e3 : IntKind.i64.wrap ((n : Int) - (k : Int)) = ((n - k : Nat) : Int) := by rw [wrap_i64 (by omega) (by omega)]; omega
  rw [e1, e3]
  refine sums_Most.ct hb28.flw (by omega) (by omega) (by omega) ⟨by omega, by omega, by omega, .inr (by omega)⟩ (by unfold I64; omega) fun w36 e36 => ⟨.inl e36, _, _, rfl, ?_⟩
  have hf : (fun (i : Nat) => xs.getD (((k * n + k : Nat) : Int) + (i : Int)).toNat 0) = fun i => mx n xs (k + i) k := by
    funext i
    unfold mx
    congr 1
    omega
  rw [hf]
  have hm := mostF_lt (fun i => mx n xs (k + i) k) (n - k) (by omega)
  generalize hmm : mostF (fun i => mx n xs (k + i) k) (n - k) = m at *
  have e4 : IntKind.i64.wrap ((k : Int) + (m : Int)) = ((k + m : Nat) : Int) := by rw [wrap_i64 (by omega) (by omega)]; omega
  rw [e4]
  have s36 := e36.size
  refine move_Rows.ct (hb28.ext e36) hl hn hn (by omega) hk (by omega) fun w47 xs' e47 hb47 hl47 hv => ⟨.inr (e47.keep2 (by omega) (by have := hb.lt; omega) (by omega) (by have := hb.lt; omega)), _, rfl, ?_⟩
  rw [hl, ← hl47]
  have hkk2 := mx_lt (n := n) (m := n) (i := k) (j := k) hk hk
  refine view_At.ct hb47.flw (by omega) (by rw [hl47, ← hl]; exact g) (by unfold I64; omega) (by omega) (by omega) (by omega) (by omega) fun w57 e57 => ⟨.inl e57, _, rfl, ?_⟩
  have e5 : xs'.getD (0 + (k : Int) + (k : Int) * (n : Int)).toNat 0 = mx n xs' k k := by
    unfold mx
    congr 1
    rw [← Int.natCast_mul]
    omega
  rw [e5]
  exact h w57 xs' (k + m) ((Exc.ext_l (e028.trans e36) e47).ext_r e57) (hb47.ext e57) hl47 rfl (by omega) (by omega) hv

/-- What stands below the pivot of step k, divided by it. -/
theorem lu_Column.ct {q : Addr} {n k c : Nat} {xs : List Nat} {w : World} {K : Value → World → Prop} (hb : FBlk w q xs) (hl : xs.length = n * n) (hn : n ≤ 1048576) (hk : k + 1 < n)
    (h : ∀ w' xs', Exc q.block w w' → FBlk w' q xs' → xs'.length = n * n → (∀ r c, r < n → c < n → ¬ (k < r ∧ c = k) → mx n xs' r c = mx n xs r c) →
      (∀ r, k < r → r < n → cn (mx n xs' r k) = fb .quo (mx n xs r k) (mx n xs k k)) → K (vecV (some q) xs.length c ((k + 1 + k * n : Nat) : Int) ((n - k - 1 : Nat) : Int) 1) w') :
    lu_Column.call [matV (some q) xs.length c 0 n n n, .int .i64 (k : Int)] w K := by
  have hnn : n * n ≤ 1099511627776 := by
    have := Nat.mul_le_mul hn hn
    omega
  have hkn := mx_lt (n := n) (m := n) (i := n - 1) (j := n - 1) (by omega) (by omega)
  have hkk := mx_lt (n := n) (m := n) (i := n - 1) (j := k) (by omega) (by omega)
  have g : GoodM xs.length 0 n n n := by
    refine ⟨by omega, by omega, by omega, by omega, by omega, .inr (.inr ?_)⟩
    rw [hl]
    have e : ((n : Int) - 1) * n = (((n - 1) * n : Nat) : Int) := by rw [Int.natCast_mul]; congr 1; omega
    rw [e]
    omega
  refine lu_Column.os (n + 1) ?_
  unfold lu_Column.s
  intro k3 w2 hk3 _ e2 k7 w6 hk7 _ e6
  have s2 := e2.size
  have s6 := e6.size
  refine view_At.ct (hb.ext (e2.trans e6)).flw (by omega) g (by unfold I64; omega) (by omega) (by omega) (by omega) (by omega) fun w17 e17 => ⟨.inl e17, _, rfl, ?_⟩
  have hkk2 := mx_lt (n := n) (m := n) (i := k) (j := k) (by omega) (by omega)
  have e5 : xs.getD (0 + (k : Int) + (k : Int) * (n : Int)).toNat 0 = mx n xs k k := by
    unfold mx
    congr 1
    rw [← Int.natCast_mul]
    omega
  rw [e5]
  generalize hpv : mx n xs k k = pv
  refine view_Col.ct (by omega) g (by unfold I64; omega) (by unfold I64; omega) (by unfold I64; omega) (by unfold I64; omega) (by omega) (by omega) fun w27 e27 => ⟨.inl e27, _, _, _, _, _, _, rfl, ?_⟩
  intro k36 w35 hk36 _ e35 w38 e38 w40 e40 w42 e42
  have s17 := e17.size
  have s27 := e27.size
  have s35 := e35.size
  have s38 := e38.size
  have s40 := e40.size
  have s42 := e42.size
  have e042 : Ext w w42 := e42.ext (e40.ext (e38.ext ((((e2.trans e6).trans e17).trans e27).trans e35) (by omega)) (by omega)) (by omega)
  rw [if_pos (by omega)]
  have e1 : IntKind.i64.wrap (0 + (k : Int) * (n : Int) + IntKind.i64.wrap ((k : Int) + 1)) = ((k + 1 + k * n : Nat) : Int) := by
    rw [wrap_i64 (z := (k : Int) + 1) (by omega) (by omega), ← Int.natCast_mul, wrap_i64 (by omega) (by omega)]; omega
  have e3 : IntKind.i64.wrap ((n : Int) - IntKind.i64.wrap ((k : Int) + 1)) = ((n - k - 1 : Nat) : Int) := by
    rw [wrap_i64 (z := (k : Int) + 1) (by omega) (by omega), wrap_i64 (by omega) (by omega)]; omega
  rw [e1, e3]
  have hqb := hb.lt
  have main : ∀ (d i fu : Nat) (ys : List Nat) (w5 : World), i + d = n - k - 1 → d < fu → Exc q.block w w5 → k7 < w5.heap.size → k36 < w5.heap.size → FBlk w5 q ys → ys.length = n * n →
      (∀ r c, r < n → c < n → ¬ (k < r ∧ r < k + 1 + i ∧ c = k) → mx n ys r c = mx n xs r c) → (∀ r, k < r → r < k + 1 + i → r < n → cn (mx n ys r k) = fb .quo (mx n xs r k) pv) →
      lu_Column.d6 K fu k7 none 0 0 0 0 0 pv k36 (some q) xs.length c ((k + 1 + k * n : Nat) : Int) ((n - k - 1 : Nat) : Int) 1 ((n - k - 1 : Nat) : Int) (i : Int) w5 := by
    intro d
    induction d with
    | zero =>
      intro i fu ys w5 hi hfu e5 h7 h36 hb5 hl5 hv1 hv2
      obtain ⟨fu, rfl⟩ : ∃ m, fu = m + 1 := ⟨fu - 1, by omega⟩
      refine dec_false (by omega) ?_
      intro w21 e21
      refine h w21 ys (e5.fresh e21 (by omega)) (hb5.exc e21 (by omega)) hl5 (fun r c hr hc hn => hv1 r c hr hc (by omega)) (fun r h1 h2 => ?_)
      rw [hpv]; exact hv2 r h1 (by omega) h2
    | succ d ih =>
      intro i fu ys w5 hi hfu e5 h7 h36 hb5 hl5 hv1 hv2
      obtain ⟨fu, rfl⟩ : ∃ m, fu = m + 1 := ⟨fu - 1, by omega⟩
      have p1 := mx_lt (n := n) (m := n) (i := k + 1 + i) (j := k) (by omega) (by omega)
      have ep : IntKind.i64.wrap (((k + 1 + k * n : Nat) : Int) + (i : Int)) = ((k + 1 + i + k * n : Nat) : Int) := by rw [wrap_i64 (by omega) (by omega)]; omega
      rw [show lu_Column.d6 K (fu + 1) = lu_Column.e6 K (lu_Column.d6 K fu) from rfl]
      unfold lu_Column.e6
      rw [ep]
      simp only [Int.toNat_natCast]
      obtain ⟨a1, ha1, hc1, _⟩ := hb5.flw.get (i := k + 1 + i + k * n) (by omega)
      cases ha1
      refine dec_true (by omega) (ptrSome_intro rfl ⟨by omega, by omega, rd_f64.of hc1 (fop_cn fun r w10 hcr hrb e10 hh10 => ptrSome_intro rfl ⟨by omega, by omega, ?_⟩)⟩)
      have s10 := e10.size
      refine (hb5.ext e10).put (by omega) hrb fun w12 e12 hs12 hb12 => ⟨e12.keep2 (by omega) (by omega) (by omega) (by omega), ?_⟩
      have e9 : IntKind.i64.wrap ((i : Int) + 1) = ((i + 1 : Nat) : Int) := by rw [wrap_i64 (by omega) (by omega)]; omega
      rw [e9]
      have hold : ys.getD (k + 1 + i + k * n) 0 = mx n xs (k + 1 + i) k := hv1 (k + 1 + i) k (by omega) (by omega) (by omega)
      refine ih (i + 1) fu _ w12 (by omega) (by omega) ((e5.ext_r e10).trans e12) (by omega) (by omega) hb12 (by simp [hl5]) ?_ ?_
      · intro r c hr hc hne
        rw [mx_set hl5 (by omega) (by omega) hr, if_neg (by omega)]
        exact hv1 r c hr hc (by omega)
      · intro r h1 h2 hr
        rw [mx_set hl5 (by omega) (by omega) hr]
        by_cases hri : r = k + 1 + i
        · rw [if_pos ⟨hri, rfl⟩, hcr, hold, hri]
        · rw [if_neg (by omega)]
          exact hv2 r h1 (by omega) hr
  exact main (n - k - 1) 0 (n + 1) xs w42 (by omega) (by omega) (e042.exc _) (by omega) (by omega) (hb.ext e042) hl (fun _ _ _ _ _ => rfl) (fun r h1 h2 _ => by omega)
end Go.Proofs.Ytgdkahbnepafgaa

/-! ### AKfac -/
set_option maxRecDepth 100000
set_option maxHeartbeats 2000000
set_option linter.unusedVariables false
namespace Go.Proofs.Ytgdkahbnepafgaa
open Go Go.Wk Go.RowKit Ieee
attribute [local irreducible] br

theorem appIx {tb : TypeId} {w : World} {p : Option Addr} {n c base : Nat} {xs : List Int} {x : Int} {R : Option Addr → Nat → Nat → World → Prop} {ks : List Nat}
    (hown : Own w base tInt p n c (xs.map fun x => .int .i64 x)) (hbase : base ≤ w.heap.size) (hn : n < 8796093022300) (hks : ∀ k ∈ ks, k < w.heap.size ∧ ∀ a, p = some a → a.block ≠ k)
    (h : ∀ p' c' w', GrowP p w w' → Own w' base tInt p' (n + 1) c' ((xs ++ [x]).map fun x => .int .i64 x) → (∀ a, p' = some a → (∃ b, p = some b ∧ a.block = b.block) ∨ w.heap.size ≤ a.block) → R p' (n + 1) c' w') :
    newB [.int .i64 x] tb w fun q w2 => Raw prog (Builtin.append_ #[31, 31] 31 ⟨[.slice p n c, .slice (some q) 1 1]⟩) w2 fun v w3 => Stay ks w2 w3 ∧ ∃ (a : Option Addr) (m d : Nat), v = .slice a m d ∧ R a m d w3 :=
  app_x (t := tInts) (e := tInt) tInts_is tInt_is tInt_zero tInt_size tInt_bytes rfl hown hbase rfl (by omega) (by omega) hks fun p' c' w' h1 h2 h3 => h p' c' w' h1 (by simpa using h2) h3

/-- What a matrix in a list holds. -/
def matF (xs : List Nat) (off ld : Int) (i j : Nat) : Nat := xs.getD (off + (i : Int) + (j : Int) * ld).toNat 0

theorem lu_Factor.ct {p : Option Addr} {c : Nat} {off ld : Int} {n : Nat} {xs : List Nat} {w : World} {K : Value → World → Prop} (hx : Flw w p xs) (hn : xs.length < 4611686018427387904)
    (g : GoodM xs.length off n n ld) (ho : I64 off) (hl : I64 ld) (hr : n ≤ 64)
    (hok : ∀ w' q ys piv pp cc base, Ext w w' → w.heap.size ≤ q.block → q.block < base → FBlk w' q ys → ys.length = n * n → Fac n (matF xs off ld) n (mx n ys) piv → Own w' base tInt pp n cc (piv.map fun (x : Nat) => .int .i64 (x : Int)) →
      K (.tuple ⟨[.agg ⟨[.slice (some q) ys.length (n * n), .int .i64 0, .int .i64 n, .int .i64 n, .int .i64 ((max n 1 : Nat) : Int), .slice pp n cc]⟩, .int .i64 0, .int .i64 0]⟩) w')
    (hzero : ∀ w' k A piv, Ext w w' → k < n → Fac n (matF xs off ld) k A piv → fne .f64 (A (swp k (k + mostF (fun i => A (k + i) k) (n - k)) k) k) 0 = false →
      K (.tuple ⟨[.agg ⟨[.slice none 0 0, .int .i64 0, .int .i64 0, .int .i64 0, .int .i64 0, .slice none 0 0]⟩, .int .i64 ((k + 1 : Nat) : Int), .int .i64 4]⟩) w') :
    lu_Factor.call [matV p xs.length c off n n ld] w K := by
  have hnn : n * n ≤ 4096 := by
    have := Nat.mul_le_mul hr hr
    omega
  refine lu_Factor.os (2 * n * (n + 2) + 2) ?_
  unfold lu_Factor.s
  intro k3 w2 hk3 _ e2 k7 w6 hk7 hk7' e6
  have s2 := e2.size
  have s6 := e6.size
  have e06 := e2.trans e6
  refine lu_square.ct (hx.ext e06) hn g ho hl hr fun q w17 hq e17 hb => ⟨.inl e17, _, _, _, _, _, _, _, _, rfl, ?_⟩
  intro k28 w27 hk28 hk28' e27 w30 e30
  refine br_ne (fun hh => absurd rfl hh) fun _ => ?_
  intro w50 e50
  have s17 := e17.size
  have s27 := e27.size
  have s30 := e30.size
  have s50 := e50.size
  have hqlt := hb.lt
  have hb50 := ((hb.ext e27).exc e30 (by omega)).exc e50 (by omega)
  have e050 : Ext w w50 := e50.ext (e30.ext ((e06.trans e17).trans e27) (by omega)) (by omega)
  have hl50 : (numsL (fun (i j : Nat) => xs.getD (off + (i : Int) + (j : Int) * ld).toNat 0) n (n * n)).length = n * n := numsL_length _ _ _
  have hmx : ∀ r c, r < n → c < n → mx n (numsL (fun (i j : Nat) => xs.getD (off + (i : Int) + (j : Int) * ld).toNat 0) n (n * n)) r c = matF xs off ld r c := fun r c hr' hc' => numsL_get hr' hc'
  generalize numsL (fun (i j : Nat) => xs.getD (off + (i : Int) + (j : Int) * ld).toNat 0) n (n * n) = ys0 at *
  obtain ⟨base, hbase⟩ : ∃ base, base = w50.heap.size := ⟨_, rfl⟩
  have hmax : n ≠ 0 → ((max n 1 : Nat) : Int) = (n : Int) := by omega
  have c2 : k7 < base := by omega
  have c5 : k28 < base := by omega
  have cq : q.block < base := by omega
  have ne2 : k7 ≠ q.block := by omega
  have ne5 : k28 ≠ q.block := by omega
  have ne25 : k7 ≠ k28 := by omega
  have main : ∀ (d k fu : Nat) (ys : List Nat) (piv : List Nat) (pp : Option Addr) (cc : Nat) (w5 : World), k + d = n → d * (n + 2) + 1 ≤ fu → Ext w w5 → base ≤ w5.heap.size →
      FBlk w5 q ys → ys.length = n * n → Fac n (matF xs off ld) k (mx n ys) piv → Own w5 base tInt pp k cc (piv.map fun (x : Nat) => .int .i64 (x : Int)) →
      (lu_Factor.I K fu).1 k7 (some q) (n * n) (n * n) 0 n n ((max n 1 : Nat) : Int) pp k cc k28 (some q) (n * n) (n * n) 0 n n ((max n 1 : Nat) : Int) n n (k : Int) w5 := by
    intro d
    induction d with
    | zero =>
      intro k fu ys piv pp cc w5 hk hfu e5 s5 hb5 hl5 hf hown
      obtain ⟨fu, rfl⟩ : ∃ m, fu = m + 1 := ⟨fu - 1, by omega⟩
      show lu_Factor.e7 K (lu_Factor.I K fu).1 (lu_Factor.I K fu).2 _ _ _ _ _ _ _ _ _ _ _ _ _ _ _ _ _ _ _ _ _ _ _
      unfold lu_Factor.e7
      refine dec_false (by omega) ?_
      intro w111 e111
      have hkn : k = n := by omega
      subst hkn
      have := hok w111 q ys piv pp cc base (e111.ext e5 (by omega)) (by omega) cq (hb5.exc e111 (by omega)) hl5 hf (hown.exc_lt e111 c2)
      rw [hl5] at this
      exact this
    | succ d ih =>
      intro k fu ys piv pp cc w5 hk hfu e5 s5 hb5 hl5 hf hown
      have hfu' : d * (n + 2) + (n + 2) + 1 ≤ fu := by rw [Nat.succ_mul] at hfu; exact hfu
      obtain ⟨fu, rfl⟩ : ∃ m, fu = m + 1 := ⟨fu - 1, by omega⟩
      show lu_Factor.e7 K (lu_Factor.I K fu).1 (lu_Factor.I K fu).2 _ _ _ _ _ _ _ _ _ _ _ _ _ _ _ _ _ _ _ _ _ _ _
      unfold lu_Factor.e7
      rw [hmax (by omega), ← hl5]
      refine dec_true (by omega) ?_
      refine lu_Pivot.ct hb5 hl5 (by omega) (by omega) fun w10 zs pv e10 hb10 hl10 hpv hpv1 hpv2 hsw => ⟨.inr (e10.keep2 (by omega) ne2 (by omega) ne5), _, _, rfl, ?_⟩
      have s10 := e10.size
      have e010 := e10.ext e5 (by omega)
      have hskk : mx n zs k k = mx n ys (swp k pv k) k := hsw k k (by omega) (by omega)
      refine br_n (fun hz => ?_) (fun hz => ?_)
      · intro w14 e14
        have e9 : IntKind.i64.wrap ((k : Int) + 1) = ((k + 1 : Nat) : Int) := by rw [wrap_i64 (by omega) (by omega)]; omega
        rw [e9]
        refine hzero w14 k (mx n ys) piv (e14.ext e010 (by omega)) (by omega) hf ?_
        rw [← hpv, ← hskk]; exact hz
      have own10 := hown.exc_lt e10 cq
      have hmapp : (piv.map fun (x : Nat) => (.int .i64 (x : Int) : Value)) = ((piv.map fun (x : Nat) => (x : Int)).map fun x => .int .i64 x) := by simp
      rw [hmapp] at own10
      have hks2 : ∀ k' ∈ [k7, k28], k' < w10.heap.size ∧ ∀ a, pp = some a → a.block ≠ k' := by
        intro k' hk'
        simp at hk'
        rcases hk' with rfl | rfl
        · exact ⟨by omega, fun a ha => by have := (own10.lt ha).1; omega⟩
        · exact ⟨by omega, fun a ha => by have := (own10.lt ha).1; omega⟩
      refine appIx own10 (by omega) (by omega) hks2 fun pp' cc' w33 g33 own33 _ => ?_
      have s33 := g33.size
      have hfr10 := own10.fr
      have e033 : Ext w w33 := g33.ext e010 (hfr10.mono (by have := e050.size; omega))
      have hb33 := g33.fblk hb10 (fun a ha => by have := hfr10 a ha; omega)
      have hmapp2 : ((piv.map fun (x : Nat) => (x : Int)) ++ [(pv : Int)]).map (fun x => (.int .i64 x : Value)) = ((piv ++ [pv]).map fun (x : Nat) => .int .i64 (x : Int)) := by simp
      rw [hmapp2] at own33
      intro w38 e38
      have s38 := e38.size
      have e038 : Ext w w38 := e38.ext e033 (by omega)
      have own38 := own33.exc_lt e38 c2
      have hb38 := hb33.exc e38 (Ne.symm ne2)
      have erest : IntKind.i64.wrap (IntKind.i64.wrap ((n : Int) - (k : Int)) - 1) = ((n - k - 1 : Nat) : Int) := by
        rw [wrap_i64 (z := (n : Int) - (k : Int)) (by omega) (by omega), wrap_i64 (by omega) (by omega)]; omega
      rw [erest]
      have step0 : ∀ zs' : List Nat, (∀ r c, r < n → c < n → ¬ (k < r ∧ k ≤ c) → mx n zs' r c = mx n zs r c) → (∀ r, k < r → r < n → cn (mx n zs' r k) = fb .quo (mx n zs r k) (mx n zs k k)) →
          (∀ r c, k < r → r < n → k < c → c < n → cn (mx n zs' r c) = fb .add (mx n zs r c) (fb .mul (fb .mul negOne (mx n zs k c)) (mx n zs' r k))) →
          Fac n (matF xs off ld) (k + 1) (mx n zs') (piv ++ [pv]) := by
        intro zs' h1 h2 h3
        refine ⟨mx n ys, piv, pv, hf, rfl, hpv, hpv1, hpv2, ?_, ?_, ?_, ?_⟩
        · rw [← hskk]; exact hz
        · intro r c hr hc hh; rw [h1 r c hr hc hh, hsw r c hr hc]
        · intro r h4 h5; rw [h2 r h4 h5, hsw r k h5 (by omega), hskk]
        · intro r c h4 h5 h6 h7; rw [h3 r c h4 h5 h6 h7, hsw r c h5 h7, hsw k c (by omega) h7]
      refine br_e (fun hz0 => ?_) (fun hz0 => ?_)
      · -- the last one
        intro w51 e51
        have hkn : k + 1 = n := by omega
        have hfac := step0 zs (fun _ _ _ _ _ => rfl) (fun r h1 h2 => by omega) (fun r c h1 h2 _ _ => by omega)
        rw [hkn] at hfac own38
        have := hok w51 q zs (piv ++ [pv]) pp' cc' base (e51.ext e038 (by omega)) (by omega) cq (hb38.exc e51 (Ne.symm ne2)) hl10 hfac (own38.exc_lt e51 c2)
        rw [hmax (by omega), hl10, ← hl5] at this
        rw [hkn]
        exact this
      have hk1 : k + 1 < n := by omega
      rw [hl5, ← hl10]
      refine lu_Column.ct hb38 hl10 (by omega) hk1 fun w72 cs e72 hb72 hl72 hc1 hc2 => ⟨.inr (e72.keep2 (by omega) ne2 (by omega) ne5), _, _, _, _, _, _, rfl, ?_⟩
      intro k81 w80 hk81 hk81' e80 w83 e83
      have s72 := e72.size
      have s80 := e80.size
      have s83 := e83.size
      have e083 : Ext w w83 := e83.ext ((e72.ext e038 (by omega)).trans e80) (by have := e038.size; omega)
      have own83 := ((own38.exc_lt e72 cq).ext e80).exc e83 (fun a ha => by have := (own38.lt ha).2; omega)
      have hb83 := (hb72.ext e80).exc e83 (by omega)
      refine newB_heap fun q84 w85 hq84 s85 e85 q0 qs hh85 => ?_
      have hkk := mx_lt (n := n) (m := n) (i := n - 1) (j := k) (by omega) (by omega)
      have eoff : IntKind.i64.wrap (((k + 1 + k * n : Nat) : Int) + ((n - k - 1 : Nat) : Int)) = ((k + 1 + k * n + (n - k - 1) : Nat) : Int) := by
        rw [wrap_i64 (by omega) (by omega)]; omega
      rw [eoff]
      simp only [Int.toNat_natCast]
      refine ⟨by omega, by omega, by omega, by omega, ?_⟩
      have hif : (if zs.length = k + 1 + k * n then (some q : Option Addr) else (some q : Option Addr).map (·.add ((k + 1 + k * n) * 1))) = some (q.add (k + 1 + k * n)) := by
        rw [if_neg (by omega), Nat.mul_one]; rfl
      have hsub : k + 1 + k * n + (n - k - 1) - (k + 1 + k * n) = n - k - 1 := by omega
      rw [hif, hsub]
      have hb85 := hb83.ext e85
      have own84 : Own w85 w83.heap.size tF (some q84) 0 0 [] := Own.empty hh85 q0 qs (by omega)
      -- the column's numbers
      obtain ⟨lv, hlv⟩ : ∃ lv : List Nat, lv = (List.range (n - k - 1)).map fun i => mx n cs (k + 1 + i) k := ⟨_, rfl⟩
      have lvl : lv.length = n - k - 1 := by rw [hlv]; simp
      have lvg : ∀ i, i < n - k - 1 → lv.getD i 0 = mx n cs (k + 1 + i) k := by
        intro i hi; rw [hlv]; simp [List.getD, hi]
      have lvb : ∀ x ∈ lv, x < 18446744073709551616 := by
        intro x hx'
        rw [hlv] at hx'
        obtain ⟨i, hi, rfl⟩ := List.mem_map.1 hx'
        have hi' := List.mem_range.1 hi
        have hpl := mx_lt (n := n) (m := n) (i := k + 1 + i) (j := k) (by omega) (by omega)
        obtain ⟨_, _, _, hbb⟩ := hb72.flw.get (i := k + 1 + i + k * n) (by omega)
        exact hbb
      refine app_m (t := 22) (e := tF) (news := lv.map fun x => .float .f64 x) tFs_is tF_is tF_zero tF_size1 tF_bytes rfl own84 (by omega) (by simp [lvl]) ?_ ?_ (by omega) (by omega) (by omega) ?_ fun lp lc w93 g93 own93 lwh => ?_
      · intro j u hj
        simp only [List.getElem?_map, Option.map_eq_some_iff] at hj
        obtain ⟨x, hx', rfl⟩ := hj
        have hjl : j < n - k - 1 := by have := (List.getElem?_eq_some_iff.1 hx').1; omega
        have hpl := mx_lt (n := n) (m := n) (i := k + 1 + j) (j := k) (by omega) (by omega)
        obtain ⟨a, ha, hca, _⟩ := hb85.flw.get (i := k + 1 + j + k * n) (by omega)
        cases ha
        have hxe : x = mx n cs (k + 1 + j) k := by
          rw [← lvg j hjl, List.getD_eq_getElem?_getD, hx']; rfl
        rw [add_add, hxe, show k + 1 + k * n + j = k + 1 + j + k * n by omega]
        exact hca
      · intro u hu
        obtain ⟨x, _, rfl⟩ := List.mem_map.1 hu
        rfl
      · intro k' hk'
        simp at hk'
        rcases hk' with rfl | rfl | rfl
        · exact ⟨by omega, fun a ha => by cases ha; omega⟩
        · exact ⟨by omega, fun a ha => by cases ha; omega⟩
        · exact ⟨by omega, fun a ha => by cases ha; omega⟩
      intro w97 e97 w98 e98
      have s85' := e85.size
      have s93 := g93.size
      have s97 := e97.size
      have s98 := e98.size
      have lpb : ∀ a, lp = some a → w83.heap.size ≤ a.block := fun a ha => (own93.lt ha).1
      have e098 : Ext w w98 := e98.ext (e97.ext (g93.ext (e083.trans e85) (fun a ha => by cases ha; have := e083.size; omega)) (by have := e038.size; omega)) (by have := e038.size; omega)
      have own98 := (((own83.ext e85).grow g93 (fun a b ha hb => by cases hb; have := (own83.lt ha).2; omega)).exc e97 (fun a ha => by have := (own38.lt ha).2; omega)).exc e98 (fun a ha => by have := (own38.lt ha).2; omega)
      have hb98 := (((hb85.ext (Ext.refl _)) |> fun hh => g93.fblk hh (fun a ha => by cases ha; have := hb83.lt; omega)).exc e97 (by omega)).exc e98 (by omega)
      have ownl98 := (own93.exc e97 (fun a ha => by have := lpb a ha; omega)).exc e98 (fun a ha => by have := lpb a ha; omega)
      rw [Nat.zero_add] at ownl98 ⊢
      rw [List.nil_append] at ownl98
      have ek1 : IntKind.i64.wrap ((k : Int) + 1) = ((k + 1 : Nat) : Int) := by rw [wrap_i64 (by omega) (by omega)]; omega
      rw [ek1]
      obtain ⟨ub, hub⟩ : ∃ ub, ub = w98.heap.size := ⟨_, rfl⟩
      -- the row's numbers
      obtain ⟨uv, huv⟩ : ∃ uv : Nat → List Nat, uv = fun t => (List.range t).map fun i => mx n cs k (k + 1 + i) := ⟨_, rfl⟩
      have uvl : ∀ t, (uv t).length = t := by intro t; rw [huv]; simp
      have uvg : ∀ t i, i < t → (uv t).getD i 0 = mx n cs k (k + 1 + i) := by
        intro t i hi; rw [huv]; simp [List.getD, hi]
      have uvs : ∀ t, uv (t + 1) = uv t ++ [mx n cs k (k + 1 + t)] := by
        intro t; rw [huv]; simp [List.range_succ]
      have uvb : ∀ t, t ≤ n - k - 1 → ∀ x ∈ uv t, x < 18446744073709551616 := by
        intro t ht x hx'
        rw [huv] at hx'
        obtain ⟨i, hi, rfl⟩ := List.mem_map.1 hx'
        have hi' := List.mem_range.1 hi
        have hpl := mx_lt (n := n) (m := n) (i := k) (j := k + 1 + i) (by omega) (by omega)
        obtain ⟨_, _, _, hbb⟩ := hb72.flw.get (i := k + (k + 1 + i) * n) (by omega)
        exact hbb
      have gm : GoodM cs.length 0 n n n := by
        have hkn := mx_lt (n := n) (m := n) (i := n - 1) (j := n - 1) (by omega) (by omega)
        refine ⟨by omega, by omega, by omega, by omega, by omega, .inr (.inr ?_)⟩
        rw [hl72]
        have e : ((n : Int) - 1) * n = (((n - 1) * n : Nat) : Int) := by rw [Int.natCast_mul]; congr 1; omega
        rw [e]
        omega
      have inner : ∀ (t i fu' : Nat) (up : Option Addr) (uc : Nat) (w7 : World), i + t = n - k - 1 → d * (n + 2) + t + 2 ≤ fu' → Ext w98 w7 → Own w7 ub tF up i uc ((uv i).map fun x => .float .f64 x) →
          (lu_Factor.I K fu').2 k7 (some q) cs.length cs.length 0 n n n pp' (k + 1) cc' k28 (some q) cs.length cs.length 0 n n n n (k : Int) ((n - k - 1 : Nat) : Int) k81 lp (n - k - 1) lc 0 ((n - k - 1 : Nat) : Int) 1 up i uc ((k + 1 + i : Nat) : Int) n (k : Int) w7 := by
        intro t
        induction t with
        | zero =>
          intro i fu' up uc w7 hi hfu' e7 ownu
          obtain ⟨fu', rfl⟩ : ∃ m, fu' = m + 1 := ⟨fu' - 1, by omega⟩
          show lu_Factor.e20 K (lu_Factor.I K fu').1 (lu_Factor.I K fu').2 _ _ _ _ _ _ _ _ _ _ _ _ _ _ _ _ _ _ _ _ _ _ _ _ _ _ _ _ _ _ _ _ _ _ _ _
          unfold lu_Factor.e20
          have hin : i = n - k - 1 := by omega
          subst hin
          have s7 := e7.size
          have hb7 := hb98.ext e7
          refine dec_false (by omega) ?_
          rw [ek1]
          have e7d := e7.trans (Ext.drew w7)
          have hpp := mx_lt (n := n) (m := n) (i := n - 1) (j := n - 1) (by omega) (by omega)
          refine view_Part.ct (by omega) gm (by unfold I64; omega) (by unfold I64; omega) (by unfold I64; omega) (by unfold I64; omega) (by omega) (by omega) (by omega) (by omega) (by omega) (by omega) fun w36 e36 => ⟨.inl e36, _, _, _, _, _, _, _, rfl, e36.kept, ?_⟩
          have s36 := e36.size
          have e736 := e7d.trans e36
          have hb36 := hb98.ext e736
          have lown := ownl98.ext e736
          have uown := ownu.ext ((Ext.drew w7).trans e36)
          have ev1 : (0 : Int) + ((k + 1 : Nat) : Int) + ((k + 1 : Nat) : Int) * (n : Int) = (((k + 1) + (k + 1) * n : Nat) : Int) := by rw [← Int.natCast_mul]; omega
          rw [ev1]
          obtain ⟨la, hla, lpl, lbk⟩ := lown.some_of (by omega)
          obtain ⟨ua, hua, upl, ubk⟩ := uown.some_of (by omega)
          have hd7 : w7.drew.heap.size = w7.heap.size := rfl
          have geq := ger_Ger.ct (a := negOne) (cx := lc) (cy := uc) (cm := cs.length) (px := lp) (py := up) (xs := lv) (ys := uv (n - k - 1)) (K := fun v44 w45 => Stay [k7, k28, k81] w36 w45 ∧ ∃ i46 : Int, v44 = (.int .i64 i46) ∧
              (lu_Factor.I K fu').1 k7 (some q) cs.length cs.length 0 n n n pp' (k + 1) cc' k28 (some q) cs.length cs.length 0 n n n n n ((k + 1 : Nat) : Int) w45)
            hb36 hl72 (by omega) hk1 (lown.flw lvb) (uown.flw (uvb _ (Nat.le_refl _))) lvl (uvl _) ⟨la, hla, lpl, by omega⟩ ⟨ua, hua, upl, by omega⟩ fun w45 ms e45 hb45 hl45 hm1 hm2 => ?_
          · rw [lvl, uvl] at geq
            exact geq
          · refine ⟨.inr (e45.keep3 (by omega) ne2 (by omega) ne5 (by omega) (by omega)), _, rfl, ?_⟩
            have s45 := e45.size
            have hfac := step0 ms ?_ ?_ ?_
            · have := ih (k + 1) fu' ms (piv ++ [pv]) pp' cc' w45 (by omega) (by omega) (e45.ext (e098.trans e736) (by omega)) (by omega) hb45 hl45 hfac ((own98.ext e736).exc_lt e45 cq)
              rw [hmax (by omega)] at this
              rw [hl72]
              exact this
            · intro r c hr' hc' hne
              rw [hm1 r c hr' hc' (by omega), hc1 r c hr' hc' (by omega)]
            · intro r h1 h2
              rw [hm1 r k h2 (by omega) (by omega), hc2 r h1 h2]
            · intro r c h1 h2 h3 h4
              rw [hm2 r c h2 h4 h1 h3, hm1 r k h2 (by omega) (by omega), hc1 r c h2 h4 (by omega), lvg (r - k - 1) (by omega), uvg (n - k - 1) (c - k - 1) (by omega),
                show k + 1 + (r - k - 1) = r by omega, show k + 1 + (c - k - 1) = c by omega, hc1 k c (by omega) h4 (by omega)]
        | succ t iht =>
          intro i fu' up uc w7 hi hfu' e7 ownu
          obtain ⟨fu', rfl⟩ : ∃ m, fu' = m + 1 := ⟨fu' - 1, by omega⟩
          show lu_Factor.e20 K (lu_Factor.I K fu').1 (lu_Factor.I K fu').2 _ _ _ _ _ _ _ _ _ _ _ _ _ _ _ _ _ _ _ _ _ _ _ _ _ _ _ _ _ _ _ _ _ _ _ _
          unfold lu_Factor.e20
          have s7 := e7.size
          have hb7 := hb98.ext e7
          refine dec_true (by omega) ?_
          refine view_At.ct hb7.flw (by omega) gm (by unfold I64; omega) (by omega) (by omega) (by omega) (by omega) fun w10' e10' => ⟨.inl e10', _, rfl, ?_⟩
          have s10' := e10'.size
          have ev : cs.getD (0 + (k : Int) + ((k + 1 + i : Nat) : Int) * (n : Int)).toNat 0 = mx n cs k (k + 1 + i) := by
            unfold mx; congr 1; rw [← Int.natCast_mul]; omega
          rw [ev]
          have ownu' := ownu.ext e10'
          have hkk3 : ∀ k' ∈ [k7, k28, k81], k' < w10'.heap.size ∧ ∀ a, up = some a → a.block ≠ k' := by
            intro k' hk'
            simp at hk'
            rcases hk' with rfl | rfl | rfl
            · exact ⟨by omega, fun a ha => by have := (ownu'.lt ha).1; omega⟩
            · exact ⟨by omega, fun a ha => by have := (ownu'.lt ha).1; omega⟩
            · exact ⟨by omega, fun a ha => by have := (ownu'.lt ha).1; omega⟩
          refine appF ownu' (by omega) (by omega) hkk3 fun up' uc' w15 g15 ownu15 _ => ?_
          have e9 : IntKind.i64.wrap (((k + 1 + i : Nat) : Int) + 1) = ((k + 1 + (i + 1) : Nat) : Int) := by rw [wrap_i64 (by omega) (by omega)]; omega
          rw [e9]
          refine iht (i + 1) fu' up' uc' w15 (by omega) (by omega) (g15.ext (e7.trans e10') (ownu'.fr.mono (by omega))) ?_
          rw [uvs]; exact ownu15
      have := inner (n - k - 1) 0 fu none 0 w98 (by omega) (by omega) (Ext.refl _) (by rw [huv]; exact Own.nil _ _ _)
      rw [Nat.add_zero, hl72, ← hl10] at this
      exact this
  exact main n 0 _ ys0 [] none 0 w50 (by omega) (by rw [Nat.mul_assoc]; omega) e050 (by omega) hb50 hl50 ⟨hmx, rfl⟩ (Own.nil _ _ _)
end Go.Proofs.Ytgdkahbnepafgaa

/-! ### AKref3 -/
set_option maxRecDepth 100000
set_option maxHeartbeats 1000000
set_option linter.unusedVariables false
namespace Go.Proofs.Ytgdkahbnepafgaa
open Go Go.Wk Go.RowKit Ieee
attribute [local irreducible] br

/-- A table of the document's answer: rows, columns, numbers row by row. -/
abbrev tabV (r c : Int) (p : Option Addr) (n cap : Nat) : Value := .agg ⟨[.int .i64 r, .int .i64 c, .slice p n cap]⟩
/-- The number of row i and column j of a list of rows. -/
abbrev tb (c : Nat) (xs : List Nat) (i j : Nat) : Nat := mx c xs j i

theorem straightedgeref01_Abs.ct {x : Nat} {w : World} {K : Value → World → Prop} (hx : x < 18446744073709551616) (h : K (.float .f64 (rung x)) w) :
    straightedgeref01_Abs.call [.float .f64 x] w K := by
  refine straightedgeref01_Abs.ok ?_
  unfold straightedgeref01_Abs.x
  refine math_Float64bits.ct ⟨_, rfl, math_Float64frombits.ct ⟨_, rfl, ?_⟩⟩
  have h2 : Int.tmod (x : Int) 9223372036854775808 = ((rung x : Nat) : Int) := by
    have := tmodN x 9223372036854775808
    rw [show ((9223372036854775808 : Nat) : Int) = 9223372036854775808 from rfl] at this
    rw [this]; rfl
  rw [h2]
  exact h

theorem straightedgeref03_Great.ct {p : Option Addr} {n c : Nat} {off rows cols ld : Int} {w : World} {K : Value → World → Prop}
    (h : ∀ w', Ext w w' → K (.bool (decide (1000 < n ∨ 20 < rows ∨ 20 < cols))) w') : straightedgeref03_Great.call [matV p n c off rows cols ld] w K := by
  refine straightedgeref03_Great.os ?_
  unfold straightedgeref03_Great.s
  intro k3 w2 hk _ e2
  have := h w2 e2
  refine br_d (fun c1 => ?_) fun c1 => br_d (fun c2 => ?_) fun c2 => ?_
  · rwa [decide_eq_true (by omega)] at this
  · rwa [decide_eq_true (by omega)] at this
  · rwa [show decide (1000 < n ∨ 20 < rows ∨ 20 < cols) = decide (cols > 20) from decide_eq_decide.2 (by omega)] at this

theorem straightedgeref03_within.ct {n off a b c : Int} {w : World} {K : Value → World → Prop} (h1 : 0 ≤ n) (h2 : n < 4611686018427387904) (h3 : 0 ≤ off) (h4 : I64 off) (h5 : 0 ≤ a) (h6 : I64 a) (h7 : 1 ≤ b) (h8 : I64 b)
    (h9 : 0 ≤ c) (h10 : I64 c) (h : K (.bool (decide (off + a * b + c < n))) w) : straightedgeref03_within.call [.int .i64 n, .int .i64 off, .int .i64 a, .int .i64 b, .int .i64 c] w K := by
  unfold I64 at *
  have hm := Int.mul_nonneg h5 (show 0 ≤ b by omega)
  refine straightedgeref03_within.ok ?_
  unfold straightedgeref03_within.x
  have no : ¬ (off + a * b + c < n) → K (.bool false) w := fun hn => by rwa [decide_eq_false hn] at h
  refine br_d (fun c => no (by omega)) (fun c1 => ?_)
  rw [wrap_i64 (z := n - off) (by omega) (by omega)]
  refine br_d (fun c => no (by omega)) (fun c2 => br_e (fun c3 => ?_) fun c3 => eq_false' c3 ?_)
  · subst c3
    rw [Int.zero_mul] at h
    rwa [decide_eq_true (by omega)] at h
  · rw [wrap_i64 (z := n - off - c) (by omega) (by omega), wrap_i64 (z := n - off - c - 1) (by omega) (by omega), Int.tdiv_eq_ediv_of_nonneg (by omega)]
    have hd : 0 ≤ (n - off - c - 1) / a := Int.ediv_nonneg (by omega) (by omega)
    have hd2 : (n - off - c - 1) / a ≤ n - off - c - 1 := Int.ediv_le_self _ (by omega)
    rw [wrap_i64 (by omega) (by omega)]
    have := @ediv_steps b a (n - off - c - 1) (by omega)
    have e : (b ≤ (n - off - c - 1) / a) ↔ (off + a * b + c < n) := by rw [this, Int.mul_comm b a]; omega
    rwa [show decide (b ≤ (n - off - c - 1) / a) = decide (off + a * b + c < n) from decide_eq_decide.2 e]

theorem straightedgeref03_Good.ct {p : Option Addr} {n c : Nat} {off rows cols ld : Int} {w : World} {K : Value → World → Prop} (hn : n < 4611686018427387904) (ho : I64 off) (hr : I64 rows) (hc : I64 cols) (hl : I64 ld)
    (h : ∀ w', Ext w w' → K (.bool (goodB n off rows cols ld)) w') : straightedgeref03_Good.call [matV p n c off rows cols ld] w K := by
  unfold I64 at *
  refine straightedgeref03_Good.os ?_
  unfold straightedgeref03_Good.s
  intro k3 w2 hk _ e2
  have no : ¬ GoodM n off rows cols ld → K (.bool false) w2 := fun hn => by have := h w2 e2; rwa [good_no hn] at this
  have yes : GoodM n off rows cols ld → K (.bool true) w2 := fun hn => by have := h w2 e2; rwa [good_yes hn] at this
  refine br_d (fun c => no (by unfold GoodM; omega)) fun c1 => br_d (fun c => no (by unfold GoodM; omega)) fun c2 => br_d (fun c => no (by unfold GoodM; omega)) fun c3 =>
    br_d (fun c => no (by unfold GoodM; omega)) fun c4 => br_d (fun c => no (by unfold GoodM; omega)) fun c5 => br_e (fun c => yes (by unfold GoodM; omega)) fun c6 => br_e (fun c => yes (by unfold GoodM; omega)) fun c7 => ?_
  rw [wrap_i64 (by omega) (by omega), wrap_i64 (by omega) (by omega)]
  refine straightedgeref03_within.ct (by omega) (by omega) (by omega) ho (by omega) (by unfold I64; omega) (by omega) hl (by omega) (by unfold I64; omega) ⟨.inl (Ext.refl _), _, rfl, ?_⟩
  have e : (off + (cols - 1) * ld + (rows - 1) < n) ↔ GoodM n off rows cols ld := by unfold GoodM; omega
  have := h w2 e2
  unfold goodB at this
  rw [← decide_eq_decide.2 e] at this
  exact this

theorem straightedgeref03_New.ct {r c : Nat} {w : World} {K : Value → World → Prop} (hr : r ≤ 1048576) (hc : c ≤ 1048576)
    (h : ∀ q w', w.heap.size ≤ q.block → Ext w w' → FBlk w' q (List.replicate (r * c) 0) → K (tabV r c (some q) (r * c) (r * c)) w') :
    straightedgeref03_New.call [.int .i64 (r : Int), .int .i64 (c : Int)] w K := by
  have hrc : r * c ≤ 1099511627776 := by
    have := Nat.mul_le_mul hr hc
    omega
  refine straightedgeref03_New.os ?_
  unfold straightedgeref03_New.s
  intro k3 w2 hk _ e2
  have ew : IntKind.i64.wrap ((r : Int) * (c : Int)) = ((r * c : Nat) : Int) := by rw [← Int.natCast_mul, wrap_i64 (by omega) (by omega)]
  rw [ew, Int.toNat_natCast, zerosF]
  refine ⟨by omega, by omega, by omega, by omega, newB_blk fun q w6 hq _ e6 hb => ?_⟩
  intro w7 e7
  have s2 := e2.size
  refine h q w7 (by omega) (e7.ext (e2.trans e6) (by omega)) (FBlk.exc (w := w6) ⟨hb, ?_⟩ e7 (by omega))
  intro x hx; rw [List.eq_of_mem_replicate hx]; decide

theorem straightedgeref03_M_At.ct {p : Option Addr} {r c cap i j : Nat} {xs : List Nat} {w : World} {K : Value → World → Prop} (hx : Flw w p xs) (hl : xs.length = r * c) (hr : r ≤ 1048576) (hc : c ≤ 1048576) (hi : i < r) (hj : j < c)
    (h : ∀ w', Ext w w' → K (.float .f64 (tb c xs i j)) w') : straightedgeref03_M_At.call [tabV r c p xs.length cap, .int .i64 (i : Int), .int .i64 (j : Int)] w K := by
  have hrc : c * r ≤ 1099511627776 := by
    have := Nat.mul_le_mul hc hr
    omega
  rw [Nat.mul_comm] at hl
  have hp := mx_lt (n := c) (m := r) (i := j) (j := i) hj hi
  refine straightedgeref03_M_At.os ?_
  unfold straightedgeref03_M_At.s
  intro k3 w2 hk _ e2
  have e9 : IntKind.i64.wrap (IntKind.i64.wrap ((i : Int) * (c : Int)) + (j : Int)) = ((j + i * c : Nat) : Int) := by
    rw [← Int.natCast_mul, wrap_i64 (z := ((i * c : Nat) : Int)) (by omega) (by omega), wrap_i64 (by omega) (by omega)]; omega
  rw [e9, Int.toNat_natCast]
  obtain ⟨a, ha, hca, _⟩ := (hx.ext e2).get (i := j + i * c) (by omega)
  exact ptrSome_intro ha ⟨by omega, by omega, rd_f64.of hca (h _ e2)⟩

theorem straightedgeref03_M_Set.ct {q : Addr} {r c cap i j x : Nat} {xs : List Nat} {w : World} {K : Value → World → Prop} (hb : FBlk w q xs) (hl : xs.length = r * c) (hr : r ≤ 1048576) (hc : c ≤ 1048576) (hi : i < r) (hj : j < c)
    (hx : x < 18446744073709551616) (h : ∀ w', Exc q.block w w' → FBlk w' q (xs.set (j + i * c) x) → K (.tuple ⟨[]⟩) w') :
    straightedgeref03_M_Set.call [tabV r c (some q) xs.length cap, .int .i64 (i : Int), .int .i64 (j : Int), .float .f64 x] w K := by
  have hrc : c * r ≤ 1099511627776 := by
    have := Nat.mul_le_mul hc hr
    omega
  rw [Nat.mul_comm] at hl
  have hp := mx_lt (n := c) (m := r) (i := j) (j := i) hj hi
  refine straightedgeref03_M_Set.os ?_
  unfold straightedgeref03_M_Set.s
  intro k3 w2 hk hk' e2
  have e9 : IntKind.i64.wrap (IntKind.i64.wrap ((i : Int) * (c : Int)) + (j : Int)) = ((j + i * c : Nat) : Int) := by
    rw [← Int.natCast_mul, wrap_i64 (z := ((i * c : Nat) : Int)) (by omega) (by omega), wrap_i64 (by omega) (by omega)]; omega
  rw [e9, Int.toNat_natCast]
  have hq := hb.lt
  refine ptrSome_intro rfl ⟨by omega, by omega, (hb.ext e2).put (by omega) hx fun w3 e3 _ hb3 => ⟨e3.keep1 hk' (by omega), h w3 (Exc.ext_l e2 e3) hb3⟩⟩

/-- The numbers of a right matrix, as a table. -/
theorem straightedgeref03_Of.ct {p : Option Addr} {c : Nat} {off ld : Int} {rows cols : Nat} {xs : List Nat} {w : World} {K : Value → World → Prop} (hx : Flw w p xs) (hn : xs.length < 4611686018427387904)
    (g : GoodM xs.length off rows cols ld) (ho : I64 off) (hl : I64 ld) (hr : rows ≤ 1048576) (hc : cols ≤ 1048576)
    (h : ∀ q ys w', w.heap.size ≤ q.block → Ext w w' → FBlk w' q ys → ys.length = rows * cols → (∀ i j, i < rows → j < cols → tb cols ys i j = matF xs off ld i j) → K (tabV rows cols (some q) (rows * cols) (rows * cols)) w') :
    straightedgeref03_Of.call [matV p xs.length c off rows cols ld] w K := by
  have hrc : rows * cols ≤ 1099511627776 := by
    have := Nat.mul_le_mul hr hc
    omega
  have ho' := ho
  have hl' := hl
  unfold I64 at ho' hl'
  refine straightedgeref03_Of.os (rows * (cols + 2) + 2) ?_
  unfold straightedgeref03_Of.s
  intro k3 w2 hk3 hk3' e2 k7 w6 hk7 hk7' e6
  refine straightedgeref03_New.ct hr hc fun q w12 hq e12 hb => ⟨.inl e12, _, _, _, _, _, rfl, ?_⟩
  intro k20 w19 hk20 hk20' e19 w22 e22
  have s2 := e2.size
  have s6 := e6.size
  have s12 := e12.size
  have s19 := e19.size
  have s22 := e22.size
  have hqlt := hb.lt
  have e022 : Ext w w22 := e22.ext (((e2.trans e6).trans e12).trans e19) (by omega)
  have hb22 := (hb.ext e19).exc e22 (by omega)
  have main : ∀ (d i fu : Nat) (ys : List Nat) (w5 : World), i + d = rows → d * (cols + 2) + 1 ≤ fu → Ext w w5 → k20 < w5.heap.size → FBlk w5 q ys → ys.length = rows * cols →
      (∀ r s, r < i → s < cols → tb cols ys r s = matF xs off ld r s) →
      (straightedgeref03_Of.I K fu).1 k3 p xs.length c off rows cols ld k7 0 0 none 0 0 k20 rows cols (some q) (rows * cols) (rows * cols) (i : Int) w5 := by
    intro d
    induction d with
    | zero =>
      intro i fu ys w5 hi hfu e5 s5 hb5 hl5 hv
      obtain ⟨fu, rfl⟩ : ∃ m, fu = m + 1 := ⟨fu - 1, by omega⟩
      show straightedgeref03_Of.e3 K (straightedgeref03_Of.I K fu).1 (straightedgeref03_Of.I K fu).2 _ _ _ _ _ _ _ _ _ _ _ _ _ _ _ _ _ _ _ _ _ _
      unfold straightedgeref03_Of.e3
      refine dec_false (by omega) ?_
      intro w10 e10
      exact h q ys w10 (by omega) (e10.ext e5 (by omega)) (hb5.exc e10 (by omega)) hl5 fun r s hr' hs => hv r s (by omega) hs
    | succ d ih =>
      intro i fu ys w5 hi hfu e5 s5 hb5 hl5 hv
      have hfu' : d * (cols + 2) + (cols + 2) + 1 ≤ fu := by rw [Nat.succ_mul] at hfu; exact hfu
      obtain ⟨fu, rfl⟩ : ∃ m, fu = m + 1 := ⟨fu - 1, by omega⟩
      show straightedgeref03_Of.e3 K (straightedgeref03_Of.I K fu).1 (straightedgeref03_Of.I K fu).2 _ _ _ _ _ _ _ _ _ _ _ _ _ _ _ _ _ _ _ _ _ _
      unfold straightedgeref03_Of.e3
      refine dec_true (by omega) ?_
      have inner : ∀ (t j fu' : Nat) (zs : List Nat) (w7 : World), j + t = cols → d * (cols + 2) + t + 2 ≤ fu' → Ext w w7 → k20 < w7.heap.size → FBlk w7 q zs → zs.length = rows * cols →
          (∀ r s, r < i → s < cols → tb cols zs r s = matF xs off ld r s) → (∀ s, s < j → tb cols zs i s = matF xs off ld i s) →
          (straightedgeref03_Of.I K fu').2 k3 p xs.length c off rows cols ld k7 0 0 none 0 0 k20 rows cols (some q) (rows * cols) (rows * cols) (i : Int) (j : Int) w7 := by
        intro t
        induction t with
        | zero =>
          intro j fu' zs w7 hj hfu' e7 s7 hb7 hl7 hv1 hv2
          obtain ⟨fu', rfl⟩ : ∃ m, fu' = m + 1 := ⟨fu' - 1, by omega⟩
          show straightedgeref03_Of.e6 K (straightedgeref03_Of.I K fu').1 (straightedgeref03_Of.I K fu').2 _ _ _ _ _ _ _ _ _ _ _ _ _ _ _ _ _ _ _ _ _ _ _
          unfold straightedgeref03_Of.e6
          refine dec_false (by omega) ?_
          have e9 : IntKind.i64.wrap ((i : Int) + 1) = ((i + 1 : Nat) : Int) := by rw [wrap_i64 (by omega) (by omega)]; omega
          rw [e9]
          refine ih (i + 1) fu' zs w7 (by omega) (by omega) e7 s7 hb7 hl7 fun r s hr' hs => ?_
          by_cases hri : r = i
          · subst hri; exact hv2 s (by omega)
          · exact hv1 r s (by omega) hs
        | succ t iht =>
          intro j fu' zs w7 hj hfu' e7 s7 hb7 hl7 hv1 hv2
          obtain ⟨fu', rfl⟩ : ∃ m, fu' = m + 1 := ⟨fu' - 1, by omega⟩
          show straightedgeref03_Of.e6 K (straightedgeref03_Of.I K fu').1 (straightedgeref03_Of.I K fu').2 _ _ _ _ _ _ _ _ _ _ _ _ _ _ _ _ _ _ _ _ _ _ _
          unfold straightedgeref03_Of.e6
          have hp := place_lt g (i := (i : Int)) (j := (j : Int)) (by omega) (by omega) (by omega) (by omega)
          have g' := g
          unfold GoodM at g'
          have e9 : IntKind.i64.wrap (IntKind.i64.wrap (off + (i : Int)) + IntKind.i64.wrap ((j : Int) * ld)) = off + i + j * ld := by
            rw [wrap_i64 (z := off + (i : Int)) (by omega) (by omega), wrap_i64 (z := (j : Int) * ld) (by omega) (by omega), wrap_i64 (by omega) (by omega)]
          rw [e9]
          have e7d := e7.trans (Ext.drew w7)
          obtain ⟨a, ha, hca, hxb⟩ := (hx.ext e7d).get (i := (off + i + j * ld).toNat) (by omega)
          refine dec_true (by omega) (ptrSome_intro ha ⟨by omega, by omega, rd_f64.of hca ?_⟩)
          rw [← hl7]
          have sd : w7.drew.heap.size = w7.heap.size := rfl
          refine straightedgeref03_M_Set.ct (hb7.ext (Ext.drew w7)) hl7 hr hc (by omega) (by omega) hxb fun w21 e21 hb21 => ⟨.inr (e21.keep3 (by omega) (by omega) (by omega) (by omega) (by omega) (by omega)), rfl, ?_⟩
          have e10' : IntKind.i64.wrap ((j : Int) + 1) = ((j + 1 : Nat) : Int) := by rw [wrap_i64 (by omega) (by omega)]; omega
          rw [e10', hl7]
          have s21 := e21.size
          refine iht (j + 1) fu' _ w21 (by omega) (by omega) (e21.ext e7d (by omega)) (by omega) hb21 (by simp [hl7]) ?_ ?_
          · intro r s hr' hs
            show mx cols _ s r = _
            rw [mx_set (m := rows) (by rw [hl7, Nat.mul_comm]) (by omega) (by omega) hs, if_neg (by omega)]
            exact hv1 r s hr' hs
          · intro s hs
            show mx cols _ s i = _
            rw [mx_set (m := rows) (by rw [hl7, Nat.mul_comm]) (by omega) (by omega) (by omega)]
            by_cases hsj : s = j
            · rw [if_pos ⟨hsj, rfl⟩, hsj]; rfl
            · rw [if_neg (by omega)]
              exact hv2 s (by omega)
      exact inner cols 0 fu ys w5 (by omega) (by omega) e5 s5 hb5 hl5 hv (fun s hs => by omega)
  exact main rows 0 _ _ w22 (by omega) (by omega) e022 (by omega) hb22 (by simp) (fun r s hr' _ => by omega)
end Go.Proofs.Ytgdkahbnepafgaa

/-! ### AKref16 -/
set_option maxRecDepth 100000
set_option maxHeartbeats 1000000
set_option linter.unusedVariables false
namespace Go.Proofs.Ytgdkahbnepafgaa
open Go Go.Wk Go.RowKit Ieee
attribute [local irreducible] br

theorem appF0 {tb' : TypeId} {w : World} {p : Option Addr} {n c base : Nat} {xs : List Nat} {x : Nat} {R : Option Addr → Nat → Nat → World → Prop}
    (hown : Own w base tF p n c (xs.map fun x => .float .f64 x)) (hbase : base ≤ w.heap.size) (hn : n < 8796093022300)
    (h : ∀ p' c' w', GrowP p w w' → Own w' base tF p' (n + 1) c' ((xs ++ [x]).map fun x => .float .f64 x) → R p' (n + 1) c' w') :
    newB [.float .f64 x] tb' w fun q w2 => Raw prog (Builtin.append_ #[22, 22] 22 ⟨[.slice p n c, .slice (some q) 1 1]⟩) w2 fun v w3 => ∃ (a : Option Addr) (m d : Nat), v = .slice a m d ∧ R a m d w3 :=
  newB_raw (appF (ks := []) hown hbase hn (fun k hk => by cases hk) fun p' c' w' h1 h2 _ => h p' c' w' h1 h2)
theorem appI0 {tb' : TypeId} {w : World} {p : Option Addr} {n c base : Nat} {xs : List Int} {x : Int} {R : Option Addr → Nat → Nat → World → Prop}
    (hown : Own w base tInt p n c (xs.map fun x => .int .i64 x)) (hbase : base ≤ w.heap.size) (hn : n < 8796093022300)
    (h : ∀ p' c' w', GrowP p w w' → Own w' base tInt p' (n + 1) c' ((xs ++ [x]).map fun x => .int .i64 x) → R p' (n + 1) c' w') :
    newB [.int .i64 x] tb' w fun q w2 => Raw prog (Builtin.append_ #[31, 31] 31 ⟨[.slice p n c, .slice (some q) 1 1]⟩) w2 fun v w3 => ∃ (a : Option Addr) (m d : Nat), v = .slice a m d ∧ R a m d w3 :=
  newB_raw (appIx (ks := []) hown hbase hn (fun k hk => by cases hk) fun p' c' w' h1 h2 _ => h p' c' w' h1 h2)

theorem cn_eq_self {x : Nat} (h : ¬ nan x) : fne .f64 x x = false := by
  rw [fne_eq, feq_eq]
  simp [h]

/-- The greatest of numbers none of which is a NaN. -/
theorem straightedgeref05_Greatest.ct {p : Option Addr} {n c : Nat} {xs : List Nat} {w : World} {K : Value → World → Prop} (hx : Flw w p xs) (hl : xs.length = n) (hn : n < 4611686018427387904) (hnan : ∀ x ∈ xs, ¬ nan x)
    (h : ∀ w', Ext w w' → K (.float .f64 (greatL 0 xs)) w') : straightedgeref05_Greatest.call [.slice p n c] w K := by
  refine straightedgeref05_Greatest.ok (2 * n + 3) ?_
  unfold straightedgeref05_Greatest.x
  have hmem : ∀ i, i < n → ¬ nan (xs.getD i 0) := by
    intro i hi
    rw [List.getD_eq_getElem?_getD, List.getElem?_eq_getElem (by omega)]
    exact hnan _ (List.getElem_mem _)
  have second : ∀ (d i fu : Nat) (w5 : World), i + d = n → d < fu → Ext w w5 → (straightedgeref05_Greatest.H K fu).2 p n c (greatL 0 (xs.take i)) (i : Int) w5 := by
    intro d
    induction d with
    | zero =>
      intro i fu w5 hi hfu e5
      obtain ⟨fu, rfl⟩ : ∃ m, fu = m + 1 := ⟨fu - 1, by omega⟩
      show straightedgeref05_Greatest.b8 K (straightedgeref05_Greatest.H K fu).1 (straightedgeref05_Greatest.H K fu).2 _ _ _ _ _ _
      unfold straightedgeref05_Greatest.b8
      refine dec_false (by omega) ?_
      rw [List.take_of_length_le (by omega)]
      exact h _ e5
    | succ d ih =>
      intro i fu w5 hi hfu e5
      obtain ⟨fu, rfl⟩ : ∃ m, fu = m + 1 := ⟨fu - 1, by omega⟩
      show straightedgeref05_Greatest.b8 K (straightedgeref05_Greatest.H K fu).1 (straightedgeref05_Greatest.H K fu).2 _ _ _ _ _ _
      unfold straightedgeref05_Greatest.b8
      obtain ⟨a, ha, hca, _⟩ := (hx.ext e5).get (i := i) (by omega)
      have e9 : IntKind.i64.wrap ((i : Int) + 1) = ((i + 1 : Nat) : Int) := by rw [wrap_i64 (by omega) (by omega)]; omega
      have et : xs.take (i + 1) = xs.take i ++ [xs.getD i 0] := by
        rw [List.take_add_one]; simp [List.getD, show i < xs.length by omega]
      have rc := ih (i + 1) fu w5 (by omega) (by omega) e5
      rw [et, greatL_snoc] at rc
      rw [e9, Int.toNat_natCast]
      refine dec_true (by omega) (ptrSome_intro ha ⟨by omega, by omega, rd_f64.of hca (br_intro (fun hb => ?_) (fun hb => ?_))⟩)
      · rw [if_pos hb] at rc
        exact ptrSome_intro ha ⟨by omega, by omega, rd_f64.of hca rc⟩
      · rw [if_neg (by rw [hb]; exact Bool.false_ne_true)] at rc
        exact rc
  have first : ∀ (d i fu : Nat) (w5 : World), i + d = n → d + n + 1 < fu → Ext w w5 → (straightedgeref05_Greatest.H K fu).1 p n c 0 (i : Int) w5 := by
    intro d
    induction d with
    | zero =>
      intro i fu w5 hi hfu e5
      obtain ⟨fu, rfl⟩ : ∃ m, fu = m + 1 := ⟨fu - 1, by omega⟩
      show straightedgeref05_Greatest.b3 K (straightedgeref05_Greatest.H K fu).1 (straightedgeref05_Greatest.H K fu).2 _ _ _ _ _ _
      unfold straightedgeref05_Greatest.b3
      exact dec_false (by omega) (second n 0 fu w5 (by omega) (by omega) e5)
    | succ d ih =>
      intro i fu w5 hi hfu e5
      obtain ⟨fu, rfl⟩ : ∃ m, fu = m + 1 := ⟨fu - 1, by omega⟩
      show straightedgeref05_Greatest.b3 K (straightedgeref05_Greatest.H K fu).1 (straightedgeref05_Greatest.H K fu).2 _ _ _ _ _ _
      unfold straightedgeref05_Greatest.b3
      have e5' := e5.trans (Ext.drew w5)
      obtain ⟨a, ha, hca, _⟩ := (hx.ext e5').get (i := i) (by omega)
      have e9 : IntKind.i64.wrap ((i : Int) + 1) = ((i + 1 : Nat) : Int) := by rw [wrap_i64 (by omega) (by omega)]; omega
      rw [e9, Int.toNat_natCast]
      refine dec_true (by omega) (ptrSome_intro ha ⟨by omega, by omega, rd_f64.of hca (ptrSome_intro ha ⟨by omega, by omega, rd_f64.of hca ?_⟩)⟩)
      rw [cn_eq_self (hmem i (by omega))]
      exact br_false rfl (ih (i + 1) fu _ (by omega) (by omega) e5')
  exact first n 0 _ w (by omega) (by omega) (Ext.refl _)

theorem rung_nan {x : Nat} : nan (rung x) ↔ nan x := by
  unfold nan
  rw [rung_of (rung_lt x)]

theorem straightedgeref10_Most.ct {p : Option Addr} {n c : Nat} {xs : List Nat} {w : World} {K : Value → World → Prop} (hx : Flw w p xs) (hl : xs.length = n) (hn : n < 8796093022300) (hnan : ∀ x ∈ xs, ¬ nan x)
    (h : ∀ w', Ext w w' → K (.float .f64 (greatL 0 (xs.map rung))) w') : straightedgeref10_Most.call [.slice p n c] w K := by
  refine straightedgeref10_Most.ok (n + 1) ?_
  unfold straightedgeref10_Most.x
  have main : ∀ (d i fu : Nat) (po : Option Addr) (co : Nat) (w5 : World), i + d = n → d < fu → Ext w w5 → Own w5 w.heap.size tF po i co (((xs.take i).map rung).map fun x => .float .f64 x) →
      straightedgeref10_Most.c3 K fu p n c po i co (i : Int) w5 := by
    intro d
    induction d with
    | zero =>
      intro i fu po co w5 hi hfu e5 hown
      obtain ⟨fu, rfl⟩ : ∃ m, fu = m + 1 := ⟨fu - 1, by omega⟩
      refine dec_false (by omega) ?_
      rw [List.take_of_length_le (by omega)] at hown
      have hbits : ∀ x ∈ xs.map rung, x < 18446744073709551616 := by
        intro x hx'
        obtain ⟨y, _, rfl⟩ := List.mem_map.1 hx'
        have := rung_lt y; omega
      refine straightedgeref05_Greatest.ct (hown.flw hbits) (by simp; omega) (by omega) ?_ fun w14 e14 => ⟨_, rfl, h _ (e5.trans e14)⟩
      intro x hx'
      obtain ⟨y, hy, rfl⟩ := List.mem_map.1 hx'
      rw [rung_nan]; exact hnan y hy
    | succ d ih =>
      intro i fu po co w5 hi hfu e5 hown
      obtain ⟨fu, rfl⟩ : ∃ m, fu = m + 1 := ⟨fu - 1, by omega⟩
      obtain ⟨a, ha, hca, hb⟩ := (hx.ext e5).get (i := i) (by omega)
      have e9 : IntKind.i64.wrap ((i : Int) + 1) = ((i + 1 : Nat) : Int) := by rw [wrap_i64 (by omega) (by omega)]; omega
      refine dec_true (by omega) (ptrSome_intro ha ⟨by omega, by omega, rd_f64.of (by rw [Int.toNat_natCast]; exact hca) ?_⟩)
      refine straightedgeref01_Abs.ct hb ⟨_, rfl, ?_⟩
      rw [e9]
      refine appF0 hown (by have := e5.size; omega) (by omega) fun p' c' w' hg hown' => ?_
      refine ih (i + 1) fu p' c' w' (by omega) (by omega) (hg.ext e5 hown.fr) ?_
      have et : xs.take (i + 1) = xs.take i ++ [xs.getD i 0] := by
        rw [List.take_add_one]; simp [List.getD, show i < xs.length by omega]
      rw [et, List.map_append]
      exact hown'
  exact main n 0 (n + 1) none 0 w (by omega) (by omega) (Ext.refl _) (Own.nil _ _ _)

theorem straightedgeref10_Max.ct {r cc : Int} {p : Option Addr} {n c : Nat} {xs : List Nat} {w : World} {K : Value → World → Prop} (hx : Flw w p xs) (hl : xs.length = n) (hn : n < 8796093022300) (hnan : ∀ x ∈ xs, ¬ nan x)
    (h : ∀ w', Ext w w' → K (.float .f64 (greatL 0 (xs.map rung))) w') : straightedgeref10_Max.call [tabV r cc p n c] w K := by
  refine straightedgeref10_Max.os ?_
  unfold straightedgeref10_Max.s
  intro k3 w2 hk _ e2
  exact straightedgeref10_Most.ct (hx.ext e2) hl hn hnan fun w3 e3 => ⟨.inl e3, _, rfl, h _ (e2.trans e3)⟩

theorem straightedgeref16_Piv.ct {p : Option Addr} {n c : Nat} {piv : List Nat} {w : World} {K : Value → World → Prop} (hx : Ints w p n (piv.map fun (x : Nat) => (x : Int))) (hn : n < 4611686018427387904) (hp : PivOk piv)
    (h : ∀ w', Ext w w' → K (.bool true) w') : straightedgeref16_Piv.call [.slice p n c] w K := by
  have hl : piv.length = n := by have := hx.len; simpa using this
  refine straightedgeref16_Piv.ok (n + 1) ?_
  unfold straightedgeref16_Piv.x
  have main : ∀ (d i fu : Nat), i + d = n → d < fu → straightedgeref16_Piv.c2 K fu p n c (i : Int) w := by
    intro d
    induction d with
    | zero =>
      intro i fu hi hfu
      obtain ⟨fu, rfl⟩ : ∃ m, fu = m + 1 := ⟨fu - 1, by omega⟩
      exact dec_false (by omega) (h _ (Ext.refl _))
    | succ d ih =>
      intro i fu hi hfu
      obtain ⟨fu, rfl⟩ : ∃ m, fu = m + 1 := ⟨fu - 1, by omega⟩
      obtain ⟨a, ha, hca⟩ := hx.at_ i ((piv.getD i 0 : Nat) : Int) (by simp [List.getD, show i < piv.length by omega])
      have hpi := hp i (by omega)
      have e9 : IntKind.i64.wrap ((i : Int) + 1) = ((i + 1 : Nat) : Int) := by rw [wrap_i64 (by omega) (by omega)]; omega
      refine dec_true (by omega) (ptrSome_intro ha ⟨by omega, by omega, rd_i64.of (by rw [Int.toNat_natCast]; exact hca) (dec_false (by omega) (ptrSome_intro ha ⟨by omega, by omega, rd_i64.of (by rw [Int.toNat_natCast]; exact hca) (dec_false (by omega) ?_)⟩))⟩)
      rw [e9]
      exact ih (i + 1) fu (by omega) (by omega)
  exact main n 0 (n + 1) (by omega) (by omega)

theorem straightedgeref16_Order.ct {p : Option Addr} {n c : Nat} {piv : List Nat} {w : World} {K : Value → World → Prop} (hx : Ints w p n (piv.map fun (x : Nat) => (x : Int))) (hn : n ≤ 1048576) (hp : PivOk piv)
    (h : ∀ p' c' w', Ext w w' → Ints w' p' n ((ordR piv n).map fun (x : Nat) => (x : Int)) → K (.slice p' n c') w') : straightedgeref16_Order.call [.slice p n c] w K := by
  have hl : piv.length = n := by have := hx.len; simpa using this
  refine straightedgeref16_Order.ok (2 * n + 3) ?_
  unfold straightedgeref16_Order.x
  have second : ∀ (d i fu : Nat) (po : Option Addr) (co : Nat) (w5 : World), i + d = n → d < fu → Ext w w5 → Own w5 w.heap.size tInt po n co (((ordR piv i).map fun (x : Nat) => (x : Int)).map fun x => .int .i64 x) →
      (straightedgeref16_Order.H K fu).2 p n c po n co (i : Int) w5 := by
    intro d
    induction d with
    | zero =>
      intro i fu po co w5 hi hfu e5 hown
      obtain ⟨fu, rfl⟩ : ∃ m, fu = m + 1 := ⟨fu - 1, by omega⟩
      show straightedgeref16_Order.b7 K (straightedgeref16_Order.H K fu).1 (straightedgeref16_Order.H K fu).2 _ _ _ _ _ _ _ _
      unfold straightedgeref16_Order.b7
      refine dec_false (by omega) ?_
      have : i = n := by omega
      subst this
      exact h _ _ _ e5 hown.ints
    | succ d ih =>
      intro i fu po co w5 hi hfu e5 hown
      obtain ⟨fu, rfl⟩ : ∃ m, fu = m + 1 := ⟨fu - 1, by omega⟩
      show straightedgeref16_Order.b7 K (straightedgeref16_Order.H K fu).1 (straightedgeref16_Order.H K fu).2 _ _ _ _ _ _ _ _
      unfold straightedgeref16_Order.b7
      obtain ⟨oa, rfl, _, hoa⟩ := hown.some_of (by omega)
      have e5' := e5.trans (Ext.drew w5)
      have hownd := hown.ext (Ext.drew w5)
      obtain ⟨a, ha, hca⟩ := (hx.ext e5').at_ i ((piv.getD i 0 : Nat) : Int) (by simp [List.getD, show i < piv.length by omega])
      have hpi := hp i (by omega)
      have hol := ordR_length piv i
      obtain ⟨pv, hpv⟩ : ∃ pv, pv = piv.getD i 0 := ⟨_, rfl⟩
      rw [← hpv] at hpi hca
      have getO : ∀ j, j < n → w5.drew.cell? (oa.add j) = some (.int .i64 (((ordR piv i).getD j 0 : Nat) : Int)) := by
        intro j hj
        obtain ⟨b, hb, hcb⟩ := hownd.cell j (.int .i64 (((ordR piv i).getD j 0 : Nat) : Int)) (by simp [List.getD, show j < (ordR piv i).length by omega])
        cases hb
        exact hcb
      have e9 : IntKind.i64.wrap ((i : Int) + 1) = ((i + 1 : Nat) : Int) := by rw [wrap_i64 (by omega) (by omega)]; omega
      refine dec_true (by omega) (ptrSome_intro rfl ⟨by omega, by omega, rd_i64.of (by rw [Int.toNat_natCast]; exact getO i (by omega)) (ptrSome_intro ha ⟨by omega, by omega, rd_i64.of (by rw [Int.toNat_natCast]; exact hca)
        (ptrSome_intro rfl ⟨by omega, by omega, rd_i64.of (by rw [Int.toNat_natCast]; exact getO pv (by omega)) (ptrSome_intro rfl ⟨by omega, by omega, ?_⟩)⟩)⟩)⟩)
      rw [Int.toNat_natCast, e9]
      refine hownd.put (by omega) rfl fun w9 e9' s9 hown9 => ?_
      have sd : w5.drew.heap.size = w5.heap.size := rfl
      have e09 : Ext w w9 := e9'.ext e5' hoa
      obtain ⟨a', ha', hca'⟩ := (hx.ext e09).at_ i (pv : Int) (by rw [hpv]; simp [List.getD, show i < piv.length by omega])
      refine ptrSome_intro ha' ⟨by omega, by omega, rd_i64.of hca' (ptrSome_intro rfl ⟨by omega, by omega, ?_⟩)⟩
      rw [Int.toNat_natCast]
      refine hown9.put (by omega) rfl fun w13 e13 s13 hown13 => ?_
      refine ih (i + 1) fu _ co w13 (by omega) (by omega) (e13.ext e09 hoa) ?_
      have eo : (((ordR piv (i + 1)).map fun (x : Nat) => (x : Int)).map fun x => (.int .i64 x : Value)) =
          (((((ordR piv i).map fun (x : Nat) => (x : Int)).map fun x => (.int .i64 x : Value)).set i (.int .i64 (((ordR piv i).getD pv 0 : Nat) : Int))).set pv (.int .i64 (((ordR piv i).getD i 0 : Nat) : Int))) := by
        show ((((ordStep (ordR piv i) i (piv.getD i 0)).map fun (x : Nat) => (x : Int)).map fun x => (.int .i64 x : Value))) = _
        rw [← hpv]
        unfold ordStep
        rw [List.map_set, List.map_set, List.map_set, List.map_set]
      rw [eo]
      exact hown13
  have first : ∀ (d i fu : Nat) (po : Option Addr) (co : Nat) (w5 : World), i + d = n → d + n + 1 < fu → Ext w w5 → Own w5 w.heap.size tInt po i co (((List.range i).map fun (x : Nat) => (x : Int)).map fun x => .int .i64 x) →
      (straightedgeref16_Order.H K fu).1 p n c po i co (i : Int) w5 := by
    intro d
    induction d with
    | zero =>
      intro i fu po co w5 hi hfu e5 hown
      obtain ⟨fu, rfl⟩ : ∃ m, fu = m + 1 := ⟨fu - 1, by omega⟩
      show straightedgeref16_Order.b3 K (straightedgeref16_Order.H K fu).1 (straightedgeref16_Order.H K fu).2 _ _ _ _ _ _ _ _
      unfold straightedgeref16_Order.b3
      refine dec_false (by omega) ?_
      have : i = n := by omega
      subst this
      exact second i 0 fu po co w5 (by omega) (by omega) e5 (by rw [show ordR piv 0 = List.range i by unfold ordR; rw [hl]]; exact hown)
    | succ d ih =>
      intro i fu po co w5 hi hfu e5 hown
      obtain ⟨fu, rfl⟩ : ∃ m, fu = m + 1 := ⟨fu - 1, by omega⟩
      show straightedgeref16_Order.b3 K (straightedgeref16_Order.H K fu).1 (straightedgeref16_Order.H K fu).2 _ _ _ _ _ _ _ _
      unfold straightedgeref16_Order.b3
      have e9 : IntKind.i64.wrap ((i : Int) + 1) = ((i + 1 : Nat) : Int) := by rw [wrap_i64 (by omega) (by omega)]; omega
      rw [e9]
      refine dec_true (by omega) (appI0 hown (by have := e5.size; omega) (by omega) fun p' c' w' hg hown' => ?_)
      refine ih (i + 1) fu p' c' w' (by omega) (by omega) (hg.ext e5 hown.fr) ?_
      rw [List.range_succ, List.map_append]
      exact hown'
  exact first n 0 _ none 0 w (by omega) (by omega) (Ext.refl _) (Own.nil _ _ _)

abbrev oneF : Nat := 4607182418800017408

/-- L and U of a square. -/
theorem straightedgeref16_Parts.ct {p : Option Addr} {n c : Nat} {xs : List Nat} {w : World} {K : Value → World → Prop} (hx : Flw w p xs) (hl : xs.length = n * n) (hn : n ≤ 1048576)
    (h : ∀ ql qu ls us w', w.heap.size ≤ ql.block → w.heap.size ≤ qu.block → ql.block ≠ qu.block → Ext w w' → FBlk w' ql ls → FBlk w' qu us → ls.length = n * n → us.length = n * n →
      (∀ i j, i < n → j < n → tb n ls i j = if j < i then tb n xs i j else if i = j then oneF else 0) → (∀ i j, i < n → j < n → tb n us i j = if i ≤ j then tb n xs i j else 0) →
      K (.tuple ⟨[tabV n n (some ql) (n * n) (n * n), tabV n n (some qu) (n * n) (n * n)]⟩) w') :
    straightedgeref16_Parts.call [tabV n n p xs.length c] w K := by
  have hnn : n * n ≤ 1099511627776 := by
    have := Nat.mul_le_mul hn hn
    omega
  refine straightedgeref16_Parts.os (n * (n + 2) + 2) ?_
  unfold straightedgeref16_Parts.s
  intro k3 w2 hk3 _ e2 k7 w6 hk7 _ e6 k11 w10 hk11 _ e10 w18 e18
  refine straightedgeref03_New.ct hn hn fun ql w20 hql e20 hbl => ⟨e20, _, _, _, _, _, rfl, ?_⟩
  intro w26 e26
  refine straightedgeref03_New.ct hn hn fun qu w28 hqu e28 hbu => ⟨e28, _, _, _, _, _, rfl, ?_⟩
  intro w34 e34 k36 h36a h36b h36c h36d k39 h39a h39b h39c h39d hkk w41 e41 w42 e42
  have sd : w10.drew.heap.size = w10.heap.size := rfl
  have s2 := e2.size
  have s6 := e6.size
  have s10 := e10.size
  have s18 := e18.size
  have s20 := e20.size
  have s26 := e26.size
  have s28 := e28.size
  have s34 := e34.size
  have s41 := e41.size
  have s42 := e42.size
  have lql := hbl.lt
  have lqu := hbu.lt
  have n1 : ql.block ≠ k36 := by omega
  have n2 : ql.block ≠ k39 := by omega
  have n3 : qu.block ≠ k36 := by omega
  have n4 : qu.block ≠ k39 := by omega
  have n5 : ql.block ≠ qu.block := by omega
  have e034 : Ext w w34 := (((((((e2.trans e6).trans e10).trans (Ext.drew _)).trans e18).trans e20).trans e26).trans e28).trans e34
  have e042 : Ext w w42 := e42.ext (e41.ext e034 (by omega)) (by omega)
  have bl42 := ((((hbl.ext e26).ext e28).ext e34).exc e41 n1).exc e42 n2
  have bu42 := ((hbu.ext e34).exc e41 n3).exc e42 n4
  have hz : ∀ i j, tb n (List.replicate (n * n) 0) i j = 0 := by
    intro i j
    show (List.replicate (n * n) 0).getD _ 0 = 0
    rw [List.getD_eq_getElem?_getD, List.getElem?_replicate]
    split <;> rfl
  have hmn : n * n = n * n := rfl
  have base : w10.heap.size ≤ w42.heap.size := by omega
  have ks : ∀ w5 : World, w42.heap.size ≤ w5.heap.size → k3 < w5.heap.size ∧ k7 < w5.heap.size ∧ k11 < w5.heap.size ∧ k36 < w5.heap.size ∧ k39 < w5.heap.size := fun w5 h5 => by omega
  have keepL : ∀ {w5 w6 : World}, w42.heap.size ≤ w5.heap.size → Exc ql.block w5 w6 → Keep [k3, k7, k11, k36, k39] w5 w6 := by
    intro w5 w6 h5 e
    obtain ⟨a1, a2, a3, a4, a5⟩ := ks w5 h5
    refine e.keep fun j hj => ?_
    simp at hj
    rcases hj with rfl | rfl | rfl | rfl | rfl <;> exact ⟨by assumption, by omega⟩
  have keepU : ∀ {w5 w6 : World}, w42.heap.size ≤ w5.heap.size → Exc qu.block w5 w6 → Keep [k3, k7, k11, k36, k39] w5 w6 := by
    intro w5 w6 h5 e
    obtain ⟨a1, a2, a3, a4, a5⟩ := ks w5 h5
    refine e.keep fun j hj => ?_
    simp at hj
    rcases hj with rfl | rfl | rfl | rfl | rfl <;> exact ⟨by assumption, by omega⟩
  have main : ∀ (d i fu : Nat) (ls us : List Nat) (w5 : World), i + d = n → d * (n + 2) + 1 ≤ fu → Ext w w5 → w42.heap.size ≤ w5.heap.size → FBlk w5 ql ls → FBlk w5 qu us → ls.length = n * n → us.length = n * n →
      (∀ r s, r < n → s < n → tb n ls r s = if i ≤ r then 0 else if s < r then tb n xs r s else if r = s then oneF else 0) →
      (∀ r s, r < n → s < n → tb n us r s = if i ≤ r then 0 else if r ≤ s then tb n xs r s else 0) →
      (straightedgeref16_Parts.I K fu).1 k3 n n p xs.length c k7 0 0 none 0 0 k11 0 0 none 0 0 k36 n n (some ql) (n * n) (n * n) k39 n n (some qu) (n * n) (n * n) (i : Int) w5 := by
    intro d
    induction d with
    | zero =>
      intro i fu ls us w5 hi hfu e5 s5 hl5 hu5 ll lu hv1 hv2
      obtain ⟨fu, rfl⟩ : ∃ m, fu = m + 1 := ⟨fu - 1, by omega⟩
      show straightedgeref16_Parts.e3 K (straightedgeref16_Parts.I K fu).1 (straightedgeref16_Parts.I K fu).2 _ _ _ _ _ _ _ _ _ _ _ _ _ _ _ _ _ _ _ _ _ _ _ _ _ _ _ _ _ _ _ _
      unfold straightedgeref16_Parts.e3
      refine dec_false (by omega) ?_
      intro w17 e17 w19 e19
      have hin : i = n := by omega
      have sd5 : w5.drew.heap.size = w5.heap.size := rfl
      have e019 : Ext w w19 := e19.ext (e17.ext (e5.trans (Ext.drew _)) (by omega)) (by omega)
      refine h ql qu ls us w19 (by omega) (by omega) n5 e019 (((hl5.ext (Ext.drew _)).exc e17 (by omega)).exc e19 (by omega)) (((hu5.ext (Ext.drew _)).exc e17 (by omega)).exc e19 (by omega)) ll lu
        (fun r s hr hs => by rw [hv1 r s hr hs, if_neg (by omega)]) (fun r s hr hs => by rw [hv2 r s hr hs, if_neg (by omega)])
    | succ d ih =>
      intro i fu ls us w5 hi hfu e5 s5 hl5 hu5 ll lu hv1 hv2
      have hfu' : d * (n + 2) + (n + 2) + 1 ≤ fu := by rw [Nat.succ_mul] at hfu; exact hfu
      obtain ⟨fu, rfl⟩ : ∃ m, fu = m + 1 := ⟨fu - 1, by omega⟩
      show straightedgeref16_Parts.e3 K (straightedgeref16_Parts.I K fu).1 (straightedgeref16_Parts.I K fu).2 _ _ _ _ _ _ _ _ _ _ _ _ _ _ _ _ _ _ _ _ _ _ _ _ _ _ _ _ _ _ _ _
      unfold straightedgeref16_Parts.e3
      refine dec_true (by omega) ?_
      have inner : ∀ (t j fu' : Nat) (ls us : List Nat) (w7 : World), j + t = n → d * (n + 2) + t + 2 ≤ fu' → Ext w w7 → w42.heap.size ≤ w7.heap.size → FBlk w7 ql ls → FBlk w7 qu us → ls.length = n * n → us.length = n * n →
          (∀ r s, r < n → s < n → tb n ls r s = if i < r ∨ (r = i ∧ j ≤ s) then 0 else if s < r then tb n xs r s else if r = s ∧ r < i then oneF else 0) →
          (∀ r s, r < n → s < n → tb n us r s = if i < r ∨ (r = i ∧ j ≤ s) then 0 else if r ≤ s then tb n xs r s else 0) →
          (straightedgeref16_Parts.I K fu').2 k3 n n p xs.length c k7 0 0 none 0 0 k11 0 0 none 0 0 k36 n n (some ql) (n * n) (n * n) k39 n n (some qu) (n * n) (n * n) (i : Int) (j : Int) w7 := by
        intro t
        induction t with
        | zero =>
          intro j fu' ls us w7 hj hfu' e7 s7 hl7 hu7 ll lu hv1 hv2
          obtain ⟨fu', rfl⟩ : ∃ m, fu' = m + 1 := ⟨fu' - 1, by omega⟩
          show straightedgeref16_Parts.e6 K (straightedgeref16_Parts.I K fu').1 (straightedgeref16_Parts.I K fu').2 _ _ _ _ _ _ _ _ _ _ _ _ _ _ _ _ _ _ _ _ _ _ _ _ _ _ _ _ _ _ _ _ _
          unfold straightedgeref16_Parts.e6
          have e9 : IntKind.i64.wrap ((i : Int) + 1) = ((i + 1 : Nat) : Int) := by rw [wrap_i64 (by omega) (by omega)]; omega
          refine dec_false (by omega) ?_
          rw [e9, ← ll]
          refine straightedgeref03_M_Set.ct hl7 ll hn hn (by omega) (by omega) (by decide) fun w46 e46 hb46 => ⟨.inr (keepL s7 e46), rfl, ?_⟩
          rw [ll]
          have s46 := e46.size
          refine ih (i + 1) fu' _ us w46 (by omega) (by omega) (e46.ext e7 (by omega)) (by omega) hb46 (hu7.exc e46 (Ne.symm n5)) (by simp [ll]) lu ?_ ?_
          · intro r s hr hs
            show mx n _ s r = _
            rw [mx_set ll (by omega) (by omega) hs]
            by_cases hrs : s = i ∧ r = i
            · rw [if_pos hrs, if_neg (by omega), if_neg (by omega), if_pos (by omega)]
            · rw [if_neg hrs]
              show tb n ls r s = _
              rw [hv1 r s hr hs]
              clear hv1 hv2
              grind
          · intro r s hr hs
            rw [hv2 r s hr hs]
            clear hv1 hv2
            grind
        | succ t iht =>
          intro j fu' ls us w7 hj hfu' e7 s7 hl7 hu7 ll lu hv1 hv2
          obtain ⟨fu', rfl⟩ : ∃ m, fu' = m + 1 := ⟨fu' - 1, by omega⟩
          show straightedgeref16_Parts.e6 K (straightedgeref16_Parts.I K fu').1 (straightedgeref16_Parts.I K fu').2 _ _ _ _ _ _ _ _ _ _ _ _ _ _ _ _ _ _ _ _ _ _ _ _ _ _ _ _ _ _ _ _ _
          unfold straightedgeref16_Parts.e6
          have e9 : IntKind.i64.wrap ((j : Int) + 1) = ((j + 1 : Nat) : Int) := by rw [wrap_i64 (by omega) (by omega)]; omega
          have e7d := e7.trans (Ext.drew w7)
          have hxb : tb n xs i j < 18446744073709551616 := by
            have hp := mx_lt (n := n) (m := n) (i := j) (j := i) (by omega) (by omega)
            obtain ⟨_, _, _, hb⟩ := hx.get (i := j + i * n) (by omega)
            exact hb
          rw [e9]
          have sd7 : w7.drew.heap.size = w7.heap.size := rfl
          refine dec_true (by omega) (br_d (fun cij => ?_) (fun cij => ?_))
          · refine straightedgeref03_M_At.ct (hx.ext e7d) hl hn hn (by omega) (by omega) fun w17 e17 => ⟨.inl e17, _, rfl, e17.kept, ?_⟩
            have s17 := e17.size
            rw [← ll]
            refine straightedgeref03_M_Set.ct ((hl7.ext (Ext.drew _)).ext e17) ll hn hn (by omega) (by omega) hxb fun w20' e20' hb20 => ⟨.inr (keepL (by omega) e20'), rfl, ?_⟩
            rw [ll]
            have s20' := e20'.size
            refine iht (j + 1) fu' _ us w20' (by omega) (by omega) (e20'.ext (e7d.trans e17) (by omega)) (by omega) hb20 (((hu7.ext (Ext.drew _)).ext e17).exc e20' (Ne.symm n5)) (by simp [ll]) lu ?_ ?_
            · intro r s hr hs
              show mx n _ s r = _
              rw [mx_set ll (by omega) (by omega) hs]
              by_cases hrs : s = j ∧ r = i
              · rw [if_pos hrs, if_neg (by omega), if_pos (by omega), hrs.1, hrs.2]
              · rw [if_neg hrs]
                show tb n ls r s = _
                rw [hv1 r s hr hs]
                by_cases c1 : i < r ∨ (r = i ∧ j + 1 ≤ s)
                · rw [if_pos c1, if_pos (by omega)]
                · rw [if_neg c1, if_neg (by omega)]
            · intro r s hr hs
              rw [hv2 r s hr hs]
              by_cases c1 : i < r ∨ (r = i ∧ j + 1 ≤ s)
              · rw [if_pos c1, if_pos (by omega)]
              · rw [if_neg c1]
                by_cases c2 : i < r ∨ (r = i ∧ j ≤ s)
                · rw [if_pos c2, if_neg (by omega)]
                · rw [if_neg c2]
          · refine straightedgeref03_M_At.ct (hx.ext e7d) hl hn hn (by omega) (by omega) fun w17 e17 => ⟨.inl e17, _, rfl, e17.kept, ?_⟩
            have s17 := e17.size
            rw [← lu]
            refine straightedgeref03_M_Set.ct ((hu7.ext (Ext.drew _)).ext e17) lu hn hn (by omega) (by omega) hxb fun w20' e20' hb20 => ⟨.inr (keepU (by omega) e20'), rfl, ?_⟩
            rw [lu]
            have s20' := e20'.size
            refine iht (j + 1) fu' ls _ w20' (by omega) (by omega) (e20'.ext (e7d.trans e17) (by omega)) (by omega) (((hl7.ext (Ext.drew _)).ext e17).exc e20' n5) hb20 ll (by simp [lu]) ?_ ?_
            · intro r s hr hs
              rw [hv1 r s hr hs]
              by_cases c1 : i < r ∨ (r = i ∧ j + 1 ≤ s)
              · rw [if_pos c1, if_pos (by omega)]
              · rw [if_neg c1]
                by_cases c2 : i < r ∨ (r = i ∧ j ≤ s)
                · rw [if_pos c2, if_neg (by omega), if_neg (by omega)]
                · rw [if_neg c2]
            · intro r s hr hs
              show mx n _ s r = _
              rw [mx_set lu (by omega) (by omega) hs]
              by_cases hrs : s = j ∧ r = i
              · rw [if_pos hrs, if_neg (by omega), if_pos (by omega), hrs.1, hrs.2]
              · rw [if_neg hrs]
                show tb n us r s = _
                rw [hv2 r s hr hs]
                by_cases c1 : i < r ∨ (r = i ∧ j + 1 ≤ s)
                · rw [if_pos c1, if_pos (by omega)]
                · rw [if_neg c1, if_neg (by omega)]
      refine inner n 0 fu ls us w5 (by omega) (by omega) e5 s5 hl5 hu5 ll lu ?_ ?_
      · intro r s hr hs
        rw [hv1 r s hr hs]
        clear hv1 hv2
        grind
      · intro r s hr hs
        rw [hv2 r s hr hs]
        clear hv1 hv2
        grind
  exact main n 0 _ _ _ w42 (by omega) (by omega) e042 (Nat.le_refl _) bl42 bu42 (by simp) (by simp) (fun r s _ _ => by rw [hz, if_pos (by omega)]) (fun r s _ _ => by rw [hz, if_pos (by omega)])
end Go.Proofs.Ytgdkahbnepafgaa

/-! ### AKgrow -/
set_option maxRecDepth 100000
set_option maxHeartbeats 1000000
set_option linter.unusedVariables false
namespace Go.Proofs.Ytgdkahbnepafgaa
open Go Go.Wk Go.RowKit Ieee
attribute [local irreducible] br

/-! ### the function literal that the printer did not meet -/
abbrev growth_pair_upTo_2.call : List Value → World → (Value → World → Prop) → Prop := CallF prog 72
def growth_pair_upTo_2.x (A0 : Int) (w : World) (K : Value → World → Prop) : Prop := K (.int .i64 (IntKind.i64.wrap (A0 + 1))) w
theorem growth_pair_upTo_2.ok {A0 : Int} {w : World} {K : Value → World → Prop} (h : growth_pair_upTo_2.x A0 w K) : growth_pair_upTo_2.call [(.int .i64 A0)] w K :=
  callF_of_ex0 (f := Try.f72) Try.func72 rfl mixed (by kernel_rfl) (Eq.mp (by kernel_rfl) h)

/-- The magnitudes of some columns, in rows up to one that is told. -/
def mostL (cols : Nat) (rows : Nat → Nat) (f : Nat → Nat → Nat) : List Nat := (List.range cols).flatMap fun j => (List.range (rows j)).map fun i => rung (f i j)
theorem mostL_succ (c : Nat) (rows : Nat → Nat) (f : Nat → Nat → Nat) : mostL (c + 1) rows f = mostL c rows f ++ (List.range (rows c)).map fun i => rung (f i c) := by
  unfold mostL
  rw [List.range_succ, List.flatMap_append]
  simp
theorem mostL_len {rows : Nat → Nat} {f : Nat → Nat → Nat} {R : Nat} : ∀ {c : Nat}, (∀ j, j < c → rows j ≤ R) → (mostL c rows f).length ≤ c * R
  | 0, _ => by simp [mostL]
  | c + 1, h => by
    rw [mostL_succ, List.length_append, List.length_map, List.length_range, Nat.succ_mul]
    have := mostL_len (rows := rows) (f := f) (R := R) (c := c) fun j hj => h j (by omega)
    have := h c (by omega)
    omega
theorem mostL_mem {rows : Nat → Nat} {f : Nat → Nat → Nat} {c x : Nat} : x ∈ mostL c rows f ↔ ∃ j i, j < c ∧ i < rows j ∧ x = rung (f i j) := by
  unfold mostL
  simp only [List.mem_flatMap, List.mem_range, List.mem_map]
  constructor
  · rintro ⟨j, hj, i, hi, rfl⟩; exact ⟨j, i, hj, hi, rfl⟩
  · rintro ⟨j, i, hj, hi, rfl⟩; exact ⟨j, hj, i, hi, rfl⟩
theorem mostL_bits {rows : Nat → Nat} {f : Nat → Nat → Nat} {c : Nat} : ∀ x ∈ mostL c rows f, x < 18446744073709551616 := by
  intro x hx
  obtain ⟨j, i, _, _, rfl⟩ := mostL_mem.1 hx
  have := rung_lt (f i j); omega
theorem mostL_congr {rows : Nat → Nat} {f g : Nat → Nat → Nat} : ∀ {c : Nat}, (∀ j i, j < c → i < rows j → f i j = g i j) → mostL c rows f = mostL c rows g
  | 0, _ => rfl
  | c + 1, h => by
    rw [mostL_succ, mostL_succ, mostL_congr fun j i hj hi => h j i (by omega) hi]
    congr 1
    exact List.map_congr_left fun i hi => by rw [h c i (by omega) (List.mem_range.1 hi)]

theorem sums_Greatest.ct {p : Option Addr} {n c : Nat} {xs : List Nat} {w : World} {K : Value → World → Prop} (hx : Flw w p xs) (hl : xs.length = n) (hn : n < 4611686018427387904)
    (h : ∀ x, x < 18446744073709551616 → ((∀ y ∈ xs, ¬ nan y) → x = greatL 0 xs) → K (.float .f64 x) w) : sums_Greatest.call [.slice p n c] w K := by
  refine sums_Greatest.ok (n + 1) ?_
  unfold sums_Greatest.x
  have main : ∀ (d i fu m : Nat), i + d = n → d < fu → m < 18446744073709551616 → ((∀ y ∈ xs, ¬ nan y) → m = greatL 0 (xs.take i)) → sums_Greatest.c3 K fu m p n c (n : Int) (i : Int) w := by
    intro d
    induction d with
    | zero =>
      intro i fu m hi hfu hm hg
      obtain ⟨fu, rfl⟩ : ∃ m, fu = m + 1 := ⟨fu - 1, by omega⟩
      refine dec_false (by omega) ?_
      rw [List.take_of_length_le (by omega)] at hg
      exact h m hm hg
    | succ d ih =>
      intro i fu m hi hfu hm hg
      obtain ⟨fu, rfl⟩ : ∃ m, fu = m + 1 := ⟨fu - 1, by omega⟩
      obtain ⟨a, ha, hca, hb⟩ := hx.get (i := i) (by omega)
      have e9 : IntKind.i64.wrap ((i : Int) + 1) = ((i + 1 : Nat) : Int) := by rw [wrap_i64 (by omega) (by omega)]; omega
      have et : xs.take (i + 1) = xs.take i ++ [xs.getD i 0] := by
        rw [List.take_add_one]; simp [List.getD, show i < xs.length by omega]
      have hmem : xs.getD i 0 ∈ xs := by
        rw [List.getD_eq_getElem?_getD, List.getElem?_eq_getElem (by omega)]
        exact List.getElem_mem _
      refine dec_true (by omega) (ptrSome_intro ha ⟨by omega, by omega, rd_f64.of (by rw [Int.toNat_natCast]; exact hca) (br_intro (fun hb' => ?_) (fun _ => ?_))⟩)
      · refine h _ hb fun hall => ?_
        exfalso
        rw [cn_eq_self (hall _ hmem)] at hb'
        cases hb'
      · rw [e9]
        refine br_intro (fun hb' => ih (i + 1) fu _ (by omega) (by omega) hb fun hall => ?_) (fun hb' => ih (i + 1) fu _ (by omega) (by omega) hm fun hall => ?_)
        · rw [et, greatL_snoc, ← hg hall, if_pos hb']
        · rw [et, greatL_snoc, ← hg hall, if_neg (by rw [hb']; decide)]
  exact main n 0 (n + 1) 0 (by omega) (by omega) (by omega) fun _ => rfl

theorem growth_most.ct {p : Option Addr} {c : Nat} {off ld : Int} {rows cols N : Nat} {xs : List Nat} {g : FuncId} {f k : List Value} {rw' : Nat → Nat} {w : World} {K : Value → World → Prop} (hx : Flw w p xs) (hn : xs.length < 4611686018427387904)
    (gd : GoodM xs.length off rows cols ld) (hl : I64 ld) (hr : rows ≤ 64) (hN : N ≤ cols) (hN' : N ≤ 64) (hrw : ∀ j, j < N → rw' j ≤ rows)
    (hfun : ∀ (w' : World) (j : Nat) (K' : Value → World → Prop), Ext w w' → j < N → (∀ w'', Ext w' w'' → K' (.int .i64 (rw' j : Nat)) w'') → CallF prog g (f ++ [.int .i64 (j : Int)] ++ k) w' K')
    (h : ∀ w' x, Ext w w' → x < 18446744073709551616 → ((∀ y ∈ mostL N rw' (matF xs off ld), ¬ nan y) → x = greatL 0 (mostL N rw' (matF xs off ld))) → K (.float .f64 x) w') :
    growth_most.call [matV p xs.length c off rows cols ld, .int .i64 N, .func (.func g) ⟨f⟩ ⟨k⟩] w K := by
  refine growth_most.os (N * 70 + 4) ?_
  unfold growth_most.s
  intro k3 w2 hk3 hk3' e2
  have hlen : ∀ j, j ≤ N → (mostL j rw' (matF xs off ld)).length ≤ 4096 := fun j hj => by
    have h1 := mostL_len (rows := rw') (f := matF xs off ld) (R := 64) (c := j) fun j' hj' => by have := hrw j' (by omega); omega
    have h2 := Nat.mul_le_mul_right 64 (show j ≤ 64 by omega)
    omega
  have main : ∀ (d j fu : Nat) (po : Option Addr) (co L : Nat) (w5 : World), j + d = N → d * 70 + 2 ≤ fu → Ext w w5 → w2.heap.size ≤ w5.heap.size → Own w5 w2.heap.size tF po L co ((mostL j rw' (matF xs off ld)).map fun x => .float .f64 x) →
      (growth_most.I K fu).1 g f k k3 p xs.length c off rows cols ld po L co N (j : Int) w5 := by
    intro d
    induction d with
    | zero =>
      intro j fu po co L w5 hj hfu e5 hs5 hown
      obtain ⟨fu, rfl⟩ : ∃ m, fu = m + 1 := ⟨fu - 1, by omega⟩
      show growth_most.e3 K (growth_most.I K fu).1 (growth_most.I K fu).2 _ _ _ _ _ _ _ _ _ _ _ _ _ _ _ _ _
      unfold growth_most.e3
      have hjN : j = N := by omega
      subst hjN
      have hL := hown.len
      rw [List.length_map] at hL
      have hle := hlen j (Nat.le_refl _)
      refine dec_false (by omega) (sums_Greatest.ct (hown.flw mostL_bits) hL (by omega) fun x hx' hg => ⟨.inl (Ext.refl _), _, rfl, h _ _ e5 hx' hg⟩)
    | succ d ih =>
      intro j fu po co L w5 hj hfu e5 hs5 hown
      obtain ⟨fu, rfl⟩ : ∃ m, fu = m + 1 := ⟨fu - 1, by omega⟩
      show growth_most.e3 K (growth_most.I K fu).1 (growth_most.I K fu).2 _ _ _ _ _ _ _ _ _ _ _ _ _ _ _ _ _
      unfold growth_most.e3
      have hjr := hrw j (by omega)
      refine dec_true (by omega) (hfun w5 j _ e5 (by omega) fun w6 e6 => ⟨.inl e6, _, rfl, ?_⟩)
      have inner : ∀ (t i fu' : Nat) (po : Option Addr) (co L : Nat) (w7 : World), i + t = rw' j → d * 70 + 2 + t + 1 ≤ fu' → Ext w w7 → w2.heap.size ≤ w7.heap.size →
          Own w7 w2.heap.size tF po L co ((mostL j rw' (matF xs off ld) ++ (List.range i).map fun i => rung (matF xs off ld i j)).map fun x => .float .f64 x) →
          (growth_most.I K fu').2 g f k k3 p xs.length c off rows cols ld po L co (j : Int) N (j : Int) (rw' j : Nat) (i : Int) w7 := by
        intro t
        induction t with
        | zero =>
          intro i fu' po co L w7 hi hfu' e7 hs7 hown7
          obtain ⟨fu', rfl⟩ : ∃ m, fu' = m + 1 := ⟨fu' - 1, by omega⟩
          show growth_most.e6 K (growth_most.I K fu').1 (growth_most.I K fu').2 _ _ _ _ _ _ _ _ _ _ _ _ _ _ _ _ _ _ _ _
          unfold growth_most.e6
          refine dec_false (by omega) ?_
          have e9 : IntKind.i64.wrap ((j : Int) + 1) = ((j + 1 : Nat) : Int) := by rw [wrap_i64 (by omega) (by omega)]; omega
          rw [e9]
          refine ih (j + 1) fu' po co L w7 (by omega) (by omega) e7 hs7 ?_
          rw [mostL_succ]
          have : i = rw' j := by omega
          rw [← this]
          exact hown7
        | succ t iht =>
          intro i fu' po co L w7 hi hfu' e7 hs7 hown7
          obtain ⟨fu', rfl⟩ : ∃ m, fu' = m + 1 := ⟨fu' - 1, by omega⟩
          show growth_most.e6 K (growth_most.I K fu').1 (growth_most.I K fu').2 _ _ _ _ _ _ _ _ _ _ _ _ _ _ _ _ _ _ _ _
          unfold growth_most.e6
          refine dec_true (by omega) ?_
          refine view_At.ct (hx.ext e7) hn gd hl (by omega) (by omega) (by omega) (by omega) fun w10 e10 => ⟨.inl e10, _, rfl, ?_⟩
          have hp := place_lt gd (i := (i : Int)) (j := (j : Int)) (by omega) (by omega) (by omega) (by omega)
          obtain ⟨_, _, _, hb⟩ := hx.get (i := (off + (i : Int) + (j : Int) * ld).toNat) (by omega)
          refine math_Abs.ct hb ⟨.inl (Ext.refl _), _, rfl, ?_⟩
          have hL := hown7.len
          simp only [List.length_map, List.length_append, List.length_range] at hL
          have hle := hlen j (by omega)
          have s10 := e10.size
          have hkk : ∀ k ∈ [k3], k < w10.heap.size ∧ ∀ a, po = some a → a.block ≠ k := by
            intro k hk
            simp at hk
            subst hk
            exact ⟨by omega, fun a ha => by subst ha; have := (World.ownsRow.lt hown7 a.block rfl).1; omega⟩
          refine appF (hown7.ext e10) (by omega) (by omega) hkk fun p' c' w8 hg hown8 hwh => ?_
          have e9 : IntKind.i64.wrap ((i : Int) + 1) = ((i + 1 : Nat) : Int) := by rw [wrap_i64 (by omega) (by omega)]; omega
          rw [e9]
          have e710 := e7.trans e10
          refine iht (i + 1) fu' p' c' (L + 1) w8 (by omega) (by omega) (hg.ext e710 ((hown7.ext e10).fr.mono (by have := e2.size; omega))) (by have := hg.size; omega) ?_
          have : (mostL j rw' (matF xs off ld) ++ (List.range (i + 1)).map fun i => rung (matF xs off ld i j)) = (mostL j rw' (matF xs off ld) ++ (List.range i).map fun i => rung (matF xs off ld i j)) ++ [rung (matF xs off ld i j)] := by
            rw [List.range_succ, List.map_append, List.append_assoc]; rfl
          rw [this]
          exact hown8
      refine inner (rw' j) 0 fu po co L w6 (by omega) (by omega) (e5.trans e6) (by have := e6.size; omega) ?_
      simpa using hown.ext e6
  exact main N 0 (N * 70 + 4) none 0 0 w2 (by omega) (by omega) e2 (by omega) (Own.nil _ _ _)

theorem lu_Right.ct {p pp : Option Addr} {c cp np : Nat} {off ld : Int} {r s n : Nat} {piv : List Nat} {w : World} {K : Value → World → Prop} (hn : n < 4611686018427387904) (g : GoodM n off r s ld) (ho : I64 off) (hl : I64 ld)
    (hr : r ≤ 1048576) (hrs : r = s) (hrn : r = np) (hp : Ints w pp np (piv.map fun (x : Nat) => (x : Int))) (hok : PivOk piv)
    (h : ∀ w', Ext w w' → K (.bool true) w') : lu_Right.call [.agg ⟨[.slice p n c, .int .i64 off, .int .i64 r, .int .i64 s, .int .i64 ld, .slice pp np cp]⟩] w K := by
  subst hrs hrn
  have hpl : piv.length = r := by have := hp.len; simpa using this
  refine lu_Right.os (r + 1) ?_
  unfold lu_Right.s
  intro k3 w2 hk3 _ e2
  refine view_Good.ct hn ho (by unfold I64; omega) (by unfold I64; omega) hl fun w16 e16 => ⟨.inl e16, _, rfl, ?_⟩
  rw [good_yes g]
  have e0 := e2.trans e16
  refine br_false rfl (br_ne (fun hh => absurd rfl hh) fun _ => br_ne (fun hh => absurd rfl hh) fun _ => ?_)
  have main : ∀ (d i fu : Nat), i + d = r → d < fu → lu_Right.d5 K fu (r : Int) pp r cp (r : Int) (i : Int) w16 := by
    intro d
    induction d with
    | zero =>
      intro i fu hi hfu
      obtain ⟨fu, rfl⟩ : ∃ m, fu = m + 1 := ⟨fu - 1, by omega⟩
      refine dec_false (by omega) (h _ e0)
    | succ d ih =>
      intro i fu hi hfu
      obtain ⟨fu, rfl⟩ : ∃ m, fu = m + 1 := ⟨fu - 1, by omega⟩
      have hv := hok i (by omega)
      obtain ⟨a, ha, hca⟩ := (hp.ext e0).at_ i (piv.getD i 0 : Nat) (by simp [List.getD, show i < piv.length by omega])
      have e9 : IntKind.i64.wrap ((i : Int) + 1) = ((i + 1 : Nat) : Int) := by rw [wrap_i64 (by omega) (by omega)]; omega
      refine dec_true (by omega) (ptrSome_intro ha ⟨by omega, by omega, rd_i64.of (by rw [Int.toNat_natCast]; exact hca) (dec_false (by omega) (dec_false (by omega) ?_))⟩)
      rw [e9]
      exact ih (i + 1) fu (by omega) (by omega)
  exact main r 0 (r + 1) (by omega) (by omega)

/-- What a growth is asked of: a matrix and its factors. -/
theorem growth_made.ct {p q pp : Option Addr} {c cq cp : Nat} {off ld offl ldl : Int} {n nx ny : Nat} {piv : List Nat} {w : World} {K : Value → World → Prop} (hn : nx < 4611686018427387904) (hny : ny < 4611686018427387904)
    (g : GoodM nx off n n ld) (gl : GoodM ny offl n n ldl) (ho : I64 off) (hl : I64 ld) (hol : I64 offl) (hll : I64 ldl) (hr : n ≤ 64) (hp : Ints w pp n (piv.map fun (x : Nat) => (x : Int))) (hok : PivOk piv)
    (h : ∀ w', Ext w w' → K (.tuple ⟨[.agg ⟨[.slice q ny cq, .int .i64 offl, .int .i64 n, .int .i64 n, .int .i64 ldl, .slice pp n cp, .slice p nx c, .int .i64 off, .int .i64 n, .int .i64 n, .int .i64 ld]⟩, .int .i64 0]⟩) w') :
    growth_made.call [matV p nx c off n n ld, .agg ⟨[.slice q ny cq, .int .i64 offl, .int .i64 n, .int .i64 n, .int .i64 ldl, .slice pp n cp]⟩] w K := by
  refine growth_made.os ?_
  unfold growth_made.s
  intro k3 w2 hk3 hk3' e2 k7 w6 hk7 hk7' e6 k11 w10 hk11 hk11' e10
  have e0 := (e2.trans e6).trans e10
  refine view_Good.ct hn ho (by unfold I64; omega) (by unfold I64; omega) hl fun w21 e21 => ⟨.inl e21, _, rfl, ?_⟩
  rw [good_yes g]
  refine br_false rfl ?_
  have e021 := e0.trans e21
  refine lu_Right.ct hny gl hol hll (by omega) rfl rfl (hp.ext e021) hok fun w52 e52 => ⟨.inl e52, _, rfl, br_false rfl (br_ne (fun hh => absurd rfl hh) fun _ => br_ne (fun hh => absurd rfl hh) fun _ => ?_)⟩
  intro w129 x129
  refine h w129 (x129.ext (e021.trans e52) ?_)
  have := e2.size
  have := e6.size
  omega

theorem growth_pair_upTo.ct {p q pp : Option Addr} {c cq cp : Nat} {off ld offl ldl : Int} {n : Nat} {xs ys : List Nat} {w : World} {K : Value → World → Prop} (hx : Flw w p xs) (hn : xs.length < 4611686018427387904)
    (hy : Flw w q ys) (hny : ys.length < 4611686018427387904) (g : GoodM xs.length off n n ld) (gl : GoodM ys.length offl n n ldl) (hl : I64 ld) (hll : I64 ldl) (hr : n ≤ 64)
    (hfin : ∀ y ∈ mostL n (fun _ => n) (matF xs off ld), ¬ nan y)
    (h : ∀ w' x, Ext w w' → x < 18446744073709551616 →
      (feq .f64 (greatL 0 (mostL n (fun _ => n) (matF xs off ld))) 0 = true → x = 0) →
      (feq .f64 (greatL 0 (mostL n (fun _ => n) (matF xs off ld))) 0 = false → (∀ y ∈ mostL n (fun j => j + 1) (matF ys offl ldl), ¬ nan y) →
        cn x = fb .quo (greatL 0 (mostL n (fun j => j + 1) (matF ys offl ldl))) (greatL 0 (mostL n (fun _ => n) (matF xs off ld)))) → K (.float .f64 x) w') :
    growth_pair_upTo.call [.agg ⟨[.slice q ys.length cq, .int .i64 offl, .int .i64 n, .int .i64 n, .int .i64 ldl, .slice pp n cp, .slice p xs.length c, .int .i64 off, .int .i64 n, .int .i64 n, .int .i64 ld]⟩, .int .i64 n] w K := by
  refine growth_pair_upTo.ok ?_
  unfold growth_pair_upTo.x
  refine newB_blk fun q1 w2 hq1 _ e2 hb1 => ?_
  have r := hb1.row
  refine rd_l_i64_i64_i64_i64.of (r.get 6 rfl) (r.get 7 rfl) (r.get 8 rfl) (r.get 9 rfl) (r.get 10 rfl) ?_
  refine growth_most.ct (g := 71) (f := []) (k := [.pointer (some q1)]) (rw' := fun _ => n) (hx.ext e2) hn g hl (by omega) (Nat.le_refl _) (by omega) (fun _ _ => Nat.le_refl _) (fun w' j K' e' hj hk => ?_) fun w11 x12 e11 hx12 hgr => ⟨_, rfl, ?_⟩
  · exact growth_pair_upTo_1.ok (ptrSome_intro rfl (rd_i64.of ((r.ext e').get 8 rfl) (hk _ (Ext.refl _))))
  have hS := hgr hfin
  rw [hS] at hx12 ⊢
  refine br_intro (fun hz => h _ _ (e2.trans e11) (by omega) (fun _ => rfl) (fun hz' _ => by rw [hz] at hz'; cases hz')) fun hz => ?_
  have r11 := r.ext e11
  refine rd_l_i64_i64_i64_i64.of (r11.get 0 rfl) (r11.get 1 rfl) (r11.get 2 rfl) (r11.get 3 rfl) (r11.get 4 rfl) ?_
  refine growth_most.ct (g := 72) (f := []) (k := []) (rw' := fun j => j + 1) (hy.ext (e2.trans e11)) hny gl hll (by omega) (Nat.le_refl _) (by omega) (fun j hj => by omega) (fun w' j K' e' hj hk => ?_) fun w21 x22 e21 hx22 hgr2 => ⟨_, rfl, ?_⟩
  · refine growth_pair_upTo_2.ok ?_
    unfold growth_pair_upTo_2.x
    rw [show IntKind.i64.wrap ((j : Int) + 1) = ((j + 1 : Nat) : Int) by rw [wrap_i64 (by omega) (by omega)]; omega]
    exact hk _ (Ext.refl _)
  refine fop_cn fun x23 w24 hc hb e24 _ => h _ _ ((e2.trans e11).trans (e21.trans e24)) hb (fun hz' => by rw [hz] at hz'; cases hz') fun _ hall => ?_
  rw [hc, hgr2 hall]

theorem growth_Growth.ct {p q pp : Option Addr} {c cq cp : Nat} {off ld offl ldl : Int} {n : Nat} {xs ys : List Nat} {piv : List Nat} {w : World} {K : Value → World → Prop} (hx : Flw w p xs) (hn : xs.length < 4611686018427387904)
    (hy : Flw w q ys) (hny : ys.length < 4611686018427387904) (g : GoodM xs.length off n n ld) (gl : GoodM ys.length offl n n ldl) (ho : I64 off) (hl : I64 ld) (hol : I64 offl) (hll : I64 ldl) (hr : n ≤ 64)
    (hp : Ints w pp n (piv.map fun (x : Nat) => (x : Int))) (hok : PivOk piv)
    (hfin : ∀ y ∈ mostL n (fun _ => n) (matF xs off ld), ¬ nan y)
    (h : ∀ w' x, Ext w w' → x < 18446744073709551616 →
      (feq .f64 (greatL 0 (mostL n (fun _ => n) (matF xs off ld))) 0 = true → x = 0) →
      (feq .f64 (greatL 0 (mostL n (fun _ => n) (matF xs off ld))) 0 = false → (∀ y ∈ mostL n (fun j => j + 1) (matF ys offl ldl), ¬ nan y) →
        cn x = fb .quo (greatL 0 (mostL n (fun j => j + 1) (matF ys offl ldl))) (greatL 0 (mostL n (fun _ => n) (matF xs off ld)))) → K (.tuple ⟨[.float .f64 x, .int .i64 0]⟩) w') :
    growth_Growth.call [matV p xs.length c off n n ld, .agg ⟨[.slice q ys.length cq, .int .i64 offl, .int .i64 n, .int .i64 n, .int .i64 ldl, .slice pp n cp]⟩] w K := by
  refine growth_Growth.os ?_
  unfold growth_Growth.s
  intro k3 w2 hk3 hk3' e2 k7 w6 hk7 hk7' e6
  have e06 := e2.trans e6
  refine growth_made.ct hn hny g gl ho hl hol hll hr (hp.ext e06) hok fun w27 e27 => ⟨.inl e27, _, _, _, _, _, _, _, _, _, _, _, _, _, _, _, _, _, _, rfl, ?_⟩
  intro k48 w47 hk48 hk48' e47 w50 x50
  have := e2.size
  have := e6.size
  have := e27.size
  have := e47.size
  have e050 : Ext w w50 := x50.ext ((e06.trans e27).trans e47) (by omega)
  refine br_ne (fun hh => absurd rfl hh) fun _ => ?_
  refine growth_pair_upTo.ct (hx.ext e050) hn (hy.ext e050) hny g gl hl hll hr hfin fun w70 x e70 hxb hz hq => ⟨.inl e70, _, rfl, h _ _ (e050.trans e70) hxb hz hq⟩

theorem growth_Growth.bad {w : World} {K : Value → World → Prop} (h : ∀ w', Ext w w' → K (.tuple ⟨[.float .f64 0, .int .i64 1]⟩) w') :
    growth_Growth.call [.agg ⟨[.slice none 0 0, .int .i64 0, .int .i64 0, .int .i64 0, .int .i64 0]⟩, .agg ⟨[.slice none 0 0, .int .i64 0, .int .i64 0, .int .i64 0, .int .i64 0, .slice none 0 0]⟩] w K := by
  refine growth_Growth.os ?_
  unfold growth_Growth.s
  intro k3 w2 hk3 hk3' e2 k7 w6 hk7 hk7' e6
  have e06 := e2.trans e6
  refine growth_made.os ?_
  unfold growth_made.s
  intro k3' w2' hk3 hk3' e2' k7' w6' hk7 hk7' e6' k11 w10 hk11 hk11' e10
  refine view_Good.ct (by decide) (by unfold I64; decide) (by unfold I64; decide) (by unfold I64; decide) (by unfold I64; decide) fun w21 e21 => ⟨.inl e21, _, rfl, ?_⟩
  refine br_true (by decide) ?_
  intro w23 x23
  have := e2.size
  have := e6.size
  have := e2'.size
  have := e6'.size
  have := e21.size
  have e623 : Ext w6 w23 := x23.ext (((e2'.trans e6').trans e10).trans e21) (by omega)
  refine ⟨.inl e623, _, _, _, _, _, _, _, _, _, _, _, _, _, _, _, _, _, _, rfl, ?_⟩
  intro k48 w47 hk48 hk48' e47 w50 x50
  have := e623.size
  have := e47.size
  exact br_ne (fun _ => h _ (x50.ext ((e06.trans e623).trans e47) (by omega))) fun hh => absurd hh (by decide)
end Go.Proofs.Ytgdkahbnepafgaa

/-! ### AKref19 -/
set_option maxRecDepth 100000
set_option maxHeartbeats 1000000
set_option linter.unusedVariables false
namespace Go.Proofs.Ytgdkahbnepafgaa
open Go Go.Wk Go.RowKit Ieee
attribute [local irreducible] br

theorem straightedgeref19_Most.ct {p : Option Addr} {n N cap : Nat} {xs : List Nat} {up : Bool} {w : World} {K : Value → World → Prop} (hx : Flw w p xs) (hl : xs.length = n * n) (hNN : xs.length = N) (hn : n ≤ 64)
    (hnan : ∀ y ∈ mostL n (fun j => if up then j + 1 else n) (tb n xs), ¬ nan y)
    (h : ∀ w', Ext w w' → K (.float .f64 (greatL 0 (mostL n (fun j => if up then j + 1 else n) (tb n xs)))) w') :
    straightedgeref19_Most.call [tabV n n p N cap, .int .i64 n, .bool up] w K := by
  subst hNN
  refine straightedgeref19_Most.os (n * 70 + 4) ?_
  unfold straightedgeref19_Most.s
  intro k3 w2 hk3 hk3' e2
  obtain ⟨rw', hrw'⟩ : ∃ f : Nat → Nat, f = fun j => if up then j + 1 else n := ⟨_, rfl⟩
  rw [← hrw'] at h hnan
  have hrw : ∀ j, j < n → rw' j ≤ n := fun j hj => by rw [hrw']; show (if up then j + 1 else n) ≤ n; split <;> omega
  have hlen : ∀ j, j ≤ n → (mostL j rw' (tb n xs)).length ≤ 4096 := fun j hj => by
    have h1 := mostL_len (rows := rw') (f := tb n xs) (R := 64) (c := j) fun j' hj' => by have := hrw j' (by omega); omega
    have h2 := Nat.mul_le_mul_right 64 (show j ≤ 64 by omega)
    omega
  have main : ∀ (d j fu : Nat) (po : Option Addr) (co L : Nat) (w5 : World), j + d = n → d * 70 + 2 ≤ fu → Ext w w5 → w2.heap.size ≤ w5.heap.size → Own w5 w2.heap.size tF po L co ((mostL j rw' (tb n xs)).map fun x => .float .f64 x) →
      (straightedgeref19_Most.I K fu).1 n up k3 n n p xs.length cap po L co (j : Int) w5 := by
    intro d
    induction d with
    | zero =>
      intro j fu po co L w5 hj hfu e5 hs5 hown
      obtain ⟨fu, rfl⟩ : ∃ m, fu = m + 1 := ⟨fu - 1, by omega⟩
      show straightedgeref19_Most.e3 K (straightedgeref19_Most.I K fu).1 (straightedgeref19_Most.I K fu).2 _ _ _ _ _ _ _ _ _ _ _ _ _
      unfold straightedgeref19_Most.e3
      have hjN : j = n := by omega
      subst hjN
      have hL := hown.len
      rw [List.length_map] at hL
      have hle := hlen j (Nat.le_refl _)
      exact dec_false (by omega) (straightedgeref05_Greatest.ct (hown.flw mostL_bits) hL (by omega) hnan fun w6 e6 => ⟨.inl e6, _, rfl, h _ (e5.trans e6)⟩)
    | succ d ih =>
      intro j fu po co L w5 hj hfu e5 hs5 hown
      obtain ⟨fu, rfl⟩ : ∃ m, fu = m + 1 := ⟨fu - 1, by omega⟩
      show straightedgeref19_Most.e3 K (straightedgeref19_Most.I K fu).1 (straightedgeref19_Most.I K fu).2 _ _ _ _ _ _ _ _ _ _ _ _ _
      unfold straightedgeref19_Most.e3
      have hjr := hrw j (by omega)
      refine dec_true (by omega) ?_
      have inner : ∀ (t i fu' : Nat) (po : Option Addr) (co L : Nat) (w7 : World), i + t = rw' j → d * 70 + 2 + t + 1 ≤ fu' → Ext w w7 → w2.heap.size ≤ w7.heap.size →
          Own w7 w2.heap.size tF po L co ((mostL j rw' (tb n xs) ++ (List.range i).map fun i => rung (tb n xs i j)).map fun x => .float .f64 x) →
          (straightedgeref19_Most.I K fu').2 n up k3 n n p xs.length cap po L co (j : Int) (i : Int) w7 := by
        intro t
        induction t with
        | zero =>
          intro i fu' po co L w7 hi hfu' e7 hs7 hown7
          obtain ⟨fu', rfl⟩ : ∃ m, fu' = m + 1 := ⟨fu' - 1, by omega⟩
          show straightedgeref19_Most.e6 K (straightedgeref19_Most.I K fu').1 (straightedgeref19_Most.I K fu').2 _ _ _ _ _ _ _ _ _ _ _ _ _ _
          unfold straightedgeref19_Most.e6
          have e9 : IntKind.i64.wrap ((j : Int) + 1) = ((j + 1 : Nat) : Int) := by rw [wrap_i64 (by omega) (by omega)]; omega
          rw [e9]
          have hi' : i = rw' j := by omega
          have next : (straightedgeref19_Most.I K fu').1 n up k3 n n p xs.length cap po L co ((j + 1 : Nat) : Int) w7 := by
            refine ih (j + 1) fu' po co L w7 (by omega) (by omega) e7 hs7 ?_
            rw [mostL_succ, ← hi']
            exact hown7
          refine br_intro (fun hb => ?_) (fun _ => next)
          have hb' := of_decide_eq_true hb
          have hup : up = true := by
            rw [hrw'] at hi'
            cases up with
            | true => rfl
            | false => simp at hi'; omega
          subst hup
          rw [hrw'] at hi'
          simp at hi'
          exact br_false rfl (dec_false (by omega) next)
        | succ t iht =>
          intro i fu' po co L w7 hi hfu' e7 hs7 hown7
          obtain ⟨fu', rfl⟩ : ∃ m, fu' = m + 1 := ⟨fu' - 1, by omega⟩
          show straightedgeref19_Most.e6 K (straightedgeref19_Most.I K fu').1 (straightedgeref19_Most.I K fu').2 _ _ _ _ _ _ _ _ _ _ _ _ _ _
          unfold straightedgeref19_Most.e6
          refine dec_true (by omega) ?_
          have step : straightedgeref03_M_At.call [tabV n n p xs.length cap, .int .i64 (i : Int), .int .i64 (j : Int)] w7 fun v9 w10 => Stay [k3] w7 w10 ∧ ∃ x11 : Nat, v9 = (.float .f64 x11) ∧ straightedgeref01_Abs.call [(.float .f64 x11)] w10 fun v12 w13 => Stay [k3] w10 w13 ∧ ∃ x14 : Nat, v12 = (.float .f64 x14) ∧ newB [(.float .f64 x14)] 38 w13 fun q15 w16 => Raw prog (Builtin.append_ #[22, 22] 22 ⟨[(.slice po L co), (.slice (some q15) 1 1)]⟩) w16 fun v17 w18 => Stay [k3] w16 w18 ∧ ∃ (a19 : Option Addr) (n20 c21 : Nat), v17 = .slice a19 n20 c21 ∧ (straightedgeref19_Most.I K fu').2 n up k3 n n p xs.length cap a19 n20 c21 j (IntKind.i64.wrap ((i : Int) + 1)) w18 := by
            refine straightedgeref03_M_At.ct (hx.ext e7) hl (by omega) (by omega) (by omega) (by omega) fun w10 e10 => ⟨.inl e10, _, rfl, ?_⟩
            have hp := mx_lt (n := n) (m := n) (i := j) (j := i) (by omega) (by omega)
            obtain ⟨_, _, _, hb⟩ := hx.get (i := j + i * n) (by omega)
            refine straightedgeref01_Abs.ct hb ⟨.inl (Ext.refl _), _, rfl, ?_⟩
            have hL := hown7.len
            simp only [List.length_map, List.length_append, List.length_range] at hL
            have hle := hlen j (by omega)
            have s10 := e10.size
            have hkk : ∀ k ∈ [k3], k < w10.heap.size ∧ ∀ a, po = some a → a.block ≠ k := by
              intro k hk
              simp at hk
              subst hk
              exact ⟨by omega, fun a ha => by subst ha; have := (World.ownsRow.lt hown7 a.block rfl).1; omega⟩
            refine appF (hown7.ext e10) (by omega) (by omega) hkk fun p' c' w8 hg hown8 hwh => ?_
            have e9 : IntKind.i64.wrap ((i : Int) + 1) = ((i + 1 : Nat) : Int) := by rw [wrap_i64 (by omega) (by omega)]; omega
            rw [e9]
            have e710 := e7.trans e10
            refine iht (i + 1) fu' p' c' (L + 1) w8 (by omega) (by omega) (hg.ext e710 ((hown7.ext e10).fr.mono (by have := e2.size; omega))) (by have := hg.size; omega) ?_
            have : (mostL j rw' (tb n xs) ++ (List.range (i + 1)).map fun i => rung (tb n xs i j)) = (mostL j rw' (tb n xs) ++ (List.range i).map fun i => rung (tb n xs i j)) ++ [rung (tb n xs i j)] := by
              rw [List.range_succ, List.map_append, List.append_assoc]; rfl
            rw [this]
            exact hown8
          refine br_intro (fun _ => step) (fun hu => dec_true ?_ step)
          have hup : up = true := by cases up <;> simp_all
          rw [hrw', hup] at hi
          simp at hi
          omega
      refine inner (rw' j) 0 fu po co L w5 (by omega) (by omega) e5 hs5 ?_
      simpa using hown
  exact main n 0 (n * 70 + 4) none 0 0 w2 (by omega) (by omega) e2 (by omega) (Own.nil _ _ _)
end Go.Proofs.Ytgdkahbnepafgaa

/-! ### AKfac22 -/
set_option maxRecDepth 100000
set_option maxHeartbeats 400000
set_option linter.unusedVariables false
namespace Go.Proofs.Ytgdkahbnepafgaa
open Go Go.Wk Go.RowKit Ieee
attribute [local irreducible] br

abbrev b1 : Nat := 4607182418800017408
abbrev b2 : Nat := 4611686018427387904
abbrev b4 : Nat := 4616189618054758400
abbrev bq : Nat := 4598175219545276416

theorem fac22 {A0 F : Nat → Nat → Nat} {piv : List Nat} (h00 : A0 0 0 = b1) (h01 : A0 0 1 = b2) (h10 : A0 1 0 = b4) (h11 : A0 1 1 = b4) (h : Fac 2 A0 2 F piv) :
    piv = [1, 1] ∧ F 0 0 = b4 ∧ F 1 0 = bq ∧ F 0 1 = b4 ∧ F 1 1 = b1 := by
  obtain ⟨A1, pv1, p1, ⟨A', pv0, p0, ⟨hA', hpv0⟩, hpv1, s0⟩, hpv, s1⟩ := h
  replace s0 : StepF 2 0 A' p0 A1 := s0
  replace s1 : StepF 2 1 A1 p1 F := s1
  have a00 : A' 0 0 = b1 := by rw [hA' 0 0 (by omega) (by omega), h00]
  have a01 : A' 0 1 = b2 := by rw [hA' 0 1 (by omega) (by omega), h01]
  have a10 : A' 1 0 = b4 := by rw [hA' 1 0 (by omega) (by omega), h10]
  have a11 : A' 1 1 = b4 := by rw [hA' 1 1 (by omega) (by omega), h11]
  have p0e : p0 = 1 := by
    have := s0.piv
    rw [this]
    show 0 + mostF (fun i => A' (0 + i) 0) 2 = 1
    have hg : gtA b4 b1 = true := by decide +kernel
    simp [mostF, a00, a10, hg]
  subst p0e
  have c00 : A1 0 0 = b4 := by rw [s0.keep 0 0 (by omega) (by omega) (by omega)]; exact a10
  have c01 : A1 0 1 = b4 := by rw [s0.keep 0 1 (by omega) (by omega) (by omega)]; exact a11
  have c10 : A1 1 0 = bq := by
    have := s0.col 1 (by omega) (by omega)
    have e1 : swp 0 1 1 = 0 := rfl
    have e2 : swp 0 1 0 = 1 := rfl
    rw [e1, e2, a00, a10] at this
    have e3 : fb .quo b1 b4 = bq := by decide +kernel
    rw [e3] at this
    exact cn_eq_fin this (by decide)
  have c11 : A1 1 1 = b1 := by
    have := s0.rest 1 1 (by omega) (by omega) (by omega) (by omega)
    have e1 : swp 0 1 1 = 0 := rfl
    have e2 : swp 0 1 0 = 1 := rfl
    rw [e1, e2, a01, a11, c10] at this
    have e3 : fb .add b2 (fb .mul (fb .mul negOne b4) bq) = b1 := by decide +kernel
    rw [e3] at this
    exact cn_eq_fin this (by decide)
  have p1e : p1 = 1 := by
    have := s1.piv
    rw [this]
    rfl
  subst p1e
  have k : ∀ r c, r < 2 → c < 2 → F r c = A1 r c := by
    intro r c hr hc
    rw [s1.keep r c hr hc (by omega)]
    congr 1
    unfold swp; split
    · omega
    · rfl
  refine ⟨?_, ?_, ?_, ?_, ?_⟩
  · rw [hpv, hpv1, hpv0]; rfl
  · rw [k 0 0 (by omega) (by omega), c00]
  · rw [k 1 0 (by omega) (by omega), c10]
  · rw [k 0 1 (by omega) (by omega), c01]
  · rw [k 1 1 (by omega) (by omega), c11]

theorem fac22_nz {k : Nat} {A : Nat → Nat → Nat} {piv : List Nat} (hk : k < 2) (hf : Fac 2 (matF [b1, b4, b2, b4] 0 2) k A piv) (hz : fne .f64 (A (swp k (k + mostF (fun i => A (k + i) k) (2 - k)) k) k) 0 = false) : False := by
  have hk2 : k = 0 ∨ k = 1 := by omega
  rcases hk2 with rfl | rfl
  · obtain ⟨hA, _⟩ := hf
    have a00 : A 0 0 = b1 := by rw [hA 0 0 (by omega) (by omega)]; rfl
    have a10 : A 1 0 = b4 := by rw [hA 1 0 (by omega) (by omega)]; rfl
    have hg : gtA b4 b1 = true := by decide +kernel
    have hm : 0 + mostF (fun i => A (0 + i) 0) (2 - 0) = 1 := by
      show 0 + mostF (fun i => A (0 + i) 0) 2 = 1
      simp [mostF, a00, a10, hg]
    rw [hm] at hz
    have e1 : swp 0 1 0 = 1 := rfl
    rw [e1, a10] at hz
    have : fne .f64 b4 0 = true := by decide +kernel
    rw [this] at hz; cases hz
  · -- the second pivot is 1
    obtain ⟨A', pv0, p0, ⟨hA', hpv0⟩, hpv1, s0⟩ := hf
    replace s0 : StepF 2 0 A' p0 A := s0
    have a00 : A' 0 0 = b1 := by rw [hA' 0 0 (by omega) (by omega)]; rfl
    have a01 : A' 0 1 = b2 := by rw [hA' 0 1 (by omega) (by omega)]; rfl
    have a10 : A' 1 0 = b4 := by rw [hA' 1 0 (by omega) (by omega)]; rfl
    have a11 : A' 1 1 = b4 := by rw [hA' 1 1 (by omega) (by omega)]; rfl
    have p0e : p0 = 1 := by
      have := s0.piv
      rw [this]
      show 0 + mostF (fun i => A' (0 + i) 0) 2 = 1
      have hg : gtA b4 b1 = true := by decide +kernel
      simp [mostF, a00, a10, hg]
    subst p0e
    have c10 : A 1 0 = bq := by
      have := s0.col 1 (by omega) (by omega)
      have e1 : swp 0 1 1 = 0 := rfl
      have e2 : swp 0 1 0 = 1 := rfl
      rw [e1, e2, a00, a10] at this
      have e3 : fb .quo b1 b4 = bq := by decide +kernel
      rw [e3] at this
      exact cn_eq_fin this (by decide)
    have c11 : A 1 1 = b1 := by
      have := s0.rest 1 1 (by omega) (by omega) (by omega) (by omega)
      have e1 : swp 0 1 1 = 0 := rfl
      have e2 : swp 0 1 0 = 1 := rfl
      rw [e1, e2, a01, a11, c10] at this
      have e3 : fb .add b2 (fb .mul (fb .mul negOne b4) bq) = b1 := by decide +kernel
      rw [e3] at this
      exact cn_eq_fin this (by decide)
    have hm : 1 + mostF (fun i => A (1 + i) 1) (2 - 1) = 1 := rfl
    rw [hm] at hz
    have e1 : swp 1 1 1 = 1 := rfl
    rw [e1, c11] at hz
    have : fne .f64 b1 0 = true := by decide +kernel
    rw [this] at hz; cases hz
end Go.Proofs.Ytgdkahbnepafgaa

/-! ### AKawake19 -/
set_option maxRecDepth 100000
set_option maxHeartbeats 400000
set_option linter.unusedVariables false
namespace Go.Proofs.Ytgdkahbnepafgaa
open Go Go.Wk Go.RowKit Ieee
attribute [local irreducible] br

theorem awake19_S : greatL 0 (mostL 2 (fun _ => 2) (matF [b1, b4, b2, b4] 0 2)) = b4 := by decide +kernel
theorem awake19_M : greatL 0 (mostL 2 (fun j => j + 1) (matF [b4, bq, b4, b1] 0 2)) = b4 := by decide +kernel
theorem awake19_n : ∀ y ∈ mostL 2 (fun _ => 2) (matF [b1, b4, b2, b4] 0 2), ¬ nan y := by
  have e : mostL 2 (fun _ => 2) (matF [b1, b4, b2, b4] 0 2) = [b1, b4, b2, b4] := by decide +kernel
  rw [e]
  intro y hy; simp only [List.mem_cons, List.not_mem_nil, or_false] at hy; rcases hy with rfl | rfl | rfl | rfl <;> decide
theorem awake19_m : ∀ y ∈ mostL 2 (fun j => j + 1) (matF [b4, bq, b4, b1] 0 2), ¬ nan y := by
  have e : mostL 2 (fun j => j + 1) (matF [b4, bq, b4, b1] 0 2) = [b4, b4, b1] := by decide +kernel
  rw [e]
  intro y hy; simp at hy; rcases hy with rfl | rfl <;> decide

theorem pivok11 : PivOk [1, 1] := by
  intro k hk
  simp at hk
  have : k = 0 ∨ k = 1 := by omega
  rcases this with rfl | rfl <;> simp

theorem straightedgelaw19_awake.ct {w : World} {K : Value → World → Prop} (h : ∀ w', Ext w w' → K (.bool true) w') : straightedgelaw19_awake.call [] w K := by
  refine straightedgelaw19_awake.os ?_
  unfold straightedgelaw19_awake.s
  refine growth_Growth.bad fun w2 e2 => ⟨_, _, rfl, br_ne (fun hh => absurd rfl hh) fun _ => ?_⟩
  refine newB_blk fun q1 w6 hq1 _ e6 hb1 => ?_
  have f1 : FBlk w6 q1 [b1, b2, b4, b4] := ⟨hb1, by intro x hx; simp at hx; rcases hx with rfl | rfl | rfl | rfl <;> decide⟩
  show view_Dense.call [.int .i64 ((2 : Nat) : Int), .int .i64 ((2 : Nat) : Int), .slice (some q1) 4 4] w6 _
  refine view_Dense.ct (r := 2) (s := 2) (by omega) (by omega) f1.flw rfl (by omega) (by omega) fun q w8 hq e8 hb => ⟨_, _, _, _, _, _, _, rfl, ?_⟩
  have hd : denseL 2 (max 2 1) 0 [b1, b2, b4, b4] (List.replicate (2 * 2) 0) = [b1, b4, b2, b4] := by decide +kernel
  rw [hd] at hb
  intro k18 w17 hk18 hk18' e17 w20 x20
  have s2 := e2.size
  have s6 := e6.size
  have s8 := e8.size
  have s17 := e17.size
  have s20 := x20.size
  have e020 : Ext w w20 := x20.ext (((e2.trans e6).trans e8).trans e17) (by omega)
  have hlt := hb.lt
  have hb20 := (hb.ext e17).exc x20 (by omega)
  have hlen : 2 * 2 = [b1, b4, b2, b4].length := rfl
  rw [show ((max 2 1 : Nat) : Int) = 2 from rfl, hlen]
  refine lu_Factor.ct (n := 2) (off := 0) (ld := 2) hb20.flw (by decide) (by decide) (by unfold I64; decide) (by unfold I64; decide) (by omega) ?_ ?_
  · intro w29 q' ys piv pp cc base e29 hq' hqb hb29 hl hf hown
    obtain ⟨hp, y00, y10, y01, y11⟩ := fac22 rfl rfl rfl rfl hf
    have hys : ys = [b4, bq, b4, b1] := by
      have hl4 : ys.length = 4 := hl
      apply List.ext_getElem
      · simp [hl4]
      · intro i h1 h2
        have e : ys[i] = ys.getD i 0 := by simp [List.getD, h1]
        rw [e]
        have hi : i = 0 ∨ i = 1 ∨ i = 2 ∨ i = 3 := by omega
        rcases hi with rfl | rfl | rfl | rfl
        · exact y00
        · exact y10
        · exact y01
        · exact y11
    subst hys
    subst hp
    refine ⟨.inl e29, _, _, _, _, _, _, _, _, _, _, _, _, rfl, ?_⟩
    intro k44 w43 hk44 _ e43 w46 x46
    have s29 := e29.size
    have s43 := e43.size
    have s46 := x46.size
    have hlt29 := hb29.lt
    have e2046 : Ext w20 w46 := x46.ext (e29.trans e43) (by omega)
    have own46 := (hown.ext e43).exc x46 (fun a ha => by have := (hown.lt ha).2; omega)
    have hb46 := (hb29.ext e43).exc x46 (by omega)
    have hm46 := hb20.ext e2046
    refine growth_Growth.ct (n := 2) (piv := [1, 1]) (ys := [b4, bq, b4, b1]) (offl := 0) (ldl := 2) (off := 0) (ld := 2) hm46.flw (by decide) hb46.flw (by decide) (by decide) (by decide) (by unfold I64; decide) (by unfold I64; decide) (by unfold I64; decide) (by unfold I64; decide) (by omega)
      (own46.ints (xs := [1, 1])) pivok11 awake19_n fun w65 x e65 hxb _ hq => ⟨.inl e65, _, _, rfl, eq_true' rfl (eq_true' rfl ?_)⟩
    rw [awake19_S, awake19_M] at hq
    have hx : x = b1 := by
      have h1 := hq (by decide +kernel) awake19_m
      have e3 : fb .quo b4 b4 = b1 := by decide +kernel
      rw [e3] at h1
      exact cn_eq_fin h1 (by decide)
    subst hx
    have ht : feq .f64 b1 4607182418800017408 = true := by decide +kernel
    rw [ht]
    exact h _ ((e020.trans e2046).trans e65)
  · intro w13 k A piv e13 hk hf hz
    exact (fac22_nz hk hf hz).elim
end Go.Proofs.Ytgdkahbnepafgaa

/-! ### AKdig2 -/
set_option maxRecDepth 100000
set_option maxHeartbeats 2000000
set_option linter.unusedVariables false
namespace Go.Proofs.Ytgdkahbnepafgaa
open Go Go.Wk Go.RowKit Ieee
attribute [local irreducible] br

/-- What a function that hands back a number asks of what comes after. -/
abbrev DK (K : Value → World → Prop) (B : Int) (q : Rat) (w : World) : Prop :=
  ∀ w' s p n c e, Ext w w' → DR w' s p n e B q → Fr w.heap.size p → K (.agg ⟨[.bool s, .slice p n c, .int .i64 e]⟩) w'

theorem straightedgeref02_Whole.ct {s : Bool} {m : Int} {w : World} {K : Value → World → Prop} (h0 : 0 ≤ m) (hm : m < 18446744073709551616)
    (h : DK K 5 ((if s then -1 else 1) * (m : Rat)) w) : straightedgeref02_Whole.call [.bool s, .int .u64 m] w K := by
  refine straightedgeref02_Whole.ok 10 ?_
  unfold straightedgeref02_Whole.x
  refine newB_intro fun q w2 hqb _ hext hrow _ _ => ?_
  have hq : w.heap.size ≤ q.block := by omega
  have hq2 := hrow.lt
  have leave : ∀ (fu : Nat) (l : List Int) (p : Option Addr) (n c : Nat) (w3 : World), 0 < fu → n ≤ 4 → Ext w2 w3 →
      Own w3 w2.heap.size tInt p n c (l.map fun x => .int .i64 x) → Dig l → l.length = n → valL l = m → straightedgeref02_Whole.c2 K fu s 0 (some q) p n c w3 := by
    intro fu l p n c w3 hfu hn he hown hd hl hv
    obtain ⟨fu, rfl⟩ : ∃ m, fu = m + 1 := ⟨fu - 1, by omega⟩
    refine dec_false (by omega) ?_
    refine straightedgeref02_Made.ct (B := 5) hown.ints hd hown.cap (by omega) (by omega) (by omega) (by omega) fun w' s' p' n' c' e' he' hdr _ hbk => ⟨_, _, _, _, _, rfl, ret3p (hrow.ext (he.trans he')) ?_⟩
    have hee := hext.trans (he.trans he')
    have hfr : Fr w2.heap.size p' := fun a ha => by
      obtain ⟨b, hb, e⟩ := hbk a ha
      rw [e]; exact hown.fr b hb
    refine h _ _ _ _ _ _ (ext_put3 hee hq _ _ _) ?_ (hfr.mono (by have := hext.size; omega))
    have hv2 : dv s l 0 = (if s then -1 else 1) * (m : Rat) := by
      unfold dv; rw [hv]
      have : (2 : Rat) ^ (16 * (0 : Int)) = 1 := by decide +kernel
      rw [this, Rat.mul_one]
    rw [hv2] at hdr
    exact hdr.put3 (fun a ha => by have := hfr a ha; omega) _ _ _
  have main : ∀ (d fu : Nat) (z : Int) (l : List Int) (p : Option Addr) (n c : Nat) (w3 : World), d < fu → n + d = 4 → 0 ≤ z → z < 65536 ^ d → Ext w2 w3 →
      Own w3 w2.heap.size tInt p n c (l.map fun x => .int .i64 x) → Dig l → l.length = n → valL l + 65536 ^ n * z = m →
      straightedgeref02_Whole.c2 K fu s z (some q) p n c w3 := by
    intro d
    induction d with
    | zero =>
      intro fu z l p n c w3 hfu hn hz0 hz he hown hd hl hv
      have hz' : z = 0 := by simp at hz; omega
      subst hz'
      exact leave fu l p n c w3 (by omega) (by omega) he hown hd hl (by simpa using hv)
    | succ d ih =>
      intro fu z l p n c w3 hfu hn hz0 hz he hown hd hl hv
      by_cases hz' : z = 0
      · subst hz'
        exact leave fu l p n c w3 (by omega) (by omega) he hown hd hl (by simpa using hv)
      · obtain ⟨fu, rfl⟩ : ∃ m, fu = m + 1 := ⟨fu - 1, by omega⟩
        refine dec_true (by omega) ?_
        have hzb : z < 18446744073709551616 := by
          have h1 : (0 : Int) < 65536 ^ n := pow_pos16 n
          have h2 := valL_nonneg hd
          have h3 : z ≤ 65536 ^ n * z := by
            have := Int.mul_le_mul_of_nonneg_right (show (1 : Int) ≤ 65536 ^ n by omega) hz0
            omega
          omega
        have e1 : IntKind.i64.wrap (Int.tmod z 65536) = z % 65536 := by
          rw [Int.tmod_eq_emod_of_nonneg hz0, wrap_i64 (by omega) (by omega)]
        have e2 : IntKind.u64.wrap (Int.tdiv z 65536) = z / 65536 := by
          rw [Int.tdiv_eq_ediv_of_nonneg hz0, wrap_u64' (by omega) (by omega)]
        rw [e1, e2]
        refine appI hown he (by omega) fun p' c' w' he' hown' => ⟨_, _, _, rfl, ?_⟩
        have hzd : z / 65536 < 65536 ^ d := by
          rw [Int.pow_succ] at hz
          omega
        refine ih fu (z / 65536) (l ++ [z % 65536]) p' (n + 1) c' w' (by omega) (by omega) (by omega) hzd he' hown' ?_ (by simp [hl]) ?_
        · intro x hx
          rcases List.mem_append.1 hx with hx | hx
          · exact hd x hx
          · simp at hx; omega
        · rw [valL_append, hl, ← hv, Int.pow_succ]
          have : valL [z % 65536] = z % 65536 := by simp [valL]
          rw [this]
          have e3 : z = z % 65536 + 65536 * (z / 65536) := by omega
          generalize z / 65536 = a at *
          generalize z % 65536 = b at *
          subst e3
          grind
  have hp4 : (65536 : Int) ^ 4 = 18446744073709551616 := by decide +kernel
  exact main 4 10 m [] none 0 0 w2 (by omega) rfl h0 (by omega) (Ext.refl _) (Own.nil _ _ _) (fun _ h => by cases h) rfl (by simp [valL])

theorem straightedgeref02_floor.ct {k : Int} {w : World} {K : Value → World → Prop} (h1 : -4611686018427387904 ≤ k) (h2 : k ≤ 4611686018427387904)
    (h : K (.tuple ⟨[.int .i64 (k / 16), .int .i64 (k % 16)]⟩) w) : straightedgeref02_floor.call [.int .i64 k] w K := by
  refine straightedgeref02_floor.ok ?_
  unfold straightedgeref02_floor.x
  have e1 : Int.tmod (IntKind.i64.wrap (Int.tmod k 16 + 16)) 16 = k % 16 := by
    have a := Int.tmod_lt_of_pos k (show (0 : Int) < 16 by omega)
    have b : -16 < Int.tmod k 16 := by
      have := Int.lt_tmod_of_pos k (show (0 : Int) < 16 by omega)
      omega
    have c := Int.mul_tdiv_add_tmod k 16
    rw [wrap_i64 (by omega) (by omega), Int.tmod_eq_emod_of_nonneg (by omega)]
    omega
  rw [e1]
  have e2 : IntKind.i64.wrap (Int.tdiv (IntKind.i64.wrap (k - k % 16)) 16) = k / 16 := by
    rw [wrap_i64 (z := k - k % 16) (by omega) (by omega)]
    have : k - k % 16 = 16 * (k / 16) := by omega
    rw [this, Int.mul_tdiv_cancel_left _ (by omega), wrap_i64 (by omega) (by omega)]
  rw [e2]
  exact h

theorem straightedgeref02_power.ct {r : Nat} {w : World} {K : Value → World → Prop} (hr : r ≤ 16)
    (h : K (.int .i64 ((2 ^ r : Nat) : Int)) w) : straightedgeref02_power.call [.int .i64 (r : Int)] w K := by
  refine straightedgeref02_power.ok 20 ?_
  unfold straightedgeref02_power.x
  have main : ∀ (d fu i : Nat), i + d = r → d < fu → straightedgeref02_power.c3 K fu (r : Int) ((2 ^ i : Nat) : Int) (i : Int) w := by
    intro d
    induction d with
    | zero =>
      intro fu i hi hfu
      obtain ⟨fu, rfl⟩ : ∃ m, fu = m + 1 := ⟨fu - 1, by omega⟩
      refine dec_false (by omega) ?_
      have : i = r := by omega
      rw [this]; exact h
    | succ d ih =>
      intro fu i hi hfu
      obtain ⟨fu, rfl⟩ : ∃ m, fu = m + 1 := ⟨fu - 1, by omega⟩
      refine dec_true (by omega) ?_
      have hb : 2 ^ i ≤ 2 ^ 16 := Nat.pow_le_pow_right (by omega) (by omega)
      have e1 : IntKind.i64.wrap (((2 ^ i : Nat) : Int) * 2) = ((2 ^ (i + 1) : Nat) : Int) := by
        rw [Nat.pow_succ]
        generalize 2 ^ i = g at *
        rw [wrap_i64 (by omega) (by omega)]; omega
      have e2 : IntKind.i64.wrap ((i : Int) + 1) = ((i + 1 : Nat) : Int) := by rw [wrap_i64 (by omega) (by omega)]; omega
      rw [e1, e2]
      exact ih fu (i + 1) (by omega) (by omega)
  exact main r 20 0 (by omega) (by omega)
end Go.Proofs.Ytgdkahbnepafgaa

/-! ### AKdig3 -/
set_option maxRecDepth 100000
set_option maxHeartbeats 2000000
set_option linter.unusedVariables false
namespace Go.Proofs.Ytgdkahbnepafgaa
open Go Go.Wk Go.RowKit Ieee
attribute [local irreducible] br

/-- The end of a function that hands on what another one gave. -/
theorem finishD {K : Value → World → Prop} {B : Int} {r : Rat} {w w2 w' : World} {q : Addr} {x y z : Value} {s : Bool} {p : Option Addr} {n c : Nat} {e : Int}
    (h : DK K B r w) (hrow : Row w2 q [x, y, z]) (hq : w.heap.size ≤ q.block) (hext : Ext w w2) (he : Ext w2 w') (hdr : DR w' s p n e B r) (hfr : Fr w2.heap.size p) :
    K (.agg ⟨[.bool s, .slice p n c, .int .i64 e]⟩) (((w'.setCell q (.bool s)).setCell (q.add 1) (.slice p n c)).setCell (q.add 2) (.int .i64 e)) := by
  have := hrow.lt
  exact h _ _ _ _ _ _ (ext_put3 (hext.trans he) hq _ _ _) (hdr.put3 (fun a ha => by have := hfr a ha; omega) _ _ _) (hfr.mono hext.size)

theorem straightedgeref02_Int.ct {k : Int} {w : World} {K : Value → World → Prop} (h1 : -4611686018427387904 ≤ k) (h2 : k ≤ 4611686018427387904)
    (h : DK K 5 (k : Rat) w) : straightedgeref02_Int.call [.int .i64 k] w K := by
  refine straightedgeref02_Int.ok ?_
  unfold straightedgeref02_Int.x
  refine newB_intro fun q w2 hqb _ hext hrow _ _ => ?_
  have hq : w.heap.size ≤ q.block := by omega
  by_cases hk : k < 0
  · refine dec_true hk ?_
    have e1 : IntKind.u64.wrap (IntKind.u64.wrap (IntKind.i64.wrap (0 - IntKind.i64.wrap (k + 1))) + 1) = -k := by
      rw [wrap_i64 (z := k + 1) (by omega) (by omega), wrap_i64 (by omega) (by omega), wrap_u64' (z := 0 - (k + 1)) (by omega) (by omega), wrap_u64' (by omega) (by omega)]; omega
    rw [e1]
    refine straightedgeref02_Whole.ct (by omega) (by omega) fun w' s p n c e he hdr hfr => ⟨_, _, _, _, _, rfl, ret3 (hrow.ext he) ?_⟩
    have hv : ((if true = true then (-1 : Rat) else 1) * ((-k : Int) : Rat)) = (k : Rat) := by rw [if_pos rfl, Rat.intCast_neg]; grind
    rw [hv] at hdr
    exact finishD h hrow hq hext he hdr hfr
  · refine dec_false hk ?_
    rw [wrap_u64' (by omega) (by omega)]
    refine straightedgeref02_Whole.ct (by omega) (by omega) fun w' s p n c e he hdr hfr => ⟨_, _, _, _, _, rfl, ret3 (hrow.ext he) ?_⟩
    have hv : ((if false = true then (-1 : Rat) else 1) * (k : Rat)) = (k : Rat) := by rw [if_neg (by decide), Rat.one_mul]
    rw [hv] at hdr
    exact finishD h hrow hq hext he hdr hfr

theorem set_mid {α : Type} (a : List α) (c x : α) (r : List α) : (a ++ c :: r).set a.length x = a ++ x :: r := by
  induction a with
  | nil => rfl
  | cons y a ih => simp [ih]

theorem zeros_eq (k : Nat) (x : Value) : ((List.range k).map fun j => List.getD [x] (j % 1) default) = List.replicate k x := by
  apply List.ext_getElem
  · simp
  · intro i h1 h2
    simp [Nat.mod_one]

theorem digit_shift {v r : Nat} {c : Int} (hr : r ≤ 15) (hc0 : 0 ≤ c) (hc : c < ((2 ^ r : Nat) : Int)) (v : Int) (hv0 : 0 ≤ v) (hv : v < 65536) :
    0 ≤ c + v * ((2 ^ r : Nat) : Int) % 65536 ∧ c + v * ((2 ^ r : Nat) : Int) % 65536 < 65536 ∧ 0 ≤ v * ((2 ^ r : Nat) : Int) / 65536 ∧ v * ((2 ^ r : Nat) : Int) / 65536 < ((2 ^ r : Nat) : Int) ∧ v * ((2 ^ r : Nat) : Int) < 4294967296 := by
  have : r = 0 ∨ r = 1 ∨ r = 2 ∨ r = 3 ∨ r = 4 ∨ r = 5 ∨ r = 6 ∨ r = 7 ∨ r = 8 ∨ r = 9 ∨ r = 10 ∨ r = 11 ∨ r = 12 ∨ r = 13 ∨ r = 14 ∨ r = 15 := by omega
  rcases this with rfl | rfl | rfl | rfl | rfl | rfl | rfl | rfl | rfl | rfl | rfl | rfl | rfl | rfl | rfl | rfl <;> simp only [Nat.reducePow, Int.cast_ofNat_Int] at hc ⊢ <;> omega

theorem two_pow_cast (r : Nat) (k : Int) (h : k = r) : (((2 ^ r : Nat) : Int) : Rat) = (2 : Rat) ^ k := by
  rw [h, Rat.zpow_natCast, Rat.intCast_natCast, Rat.natCast_pow]; rfl

theorem straightedgeref02_D_Shift.ct {s : Bool} {p : Option Addr} {n c : Nat} {e k : Int} {w : World} {K : Value → World → Prop} {B B' : Int} {q : Rat}
    (hd : DR w s p n e B q) (hB : B ≤ 1099511627776) (hk1 : -1099511627776 ≤ k) (hk2 : k ≤ 1099511627776) (hB' : B + k.natAbs + 2 ≤ B')
    (hB2 : B' ≤ 4398046511104)
    (h : DK K B' (q * 2 ^ k) w) : straightedgeref02_D_Shift.call [.agg ⟨[.bool s, .slice p n c, .int .i64 e]⟩, .int .i64 k] w K := by
  refine straightedgeref02_D_Shift.ok (n + 2) ?_
  unfold straightedgeref02_D_Shift.x
  refine newB_intro fun q1 w2 hq1 _ ext1 row1 hs1 _ => ?_
  refine newB_intro fun q3 w4 hq3 _ ext3 row3 hs3 _ => ?_
  have ext4 := ext1.trans ext3
  have row1' := row1.ext ext3
  refine straightedgeref02_floor.ct (by omega) (by omega) ⟨_, _, rfl, p, n, c, row1'.get 1 rfl, ?_⟩
  obtain ⟨⟨l, hl, hdig, hq, _, _⟩, hlo, hhi⟩ := hd
  have hw : IntKind.i64.wrap ((n : Int) + 1) = ((n + 1 : Nat) : Int) := by rw [wrap_i64 (by omega) (by omega)]; omega
  rw [hw]
  refine ⟨by omega, Int.le_refl _, by omega, by omega, ?_⟩
  rw [Int.toNat_natCast, zeros_eq]
  refine newB_intro fun q12 w13 hq12 _ ext13 row12 hs12 _ => ?_
  obtain ⟨r, hr⟩ : ∃ r : Nat, k % 16 = r := ⟨(k % 16).toNat, by omega⟩
  have hr15 : r ≤ 15 := by omega
  rw [hr]
  have hlen := hl.len
  have hb12 : w4.heap.size ≤ q12.block := by omega
  have main : ∀ (d i fu : Nat) (done : List Int) (cy : Int) (w3 : World), i + d = n → d < fu → Ext w4 w3 → done.length = i → Dig done → 0 ≤ cy → cy < ((2 ^ r : Nat) : Int) →
      Row w3 q12 ((done ++ cy :: List.replicate d 0).map fun x => .int .i64 x) → valL done + 65536 ^ i * cy = valL (l.take i) * ((2 ^ r : Nat) : Int) →
      straightedgeref02_D_Shift.c4 K fu (some q1) (some q3) (k / 16) (r : Int) (some q12) (n + 1) (n + 1) (i : Int) w3 := by
    intro d
    induction d with
    | zero =>
      intro i fu done cy w3 hi hfu he hdl hdd hc0 hc hrow hv
      obtain ⟨fu, rfl⟩ : ∃ m, fu = m + 1 := ⟨fu - 1, by omega⟩
      have r1 := row1'.ext he
      have r3 := row3.ext he
      refine ptrSome_intro rfl ⟨p, n, c, r1.get 1 rfl, dec_false (by omega) (ptrSome_intro rfl ⟨s, r1.get0 rfl, ptrSome_intro rfl ⟨e, r1.get 2 rfl, ?_⟩⟩)⟩
      have hcy : cy < 65536 := by
        have : (2 : Nat) ^ r ≤ 2 ^ 16 := Nat.pow_le_pow_right (by omega) (by omega)
        generalize 2 ^ r = g at *
        omega
      have hm : Ints w3 (some q12) (n + 1) (done ++ [cy]) := by
        have := Ints.of_row (xs := done ++ [cy]) hrow
        have e1 : (done ++ [cy]).length = n + 1 := by simp; omega
        rwa [e1] at this
      have hmd : Dig (done ++ [cy]) := by
        intro x hx
        rcases List.mem_append.1 hx with hx | hx
        · exact hdd x hx
        · simp at hx; omega
      rw [wrap_i64 (by omega) (by omega)]
      refine straightedgeref02_Made.ct (B := B') hm hmd (Nat.le_refl _) (by omega) (by omega) (by omega) (by omega) fun w' s' p' n' c' e' he' hdr _ hbk => ⟨_, _, _, _, _, rfl, ret3p (r3.ext he') ?_⟩
      have hfr : Fr w4.heap.size p' := fun a ha => by
        obtain ⟨b, hb, e⟩ := hbk a ha
        cases hb
        rw [e]; exact hb12
      have hval : dv s (done ++ [cy]) (e + k / 16) = q * 2 ^ k := by
        rw [hq]
        unfold dv
        have e1 : valL (done ++ [cy]) = valL l * ((2 ^ r : Nat) : Int) := by
          rw [valL_append, hdl]
          have : valL [cy] = cy := by simp [valL]
          rw [this, hv, List.take_of_length_le (by omega)]
        rw [e1, Rat.intCast_mul, two_pow_cast r (k % 16) hr]
        have e2 : (2 : Rat) ^ (16 * (e + k / 16)) * 2 ^ (k % 16) = 2 ^ (16 * e) * 2 ^ k := by
          rw [← Rat.zpow_add (by decide), ← Rat.zpow_add (by decide)]
          congr 1; omega
        grind
      rw [hval] at hdr
      exact finishD h row3 (by omega) ext4 (he.trans he') hdr hfr
    | succ d ih =>
      intro i fu done cy w3 hi hfu he hdl hdd hc0 hc hrow hv
      obtain ⟨fu, rfl⟩ : ∃ m, fu = m + 1 := ⟨fu - 1, by omega⟩
      have r1 := row1'.ext he
      have r1d := r1.ext (Ext.drew w3)
      have hlt : i < l.length := by omega
      obtain ⟨a, ha, hcell⟩ := hl.at_ i l[i] (by simp [hlt])
      replace hcell := (Ext.drew w3).cell_of (he.cell_of (ext4.cell_of hcell))
      have hx := hdig l[i] (List.getElem_mem hlt)
      generalize hxe : l[i] = x at *
      have ds := digit_shift (v := 0) hr15 hc0 hc x hx.1 hx.2
      have hrowd := hrow.ext (Ext.drew w3)
      refine ptrSome_intro rfl ⟨p, n, c, r1.get 1 rfl, dec_true (by omega) (ptrSome_intro rfl ⟨p, n, c, r1d.get 1 rfl, ptrSome_intro ha ⟨by omega, by omega, x, by simpa using hcell, ?_⟩⟩)⟩
      refine straightedgeref02_power.ct (by omega) ⟨_, rfl, (Ext.refl _).kept, ptrSome_intro rfl ⟨by omega, by omega, cy, ?_, ptrSome_intro rfl ⟨by omega, by omega, ?_, ?_, ptrSome_intro rfl ?_⟩⟩⟩
      · have := hrowd.get i (v := .int .i64 cy) (by rw [List.getElem?_map, List.getElem?_append_right (by omega)]; simp [hdl])
        simpa using this
      · have := hrowd.get i (v := .int .i64 cy) (by rw [List.getElem?_map, List.getElem?_append_right (by omega)]; simp [hdl])
        rw [Int.toNat_natCast, this]; rfl
      · rw [Int.toNat_natCast]; exact hrowd.free i (by simp; omega)
      have w1 : IntKind.i64.wrap (x * ((2 ^ r : Nat) : Int)) = x * ((2 ^ r : Nat) : Int) := wrap_i64 (by have := Int.mul_nonneg hx.1 (show (0 : Int) ≤ ((2 ^ r : Nat) : Int) by omega); omega) (by omega)
      have hnn : 0 ≤ x * ((2 ^ r : Nat) : Int) := Int.mul_nonneg hx.1 (by omega)
      have w2' : Int.tmod (x * ((2 ^ r : Nat) : Int)) 65536 = x * ((2 ^ r : Nat) : Int) % 65536 := Int.tmod_eq_emod_of_nonneg hnn
      have w3' : Int.tdiv (x * ((2 ^ r : Nat) : Int)) 65536 = x * ((2 ^ r : Nat) : Int) / 65536 := Int.tdiv_eq_ediv_of_nonneg hnn
      rw [w1, w2', w3', wrap_i64 (z := cy + _) (by omega) (by omega), wrap_i64 (z := _ / 65536) (by omega) (by omega), wrap_i64 (z := (i : Int) + 1) (by omega) (by omega)]
      have hi1 : Int.toNat ((i : Int) + 1) = i + 1 := by omega
      rw [hi1, Int.toNat_natCast]
      have s1 := hrowd.set i (.int .i64 (cy + x * ((2 ^ r : Nat) : Int) % 65536)) (by simp; omega)
      have s2 := s1.set (i + 1) (.int .i64 (x * ((2 ^ r : Nat) : Int) / 65536)) (by simp; omega)
      have el : (((done ++ cy :: List.replicate (d + 1) 0).map fun x => Value.int .i64 x).set i (.int .i64 (cy + x * ((2 ^ r : Nat) : Int) % 65536))).set (i + 1) (.int .i64 (x * ((2 ^ r : Nat) : Int) / 65536)) =
          (((done ++ [cy + x * ((2 ^ r : Nat) : Int) % 65536]) ++ (x * ((2 ^ r : Nat) : Int) / 65536) :: List.replicate d 0).map fun x => Value.int .i64 x) := by
        rw [← List.map_set, ← List.map_set, ← hdl, set_mid]
        congr 1
        have := set_mid (done ++ [cy + x * ((2 ^ r : Nat) : Int) % 65536]) 0 (x * ((2 ^ r : Nat) : Int) / 65536) (List.replicate d 0)
        rw [← this]
        simp [List.replicate_succ]
      rw [el] at s2
      refine ⟨by omega, by omega, ?_, s1.free (i + 1) (by simp; omega), ?_⟩
      · have hlt2 : i + 1 < (((done ++ cy :: List.replicate (d + 1) 0).map fun x => Value.int .i64 x).set i (.int .i64 (cy + x * ((2 ^ r : Nat) : Int) % 65536))).length := by simp; omega
        rw [s1.get (i + 1) (List.getElem?_eq_getElem hlt2)]; rfl
      have ee : Ext w4 ((w3.drew.setCell (q12.add i) (.int .i64 (cy + x * ((2 ^ r : Nat) : Int) % 65536))).setCell (q12.add (i + 1)) (.int .i64 (x * ((2 ^ r : Nat) : Int) / 65536))) :=
        Ext.set (Ext.set (he.trans (Ext.drew w3)) hb12 i _) hb12 (i + 1) _
      have e9 : (i : Int) + 1 = ((i + 1 : Nat) : Int) := by omega
      rw [e9]
      refine ih (i + 1) fu (done ++ [cy + x * ((2 ^ r : Nat) : Int) % 65536]) (x * ((2 ^ r : Nat) : Int) / 65536) _ (by omega) (by omega) ee (by simp [hdl]) ?_ ds.2.2.1 ds.2.2.2.1 s2 ?_
      · intro y hy
        rcases List.mem_append.1 hy with hy | hy
        · exact hdd y hy
        · simp at hy; rw [hy]; exact ⟨ds.1, ds.2.1⟩
      · have ht : l.take (i + 1) = l.take i ++ [x] := by rw [List.take_add_one, List.getElem?_eq_getElem hlt, hxe]; rfl
        rw [ht, valL_append, valL_append, hdl, List.length_take, Nat.min_eq_left (by omega)]
        have v1 : ∀ y : Int, valL [y] = y := fun y => by simp [valL]
        rw [v1, v1, Int.pow_succ]
        have e3 : x * ((2 ^ r : Nat) : Int) = x * ((2 ^ r : Nat) : Int) % 65536 + 65536 * (x * ((2 ^ r : Nat) : Int) / 65536) := by omega
        generalize x * ((2 ^ r : Nat) : Int) % 65536 = m1 at *
        generalize x * ((2 ^ r : Nat) : Int) / 65536 = m2 at *
        generalize ((2 ^ r : Nat) : Int) = g at *
        grind
  have row0 : Row w13 q12 (([] ++ (0 : Int) :: List.replicate n 0).map fun x => Value.int .i64 x) := by
    have : (([] ++ (0 : Int) :: List.replicate n 0).map fun x => Value.int .i64 x) = List.replicate (n + 1) (.int .i64 0) := by simp [List.replicate_succ]
    rw [this]; exact row12
  have hpos : (0 : Int) < ((2 ^ r : Nat) : Int) := by have := Nat.two_pow_pos r; omega
  exact main n 0 (n + 2) [] 0 w13 (by omega) (by omega) ext13 rfl (fun _ h => by cases h) (Int.le_refl _) hpos row0 (by simp [valL])
end Go.Proofs.Ytgdkahbnepafgaa

/-! ### AKdig4 -/
set_option maxRecDepth 100000
set_option maxHeartbeats 2000000
set_option linter.unusedVariables false
namespace Go.Proofs.Ytgdkahbnepafgaa
open Go Go.Wk Go.RowKit Ieee
attribute [local irreducible] br

theorem straightedgeref02_Of.ct {x : Nat} (hx : x < 18446744073709551616) (hf : fin x) {w : World} {K : Value → World → Prop} (h : DK K 1100 (fval x) w) :
    straightedgeref02_Of.call [.float .f64 x] w K := by
  refine straightedgeref02_Of.ok ?_
  unfold straightedgeref02_Of.x
  refine newB_intro fun q w2 hqb _ hext hrow _ _ => ?_
  have hq : w.heap.size ≤ q.block := by omega
  refine straightedgeref01_Parts.ct hx ⟨_, _, _, _, rfl, ?_⟩
  unfold mB eB
  rw [if_pos hf, if_pos hf]
  have hm : magR (rung x) < 9007199254740992 := by unfold magR; split <;> omega
  have hs : shR (rung x) ≤ 2045 := by unfold fin infR at hf; unfold shR; split <;> omega
  refine straightedgeref02_Whole.ct (by omega) (by omega) fun w' s p n c e he hdr hfr => ⟨_, _, _, _, _, rfl, ?_⟩
  refine straightedgeref02_D_Shift.ct (B' := 1100) hdr (by omega) (by omega) (by omega) (by omega) (by omega) fun w'' s' p' n' c' e' he' hdr' hfr' => ⟨_, _, _, _, _, rfl, ret3 (hrow.ext (he.trans he')) ?_⟩
  rw [fval_parts] at hdr'
  exact finishD h hrow hq hext (he.trans he') hdr' (hfr'.mono he.size)

theorem dv_neg (s : Bool) (l : List Int) (e : Int) : dv (!s) l e = - dv s l e := by
  unfold dv
  cases s <;> simp <;> grind

theorem straightedgeref02_D_Minus.ct {s : Bool} {p : Option Addr} {n c : Nat} {e B : Int} {q : Rat} {w : World} {K : Value → World → Prop} (hd : DR w s p n e B q)
    (h : ∀ w' s', Ext w w' → DR w' s' p n e B (-q) → K (.agg ⟨[.bool s', .slice p n c, .int .i64 e]⟩) w') :
    straightedgeref02_D_Minus.call [.agg ⟨[.bool s, .slice p n c, .int .i64 e]⟩] w K := by
  refine straightedgeref02_D_Minus.ok ?_
  unfold straightedgeref02_D_Minus.x
  refine newB_intro fun q1 w2 hq1 _ ext1 row1 hs1 _ => ?_
  refine newB_intro fun q3 w4 hq3 _ ext3 row3 hs3 _ => ?_
  have ext4 := ext1.trans ext3
  have r1 := row1.ext ext3
  have hlt := row1.lt
  obtain ⟨⟨l, hl, hdig, hq, hz, hp⟩, hlo, hhi⟩ := hd
  have hlen := hl.len
  refine ⟨p, n, c, r1.get 1 rfl, ?_⟩
  by_cases hn : n = 0
  · refine dec_false (by omega) ⟨s, p, n, c, e, r1.get0 rfl, r1.get 1 rfl, r1.get 2 rfl, ret3 row3 ?_⟩
    have ee : Ext w _ := ext_put3 ext4 (q := q3) (by omega) (.bool s) (.slice p n c) (.int .i64 e)
    have hl0 : l = [] := List.eq_nil_of_length_eq_zero (by omega)
    refine h _ _ ee ⟨⟨l, hl.ext ee, hdig, ?_, hz, hp⟩, hlo, hhi⟩
    rw [hq, hl0]; unfold dv; simp [valL]
  · have fl := r1.set 0 (.bool (!s)) (by simp)
    have hfree := r1.free 0 (by simp)
    refine dec_true (by omega) ⟨s, r1.get0 rfl, by rw [r1.get0 (v := .bool s) rfl]; rfl, hfree, !s, p, n, c, e, fl.get0 rfl, fl.get 1 rfl, fl.get 2 rfl, ?_⟩
    have r3 : Row (w4.setCell q1 (.bool (!s))) q3 [.bool false, .slice none 0 0, .int .i64 0] := Row.apart (a := q1) row3 (by omega) 0 _
    refine ret3 r3 ?_
    have e1 : Ext w (w4.setCell q1 (.bool (!s))) := Ext.set (a := q1) ext4 (by omega) 0 _
    have ee : Ext w _ := ext_put3 e1 (q := q3) (by omega) (.bool (!s)) (.slice p n c) (.int .i64 e)
    refine h _ _ ee ⟨⟨l, hl.ext ee, hdig, by rw [dv_neg, hq], fun h0 => ?_, hp⟩, hlo, hhi⟩
    rw [h0] at hlen; simp at hlen; omega

theorem dv_abs (s : Bool) (l : List Int) (e : Int) (h : 0 ≤ valL l) : dv false l e = (dv s l e).abs := by
  have h1 : (0 : Rat) ≤ (valL l : Rat) := Rat.intCast_nonneg.2 h
  have h2 : (0 : Rat) < 2 ^ (16 * e) := Rat.zpow_pos (by decide)
  have h3 : 0 ≤ (valL l : Rat) * 2 ^ (16 * e) := Rat.mul_nonneg h1 (Rat.le_of_lt h2)
  unfold dv
  cases s
  · simp only [Bool.false_eq_true, if_false, Rat.one_mul]
    rw [Rat.abs_of_nonneg h3]
  · simp only [Bool.false_eq_true, if_false, if_true, Rat.one_mul]
    rw [Rat.neg_mul, Rat.one_mul, Rat.neg_mul, Rat.abs_neg, Rat.abs_of_nonneg h3]

theorem straightedgeref02_D_Abs.ct {s : Bool} {p : Option Addr} {n c : Nat} {e B : Int} {q : Rat} {w : World} {K : Value → World → Prop} (hd : DR w s p n e B q)
    (h : ∀ w', Ext w w' → DR w' false p n e B q.abs → K (.agg ⟨[.bool false, .slice p n c, .int .i64 e]⟩) w') :
    straightedgeref02_D_Abs.call [.agg ⟨[.bool s, .slice p n c, .int .i64 e]⟩] w K := by
  refine straightedgeref02_D_Abs.ok ?_
  unfold straightedgeref02_D_Abs.x
  refine newB_intro fun q1 w2 hq1 _ ext1 row1 hs1 _ => ?_
  refine newB_intro fun q3 w4 hq3 _ ext3 row3 hs3 _ => ?_
  have ext4 := ext1.trans ext3
  have r1 := row1.ext ext3
  have hlt := row1.lt
  obtain ⟨⟨l, hl, hdig, hq, hz, hp⟩, hlo, hhi⟩ := hd
  have fl := r1.set 0 (.bool false) (by simp)
  refine ⟨by rw [r1.get0 (v := .bool s) rfl]; rfl, r1.free 0 (by simp), false, p, n, c, e, fl.get0 rfl, fl.get 1 rfl, fl.get 2 rfl, ?_⟩
  have r3 : Row (w4.setCell q1 (.bool false)) q3 [.bool false, .slice none 0 0, .int .i64 0] := Row.apart (a := q1) row3 (by omega) 0 _
  refine ret3 r3 ?_
  have e1 : Ext w (w4.setCell q1 (.bool false)) := Ext.set (a := q1) ext4 (by omega) 0 _
  have ee : Ext w _ := ext_put3 e1 (q := q3) (by omega) (.bool false) (.slice p n c) (.int .i64 e)
  exact h _ ee ⟨⟨l, hl.ext ee, hdig, by rw [hq, dv_abs s l e (valL_nonneg hdig)], fun _ => rfl, hp⟩, hlo, hhi⟩

theorem straightedgeref02_D_Sign.ct {s : Bool} {p : Option Addr} {n c : Nat} {e B : Int} {q : Rat} {w : World} {K : Value → World → Prop} (hd : DR w s p n e B q)
    (h : ∀ w' (z : Int), Ext w w' → (q = 0 → z = 0) → (q < 0 → z = -1) → (0 < q → z = 1) → K (.int .i64 z) w') :
    straightedgeref02_D_Sign.call [.agg ⟨[.bool s, .slice p n c, .int .i64 e]⟩] w K := by
  refine straightedgeref02_D_Sign.ok ?_
  unfold straightedgeref02_D_Sign.x
  refine newB_intro fun q1 w2 hq1 _ ext1 row1 hs1 _ => ?_
  obtain ⟨⟨l, hl, hdig, hq, hz, hp⟩, hlo, hhi⟩ := hd
  have hlen := hl.len
  refine ⟨p, n, c, row1.get 1 rfl, ?_⟩
  have h2 : (0 : Rat) < 2 ^ (16 * e) := Rat.zpow_pos (by decide)
  by_cases hn : n = 0
  · have hl0 : l = [] := List.eq_nil_of_length_eq_zero (by omega)
    have hq0 : q = 0 := by rw [hq, hl0]; unfold dv; simp [valL]
    refine br_true (by rw [hn]; rfl) (h w2 0 ext1 (fun _ => rfl) ?_ ?_)
    · intro hh; rw [hq0] at hh; exact absurd hh (by decide)
    · intro hh; rw [hq0] at hh; exact absurd hh (by decide)
  · have hne : l ≠ [] := by intro hh; rw [hh] at hlen; exact hn hlen.symm
    have hpos : (0 : Rat) < (valL l : Rat) * 2 ^ (16 * e) := Rat.mul_pos (Rat.intCast_pos.2 (hp hne)) h2
    refine br_false (beq_eq_false_iff_ne.2 (by omega)) ⟨s, row1.get0 rfl, ?_⟩
    unfold dv at hq
    cases s
    · refine br_false rfl (h w2 1 ext1 ?_ ?_ (fun _ => rfl))
      · intro hh; simp only [Bool.false_eq_true, if_false] at hq; grind
      · intro hh; simp only [Bool.false_eq_true, if_false] at hq; grind
    · refine br_true rfl (h w2 (-1) ext1 ?_ (fun _ => rfl) ?_)
      · intro hh; simp only [if_true] at hq; grind
      · intro hh; simp only [if_true] at hq; grind
end Go.Proofs.Ytgdkahbnepafgaa

/-! ### AKdig5 -/
set_option maxRecDepth 100000
set_option maxHeartbeats 2000000
set_option linter.unusedVariables false
namespace Go.Proofs.Ytgdkahbnepafgaa
open Go Go.Wk Go.RowKit Ieee
attribute [local irreducible] br

/-- The digit of a place. -/
def dgt (l : List Int) (e pl : Int) : Int := if e ≤ pl ∧ pl < e + l.length then l.getD (pl - e).toNat 0 else 0

theorem dgt_bound {l : List Int} (h : Dig l) (e pl : Int) : 0 ≤ dgt l e pl ∧ dgt l e pl < 65536 := by
  unfold dgt
  by_cases hc : e ≤ pl ∧ pl < e + l.length
  · rw [if_pos hc]
    have hlt : (pl - e).toNat < l.length := by omega
    rw [List.getD_eq_getElem?_getD, List.getElem?_eq_getElem hlt]
    exact h _ (List.getElem_mem hlt)
  · rw [if_neg hc]; omega

theorem straightedgeref02_D_at.ct {s : Bool} {p : Option Addr} {n c : Nat} {e pl : Int} {l : List Int} {w : World} {K : Value → World → Prop} (hl : Ints w p n l)
    (he1 : -8796093022208 ≤ e) (he2 : e + n ≤ 8796093022208) (hp1 : -8796093022208 ≤ pl) (hp2 : pl ≤ 8796093022208)
    (h : ∀ w', Ext w w' → K (.int .i64 (dgt l e pl)) w') : straightedgeref02_D_at.call [.agg ⟨[.bool s, .slice p n c, .int .i64 e]⟩, .int .i64 pl] w K := by
  refine straightedgeref02_D_at.ok ?_
  unfold straightedgeref02_D_at.x
  refine newB_intro fun q1 w2 hq1 _ ext1 row1 hs1 _ => ?_
  have hlen := hl.len
  have h2 := h w2 ext1
  unfold dgt at h2
  refine ⟨e, row1.get 2 rfl, ?_⟩
  by_cases c1 : pl < e
  · refine dec_true c1 ?_
    rw [if_neg (by omega)] at h2; exact h2
  refine dec_false c1 ⟨e, row1.get 2 rfl, p, n, c, row1.get 1 rfl, ?_⟩
  rw [wrap_i64 (by omega) (by omega)]
  by_cases c2 : pl ≥ e + (n : Int)
  · refine dec_true c2 ?_
    rw [if_neg (by omega)] at h2; exact h2
  refine dec_false c2 ⟨p, n, c, row1.get 1 rfl, e, row1.get 2 rfl, ?_⟩
  rw [wrap_i64 (by omega) (by omega)]
  rw [if_pos (by omega)] at h2
  have hlt : (pl - e).toNat < l.length := by omega
  obtain ⟨a, ha, hc⟩ := hl.at_ (pl - e).toNat l[(pl - e).toNat] (by simp [hlt])
  rw [List.getD_eq_getElem?_getD, List.getElem?_eq_getElem hlt] at h2
  exact ptrSome_intro ha ⟨by omega, by omega, _, ext1.cell_of hc, h2⟩

def endF (n1 : Nat) (e1 : Int) (n2 : Nat) (e2 : Int) : Int := if n1 = 0 then e2 else if n2 = 0 then e1 else min e1 e2
def endT (n1 : Nat) (e1 : Int) (n2 : Nat) (e2 : Int) : Int := if n1 = 0 then e2 + n2 else if n2 = 0 then e1 + n1 else max (e1 + n1) (e2 + n2)

theorem straightedgeref02_ends.ct {s1 s2 : Bool} {p1 p2 : Option Addr} {n1 c1 n2 c2 : Nat} {e1 e2 : Int} {w : World} {K : Value → World → Prop}
    (ha1 : -8796093022208 ≤ e1) (ha2 : e1 + n1 ≤ 8796093022208) (hb1 : -8796093022208 ≤ e2) (hb2 : e2 + n2 ≤ 8796093022208)
    (h : ∀ w', Ext w w' → K (.tuple ⟨[.int .i64 (endF n1 e1 n2 e2), .int .i64 (endT n1 e1 n2 e2)]⟩) w') :
    straightedgeref02_ends.call [.agg ⟨[.bool s1, .slice p1 n1 c1, .int .i64 e1]⟩, .agg ⟨[.bool s2, .slice p2 n2 c2, .int .i64 e2]⟩] w K := by
  refine straightedgeref02_ends.ok ?_
  unfold straightedgeref02_ends.x
  refine newB_intro fun q1 w2 hq1 _ ext1 row1 hs1 _ => ?_
  refine newB_intro fun q3 w4 hq3 _ ext3 row3 hs3 _ => ?_
  have r1 := row1.ext ext3
  have r1d := r1.ext (Ext.drew w4)
  have r3d := row3.ext (Ext.drew w4)
  have h2 := h w4.drew ((ext1.trans ext3).trans (Ext.drew w4))
  unfold endF endT at h2
  have w1 : IntKind.i64.wrap (e1 + (n1 : Int)) = e1 + n1 := wrap_i64 (by omega) (by omega)
  have w2' : IntKind.i64.wrap (e2 + (n2 : Int)) = e2 + n2 := wrap_i64 (by omega) (by omega)
  refine ⟨p1, n1, c1, r1.get 1 rfl, ?_⟩
  by_cases h0 : n1 = 0
  · rw [if_pos h0, if_pos h0] at h2
    refine br_true (by rw [h0]; rfl) ⟨e2, r3d.get 2 rfl, e2, r3d.get 2 rfl, p2, n2, c2, r3d.get 1 rfl, ?_⟩
    rw [w2']; exact h2
  rw [if_neg h0, if_neg h0] at h2
  refine br_false (beq_eq_false_iff_ne.2 (by omega)) ⟨p2, n2, c2, row3.get 1 rfl, ?_⟩
  by_cases h1 : n2 = 0
  · rw [if_pos h1, if_pos h1] at h2
    refine br_true (by rw [h1]; rfl) ⟨e1, r1d.get 2 rfl, e1, r1d.get 2 rfl, p1, n1, c1, r1d.get 1 rfl, ?_⟩
    rw [w1]; exact h2
  rw [if_neg h1, if_neg h1] at h2
  refine br_false (beq_eq_false_iff_ne.2 (by omega)) ⟨e1, r1d.get 2 rfl, e2, r3d.get 2 rfl, e1, r1d.get 2 rfl, p1, n1, c1, r1d.get 1 rfl, e2, r3d.get 2 rfl, p2, n2, c2, r3d.get 1 rfl, ?_⟩
  rw [w1, w2']
  have m1 : (if e2 < e1 then e2 else e1) = min e1 e2 := by split <;> omega
  have m2 : (if e2 + (n2 : Int) > e1 + n1 then e2 + (n2 : Int) else e1 + n1) = max (e1 + n1) (e2 + n2) := by split <;> omega
  rw [m1, m2]
  exact h2

/-- The digits of 'k' places from 'F' on. -/
def dl (l : List Int) (e F : Int) (k : Nat) : List Int := (List.range k).map fun j : Nat => dgt l e (F + j)

theorem dl_succ (l : List Int) (e F : Int) (k : Nat) : dl l e F (k + 1) = dl l e F k ++ [dgt l e (F + k)] := by
  unfold dl; rw [List.range_succ, List.map_append]; rfl
theorem dl_len (l : List Int) (e F : Int) (k : Nat) : (dl l e F k).length = k := by unfold dl; simp
theorem dl_dig {l : List Int} (h : Dig l) (e F : Int) (k : Nat) : Dig (dl l e F k) := by
  intro d hd
  unfold dl at hd
  obtain ⟨j, _, rfl⟩ := List.mem_map.1 hd
  exact dgt_bound h e _

theorem valL_dl_succ (l : List Int) (e F : Int) (k : Nat) : valL (dl l e F (k + 1)) = valL (dl l e F k) + 65536 ^ k * dgt l e (F + k) := by
  rw [dl_succ, valL_append, dl_len]; simp [valL]

theorem valL_dl {l : List Int} {e F : Int} {k : Nat} (h : l = [] ∨ (F ≤ e ∧ e + l.length ≤ F + k)) : (valL (dl l e F k) : Rat) * 2 ^ (16 * F) = (valL l : Rat) * 2 ^ (16 * e) := by
  rcases h with h | ⟨h1, h2⟩
  · subst h
    have : dl [] e F k = List.replicate k 0 := by
      unfold dl
      apply List.ext_getElem
      · simp
      · intro i a b; simp [dgt]
    rw [this, valL_zeros]
    simp [valL]
  · have hdl : dl l e F k = List.replicate (e - F).toNat 0 ++ (l ++ List.replicate (F + k - e - l.length).toNat 0) := by
      unfold dl
      apply List.ext_getElem?
      intro i
      by_cases hi : i < k
      · rw [List.getElem?_map, List.getElem?_range hi, Option.map_some]
        by_cases c1 : i < (e - F).toNat
        · rw [List.getElem?_append_left (by simpa using c1), List.getElem?_replicate, if_pos c1]
          unfold dgt; rw [if_neg (by omega)]
        · rw [List.getElem?_append_right (by simpa using c1), List.length_replicate]
          by_cases c2 : i - (e - F).toNat < l.length
          · rw [List.getElem?_append_left c2, List.getElem?_eq_getElem c2]
            unfold dgt
            rw [if_pos (by omega), List.getD_eq_getElem?_getD]
            have : (F + (i : Int) - e).toNat = i - (e - F).toNat := by omega
            rw [this, List.getElem?_eq_getElem c2]; rfl
          · rw [List.getElem?_append_right (by omega), List.getElem?_replicate, if_pos (by omega)]
            unfold dgt; rw [if_neg (by omega)]
      · rw [List.getElem?_eq_none (by simp; omega), List.getElem?_eq_none (by simp; omega)]
    rw [hdl, valL_append, valL_zeros, valL_append, valL_zeros, List.length_replicate]
    have e1 : (2 : Rat) ^ (16 * e) = 2 ^ (16 * F) * 2 ^ (16 * (e - F)) := by
      rw [← Rat.zpow_add two_ne]; congr 1; omega
    obtain ⟨d, hd⟩ : ∃ d : Nat, e - F = d := ⟨(e - F).toNat, by omega⟩
    have e2 : (2 : Rat) ^ (16 * (e - F)) = ((65536 ^ (e - F).toNat : Int) : Rat) := by
      rw [hd, Int.toNat_natCast, ← two_pow_cast (16 * d) (16 * (d : Int)) (by omega), Nat.pow_mul, Int.natCast_pow]
      rfl
    rw [e1, e2]
    have e3 : (0 + 65536 ^ (e - F).toNat * (valL l + 65536 ^ l.length * 0) : Int) = 65536 ^ (e - F).toNat * valL l := by rw [Int.zero_add, Int.mul_zero, Int.add_zero]
    rw [e3, Rat.intCast_mul]
    grind
end Go.Proofs.Ytgdkahbnepafgaa

/-! ### AKdig6 -/
set_option maxRecDepth 100000
set_option maxHeartbeats 2000000
set_option linter.unusedVariables false
namespace Go.Proofs.Ytgdkahbnepafgaa
open Go Go.Wk Go.RowKit Ieee
attribute [local irreducible] br

theorem straightedgeref02_size.ct {s1 s2 : Bool} {p1 p2 : Option Addr} {n1 c1 n2 c2 : Nat} {e1 e2 : Int} {l1 l2 : List Int} {w : World} {K : Value → World → Prop}
    (hl1 : Ints w p1 n1 l1) (hl2 : Ints w p2 n2 l2) (hd1 : Dig l1) (hd2 : Dig l2)
    (ha1 : -4398046511104 ≤ e1) (ha2 : e1 + n1 ≤ 4398046511104) (hb1 : -4398046511104 ≤ e2) (hb2 : e2 + n2 ≤ 4398046511104)
    {F : Int} {k : Nat} (hF : endF n1 e1 n2 e2 = F) (hk : endT n1 e1 n2 e2 = F + k)
    (h : ∀ w' (z : Int), Ext w w' → (valL (dl l1 e1 F k) < valL (dl l2 e2 F k) → z = -1) → (valL (dl l1 e1 F k) = valL (dl l2 e2 F k) → z = 0) →
      (valL (dl l2 e2 F k) < valL (dl l1 e1 F k) → z = 1) → K (.int .i64 z) w') :
    straightedgeref02_size.call [.agg ⟨[.bool s1, .slice p1 n1 c1, .int .i64 e1]⟩, .agg ⟨[.bool s2, .slice p2 n2 c2, .int .i64 e2]⟩] w K := by
  refine straightedgeref02_size.ok (k + 1) ?_
  unfold straightedgeref02_size.x
  refine newB_intro fun q1 w2 hq1 _ ext1 row1 hs1 _ => ?_
  refine newB_intro fun q3 w4 hq3 _ ext3 row3 hs3 _ => ?_
  have ext4 := ext1.trans ext3
  have r1 := row1.ext ext3
  have hFb : -4398046511104 ≤ F ∧ F + k ≤ 4398046511104 := by
    rw [← hk, ← hF]
    unfold endF endT
    by_cases a : n1 = 0
    · rw [if_pos a, if_pos a]; omega
    · rw [if_neg a, if_neg a]
      by_cases b : n2 = 0
      · rw [if_pos b, if_pos b]; omega
      · rw [if_neg b, if_neg b]; omega
  refine ⟨s1, p1, n1, c1, e1, r1.get0 rfl, r1.get 1 rfl, r1.get 2 rfl, s2, p2, n2, c2, e2, row3.get0 rfl, row3.get 1 rfl, row3.get 2 rfl, ?_⟩
  refine straightedgeref02_ends.ct (by omega) (by omega) (by omega) (by omega) fun w16 e16 => ⟨_, _, rfl, ?_⟩
  rw [hF, hk]
  have main : ∀ (d fu : Nat) (w5 : World), d < fu → d ≤ k → Ext w4 w5 → valL (dl l1 e1 F k) - valL (dl l2 e2 F k) = valL (dl l1 e1 F d) - valL (dl l2 e2 F d) →
      straightedgeref02_size.c3 K fu (some q1) (some q3) F (F + d - 1) w5 := by
    intro d
    induction d with
    | zero =>
      intro fu w5 hfu hdk he hv
      obtain ⟨fu, rfl⟩ : ∃ m, fu = m + 1 := ⟨fu - 1, by omega⟩
      refine dec_false (by omega) ?_
      have z0 : ∀ l e, valL (dl l e F 0) = 0 := fun _ _ => rfl
      rw [z0, z0] at hv
      exact h w5 0 (ext4.trans he) (fun _ => by omega) (fun _ => rfl) (fun _ => by omega)
    | succ d ih =>
      intro fu w5 hfu hdk he hv
      obtain ⟨fu, rfl⟩ : ∃ m, fu = m + 1 := ⟨fu - 1, by omega⟩
      have hpl : F + ((d + 1 : Nat) : Int) - 1 = F + d := by omega
      rw [hpl]
      have rr1 := r1.ext (he.trans (Ext.drew w5))
      have rr3 := row3.ext (he.trans (Ext.drew w5))
      have hI1 := hl1.ext (ext4.trans (he.trans (Ext.drew w5)))
      have hI2 := hl2.ext (ext4.trans (he.trans (Ext.drew w5)))
      refine dec_true (by omega) (ptrSome_intro rfl ⟨s1, p1, n1, c1, e1, rr1.get0 rfl, rr1.get 1 rfl, rr1.get 2 rfl, ptrSome_intro rfl ⟨s2, p2, n2, c2, e2, rr3.get0 rfl, rr3.get 1 rfl, rr3.get 2 rfl, ?_⟩⟩)
      refine straightedgeref02_D_at.ct hI1 (by omega) (by omega) (by omega) (by omega) fun w6 e6 => ⟨_, rfl, e6.kept, ?_⟩
      refine straightedgeref02_D_at.ct (hI2.ext e6) (by omega) (by omega) (by omega) (by omega) fun w7 e7 => ⟨_, rfl, ?_⟩
      have ee := (he.trans (Ext.drew w5)).trans (e6.trans e7)
      rw [valL_dl_succ, valL_dl_succ] at hv
      have b1 := valL_lt (dl_dig hd1 e1 F d)
      have b2 := valL_lt (dl_dig hd2 e2 F d)
      have b3 := valL_nonneg (dl_dig hd1 e1 F d)
      have b4 := valL_nonneg (dl_dig hd2 e2 F d)
      rw [dl_len] at b1 b2
      by_cases hne : dgt l1 e1 (F + d) = dgt l2 e2 (F + d)
      · refine br_false (by rw [hne]; exact bne_self_eq_false _) ?_
        rw [wrap_i64 (by omega) (by omega)]
        refine ih fu w7 (by omega) (by omega) ee ?_
        rw [hv, hne]; omega
      · refine br_true (bne_iff_ne.2 hne) ?_
        have rq1 := r1.ext (ee.trans (Ext.drew w7))
        have rq3 := row3.ext (ee.trans (Ext.drew w7))
        refine ptrSome_intro rfl ⟨s1, p1, n1, c1, e1, rq1.get0 rfl, rq1.get 1 rfl, rq1.get 2 rfl, ptrSome_intro rfl ⟨s2, p2, n2, c2, e2, rq3.get0 rfl, rq3.get 1 rfl, rq3.get 2 rfl, ?_⟩⟩
        refine straightedgeref02_D_at.ct (hl1.ext (ext4.trans (ee.trans (Ext.drew w7)))) (by omega) (by omega) (by omega) (by omega) fun w8 e8 => ⟨_, rfl, e8.kept, ?_⟩
        refine straightedgeref02_D_at.ct (hl2.ext ((ext4.trans (ee.trans (Ext.drew w7))).trans e8)) (by omega) (by omega) (by omega) (by omega) fun w9 e9 => ⟨_, rfl, ?_⟩
        have eee := (ext4.trans (ee.trans (Ext.drew w7))).trans (e8.trans e9)
        have hp := pow_pos16 d
        generalize dgt l1 e1 (F + d) = x at *
        generalize dgt l2 e2 (F + d) = y at *
        generalize (65536 : Int) ^ d = g at *
        by_cases hlt : x < y
        · refine dec_true hlt (h w9 (-1) eee (fun _ => rfl) ?_ ?_)
          · intro hc
            have : g * (x + 1) ≤ g * y := Int.mul_le_mul_of_nonneg_left (by omega) (by omega)
            rw [Int.mul_add] at this
            omega
          · intro hc
            have : g * (x + 1) ≤ g * y := Int.mul_le_mul_of_nonneg_left (by omega) (by omega)
            rw [Int.mul_add] at this
            omega
        · refine dec_false hlt (h w9 1 eee ?_ ?_ (fun _ => rfl))
          · intro hc
            have : g * (y + 1) ≤ g * x := Int.mul_le_mul_of_nonneg_left (by omega) (by omega)
            rw [Int.mul_add] at this
            omega
          · intro hc
            have : g * (y + 1) ≤ g * x := Int.mul_le_mul_of_nonneg_left (by omega) (by omega)
            rw [Int.mul_add] at this
            omega
  rw [wrap_i64 (by omega) (by omega)]
  exact main k (k + 1) w16 (by omega) (Nat.le_refl _) e16 rfl
end Go.Proofs.Ytgdkahbnepafgaa

/-! ### AKdig7 -/
set_option maxRecDepth 100000
set_option maxHeartbeats 2000000
set_option linter.unusedVariables false
namespace Go.Proofs.Ytgdkahbnepafgaa
open Go Go.Wk Go.RowKit Ieee
attribute [local irreducible] br

/-- Two numbers laid down in three places of the call's own. -/
structure Two (wb : World) (q1 q3 q5 : Addr) (s1 s2 : Bool) (p1 p2 : Option Addr) (n1 c1 n2 c2 : Nat) (e1 e2 : Int) (l1 l2 : List Int) : Prop where
  r1 : Row wb q1 [.bool s1, .slice p1 n1 c1, .int .i64 e1]
  r3 : Row wb q3 [.bool s2, .slice p2 n2 c2, .int .i64 e2]
  r5 : Row wb q5 [.bool false, .slice none 0 0, .int .i64 0]
  i1 : Ints wb p1 n1 l1
  i2 : Ints wb p2 n2 l2
  d1 : Dig l1
  d2 : Dig l2
  a1 : -4398046511104 ≤ e1
  a2 : e1 + n1 ≤ 4398046511104
  b1 : -4398046511104 ≤ e2
  b2 : e2 + n2 ≤ 4398046511104

theorem add_same {K : Value → World → Prop} {wb : World} {q1 q3 q5 : Addr} {s1 s2 : Bool} {p1 p2 : Option Addr} {n1 c1 n2 c2 : Nat} {e1 e2 : Int} {l1 l2 : List Int}
    (t : Two wb q1 q3 q5 s1 s2 p1 p2 n1 c1 n2 c2 e1 e2 l1 l2) {F : Int} {k : Nat} {neg : Bool} {B : Int}
    (hF1 : -4398046511104 ≤ F) (hF2 : F + k ≤ 4398046511104) (hB1 : -B ≤ F) (hB2 : F + k + 1 ≤ B) (hB3 : B ≤ 8796093022208) (hB0 : 0 ≤ B)
    (hfin : ∀ w' s p n c e, Ext wb w' → DR w' s p n e B ((if neg then -1 else 1) * ((valL (dl l1 e1 F k) + valL (dl l2 e2 F k) : Int) : Rat) * 2 ^ (16 * F)) → Fr wb.heap.size p →
      K (.agg ⟨[.bool s, .slice p n c, .int .i64 e]⟩) (((w'.setCell q5 (.bool s)).setCell (q5.add 1) (.slice p n c)).setCell (q5.add 2) (.int .i64 e))) :
    ∀ (d i fu : Nat) (out : List Int) (p : Option Addr) (n c : Nat) (cy : Int) (w5 : World), i + d = k → d < fu → Ext wb w5 → n = i → out.length = i → Dig out → 0 ≤ cy → cy ≤ 1 →
      Own w5 wb.heap.size tInt p n c (out.map fun x => .int .i64 x) → valL out + 65536 ^ i * cy = valL (dl l1 e1 F i) + valL (dl l2 e2 F i) →
      (straightedgeref02_D_Add.H K fu).2.1 (some q1) (some q3) (some q5) F (F + k) p n c cy neg (F + i) w5 := by
  intro d
  induction d with
  | zero =>
    intro i fu out p n c cy w5 hi hfu he hn hol hod hc0 hc1 hown hv
    obtain ⟨fu, rfl⟩ : ∃ m, fu = m + 1 := ⟨fu - 1, by omega⟩
    show straightedgeref02_D_Add.b7 K (straightedgeref02_D_Add.H K fu).1 (straightedgeref02_D_Add.H K fu).2.1 (straightedgeref02_D_Add.H K fu).2.2 _ _ _ _ _ _ _ _ _ _ _ _
    unfold straightedgeref02_D_Add.b7
    refine dec_false (by omega) (appI hown he (by omega) fun p' c' w6 he6 hown6 => ⟨_, _, _, rfl, ?_⟩)
    have hdig : Dig (out ++ [cy]) := by
      intro x hx
      rcases List.mem_append.1 hx with hx | hx
      · exact hod x hx
      · simp at hx; omega
    refine straightedgeref02_Made.ct (B := B) hown6.ints hdig hown6.cap (by omega) (by omega) (by omega) hB0 fun w' s' p'' n'' c'' e'' he' hdr _ hbk => ⟨_, _, _, _, _, rfl, ret3p (t.r5.ext (he6.trans he')) ?_⟩
    have hval : dv neg (out ++ [cy]) F = (if neg then -1 else 1) * ((valL (dl l1 e1 F k) + valL (dl l2 e2 F k) : Int) : Rat) * 2 ^ (16 * F) := by
      unfold dv
      have : valL (out ++ [cy]) = valL (dl l1 e1 F k) + valL (dl l2 e2 F k) := by
        rw [valL_append, hol]
        have hik : i = k := by omega
        have h1 : valL [cy] = cy := by simp [valL]
        rw [h1, hv, hik]
      rw [this]
    rw [hval] at hdr
    refine hfin _ _ _ _ _ _ (he6.trans he') hdr fun a ha => ?_
    obtain ⟨b, hb, e⟩ := hbk a ha
    rw [e]; exact hown6.fr b hb
  | succ d ih =>
    intro i fu out p n c cy w5 hi hfu he hn hol hod hc0 hc1 hown hv
    obtain ⟨fu, rfl⟩ : ∃ m, fu = m + 1 := ⟨fu - 1, by omega⟩
    show straightedgeref02_D_Add.b7 K (straightedgeref02_D_Add.H K fu).1 (straightedgeref02_D_Add.H K fu).2.1 (straightedgeref02_D_Add.H K fu).2.2 _ _ _ _ _ _ _ _ _ _ _ _
    unfold straightedgeref02_D_Add.b7
    have ed := he.trans (Ext.drew w5)
    have rr1 := t.r1.ext ed
    have rr3 := t.r3.ext ed
    have x1 := t.a1
    have x2 := t.a2
    have x3 := t.b1
    have x4 := t.b2
    refine dec_true (by omega) (ptrSome_intro rfl ⟨s1, p1, n1, c1, e1, rr1.get0 rfl, rr1.get 1 rfl, rr1.get 2 rfl, ptrSome_intro rfl ⟨s2, p2, n2, c2, e2, rr3.get0 rfl, rr3.get 1 rfl, rr3.get 2 rfl, ?_⟩⟩)
    refine straightedgeref02_D_at.ct (t.i1.ext ed) (by omega) (by omega) (by omega) (by omega) fun w6 e6 => ⟨_, rfl, e6.kept, ?_⟩
    refine straightedgeref02_D_at.ct (t.i2.ext (ed.trans e6)) (by omega) (by omega) (by omega) (by omega) fun w7 e7 => ⟨_, rfl, ?_⟩
    have b1 := dgt_bound t.d1 e1 (F + i)
    have b2 := dgt_bound t.d2 e2 (F + i)
    have hown7 := (hown.drew.ext e6).ext e7
    have h1 : IntKind.i64.wrap (cy + dgt l1 e1 (F + i)) = cy + dgt l1 e1 (F + i) := wrap_i64 (by omega) (by omega)
    have h2 : IntKind.i64.wrap (cy + dgt l1 e1 (F + i) + dgt l2 e2 (F + i)) = cy + dgt l1 e1 (F + i) + dgt l2 e2 (F + i) := wrap_i64 (by omega) (by omega)
    rw [h1, h2, Int.tmod_eq_emod_of_nonneg (by omega), Int.tdiv_eq_ediv_of_nonneg (by omega), wrap_i64 (z := _ / 65536) (by omega) (by omega), wrap_i64 (z := F + i + 1) (by omega) (by omega)]
    refine appI hown7 (ed.trans (e6.trans e7)) (by omega) fun p' c' w8 he8 hown8 => ⟨_, _, _, rfl, ?_⟩
    have e9 : F + (i : Int) + 1 = F + ((i + 1 : Nat) : Int) := by omega
    rw [e9]
    refine ih (i + 1) fu _ p' (n + 1) c' _ w8 (by omega) (by omega) he8 (by omega) (by simp [hol]) ?_ (by omega) (by omega) hown8 ?_
    · intro x hx
      rcases List.mem_append.1 hx with hx | hx
      · exact hod x hx
      · simp at hx; omega
    · rw [valL_append, hol, valL_dl_succ, valL_dl_succ, Int.pow_succ]
      have v1 : ∀ y : Int, valL [y] = y := fun y => by simp [valL]
      rw [v1]
      generalize dgt l1 e1 (F + i) = x at *
      generalize dgt l2 e2 (F + i) = y at *
      have e3 : cy + x + y = (cy + x + y) % 65536 + 65536 * ((cy + x + y) / 65536) := by omega
      generalize (cy + x + y) % 65536 = m1 at *
      generalize (cy + x + y) / 65536 = m2 at *
      generalize (65536 : Int) ^ i = g at *
      grind

theorem add_diff {K : Value → World → Prop} {wb : World} {q1 q3 q5 : Addr} {s1 s2 : Bool} {p1 p2 : Option Addr} {n1 c1 n2 c2 : Nat} {e1 e2 : Int} {l1 l2 : List Int}
    (t : Two wb q1 q3 q5 s1 s2 p1 p2 n1 c1 n2 c2 e1 e2 l1 l2) {F : Int} {k : Nat} {B : Int}
    (hF1 : -4398046511104 ≤ F) (hF2 : F + k ≤ 4398046511104) (hB1 : -B ≤ F) (hB2 : F + k + 1 ≤ B) (hB3 : B ≤ 8796093022208) (hB0 : 0 ≤ B)
    (hge : valL (dl l2 e2 F k) ≤ valL (dl l1 e1 F k))
    (hfin : ∀ w' s p n c e, Ext wb w' → DR w' s p n e B ((if s1 then -1 else 1) * ((valL (dl l1 e1 F k) - valL (dl l2 e2 F k) : Int) : Rat) * 2 ^ (16 * F)) → Fr wb.heap.size p →
      K (.agg ⟨[.bool s, .slice p n c, .int .i64 e]⟩) (((w'.setCell q5 (.bool s)).setCell (q5.add 1) (.slice p n c)).setCell (q5.add 2) (.int .i64 e))) :
    ∀ (d i fu : Nat) (out : List Int) (p : Option Addr) (n c : Nat) (cy : Int) (w5 : World), i + d = k → d < fu → Ext wb w5 → n = i → out.length = i → Dig out → 0 ≤ cy → cy ≤ 1 →
      Own w5 wb.heap.size tInt p n c (out.map fun x => .int .i64 x) → valL out - 65536 ^ i * cy = valL (dl l1 e1 F i) - valL (dl l2 e2 F i) →
      (straightedgeref02_D_Add.H K fu).2.2 (some q1) (some q3) (some q5) F (F + k) p n c cy (F + i) w5 := by
  intro d
  induction d with
  | zero =>
    intro i fu out p n c cy w5 hi hfu he hn hol hod hc0 hc1 hown hv
    obtain ⟨fu, rfl⟩ : ∃ m, fu = m + 1 := ⟨fu - 1, by omega⟩
    show straightedgeref02_D_Add.b16 K (straightedgeref02_D_Add.H K fu).1 (straightedgeref02_D_Add.H K fu).2.1 (straightedgeref02_D_Add.H K fu).2.2 _ _ _ _ _ _ _ _ _ _ _
    unfold straightedgeref02_D_Add.b16
    have rr1 := t.r1.ext he
    refine dec_false (by omega) (ptrSome_intro rfl ⟨s1, rr1.get0 rfl, ?_⟩)
    have hik : i = k := by omega
    rw [hik] at hv
    have hcy : cy = 0 := by
      have h1 := valL_lt hod
      rw [hol, hik] at h1
      have h2 := pow_pos16 k
      have : cy = 0 ∨ cy = 1 := by omega
      rcases this with h | h
      · exact h
      · rw [h, Int.mul_one] at hv; omega
    refine straightedgeref02_Made.ct (B := B) hown.ints hod hown.cap (by omega) (by omega) (by omega) hB0 fun w' s' p'' n'' c'' e'' he' hdr _ hbk => ⟨_, _, _, _, _, rfl, ret3p (t.r5.ext (he.trans he')) ?_⟩
    have hval : dv s1 out F = (if s1 then -1 else 1) * ((valL (dl l1 e1 F k) - valL (dl l2 e2 F k) : Int) : Rat) * 2 ^ (16 * F) := by
      unfold dv
      rw [← hv, hcy, Int.mul_zero, Int.sub_zero]
    rw [hval] at hdr
    refine hfin _ _ _ _ _ _ (he.trans he') hdr fun a ha => ?_
    obtain ⟨b, hb, e⟩ := hbk a ha
    rw [e]; exact hown.fr b hb
  | succ d ih =>
    intro i fu out p n c cy w5 hi hfu he hn hol hod hc0 hc1 hown hv
    obtain ⟨fu, rfl⟩ : ∃ m, fu = m + 1 := ⟨fu - 1, by omega⟩
    show straightedgeref02_D_Add.b16 K (straightedgeref02_D_Add.H K fu).1 (straightedgeref02_D_Add.H K fu).2.1 (straightedgeref02_D_Add.H K fu).2.2 _ _ _ _ _ _ _ _ _ _ _
    unfold straightedgeref02_D_Add.b16
    have ed := he.trans (Ext.drew w5)
    have rr1 := t.r1.ext ed
    have rr3 := t.r3.ext ed
    have x1 := t.a1
    have x2 := t.a2
    have x3 := t.b1
    have x4 := t.b2
    refine dec_true (by omega) (ptrSome_intro rfl ⟨s1, p1, n1, c1, e1, rr1.get0 rfl, rr1.get 1 rfl, rr1.get 2 rfl, ptrSome_intro rfl ⟨s2, p2, n2, c2, e2, rr3.get0 rfl, rr3.get 1 rfl, rr3.get 2 rfl, ?_⟩⟩)
    refine straightedgeref02_D_at.ct (t.i1.ext ed) (by omega) (by omega) (by omega) (by omega) fun w6 e6 => ⟨_, rfl, e6.kept, ?_⟩
    refine straightedgeref02_D_at.ct (t.i2.ext (ed.trans e6)) (by omega) (by omega) (by omega) (by omega) fun w7 e7 => ⟨_, rfl, ?_⟩
    have b1 := dgt_bound t.d1 e1 (F + i)
    have b2 := dgt_bound t.d2 e2 (F + i)
    have hown7 := (hown.drew.ext e6).ext e7
    have h1 : IntKind.i64.wrap (dgt l1 e1 (F + i) - dgt l2 e2 (F + i)) = dgt l1 e1 (F + i) - dgt l2 e2 (F + i) := wrap_i64 (by omega) (by omega)
    have h2 : IntKind.i64.wrap (dgt l1 e1 (F + i) - dgt l2 e2 (F + i) - cy) = dgt l1 e1 (F + i) - dgt l2 e2 (F + i) - cy := wrap_i64 (by omega) (by omega)
    have e9 : F + (i : Int) + 1 = F + ((i + 1 : Nat) : Int) := by omega
    rw [h1, h2, wrap_i64 (z := F + i + 1) (by omega) (by omega), e9]
    have v1 : ∀ y : Int, valL [y] = y := fun y => by simp [valL]
    by_cases hneg : dgt l1 e1 (F + i) - dgt l2 e2 (F + i) - cy < 0
    · refine dec_true hneg ?_
      rw [wrap_i64 (z := _ + 65536) (by omega) (by omega)]
      refine appI hown7 (ed.trans (e6.trans e7)) (by omega) fun p' c' w8 he8 hown8 => ⟨_, _, _, rfl, ?_⟩
      refine ih (i + 1) fu _ p' (n + 1) c' 1 w8 (by omega) (by omega) he8 (by omega) (by simp [hol]) ?_ (by omega) (by omega) hown8 ?_
      · intro x hx
        rcases List.mem_append.1 hx with hx | hx
        · exact hod x hx
        · simp at hx; omega
      · rw [valL_append, hol, valL_dl_succ, valL_dl_succ, Int.pow_succ, v1]
        generalize dgt l1 e1 (F + i) = x at *
        generalize dgt l2 e2 (F + i) = y at *
        generalize (65536 : Int) ^ i = g at *
        grind
    · refine dec_false hneg ?_
      refine appI hown7 (ed.trans (e6.trans e7)) (by omega) fun p' c' w8 he8 hown8 => ⟨_, _, _, rfl, ?_⟩
      refine ih (i + 1) fu _ p' (n + 1) c' 0 w8 (by omega) (by omega) he8 (by omega) (by simp [hol]) ?_ (by omega) (by omega) hown8 ?_
      · intro x hx
        rcases List.mem_append.1 hx with hx | hx
        · exact hod x hx
        · simp at hx; omega
      · rw [valL_append, hol, valL_dl_succ, valL_dl_succ, Int.pow_succ, v1]
        generalize dgt l1 e1 (F + i) = x at *
        generalize dgt l2 e2 (F + i) = y at *
        generalize (65536 : Int) ^ i = g at *
        grind
end Go.Proofs.Ytgdkahbnepafgaa

/-! ### AKdig8 -/
set_option maxRecDepth 100000
set_option maxHeartbeats 2000000
set_option linter.unusedVariables false
namespace Go.Proofs.Ytgdkahbnepafgaa
open Go Go.Wk Go.RowKit Ieee
attribute [local irreducible] br

theorem bool_ne {a b : Bool} (h : ¬ a = b) : a = !b := by cases a <;> cases b <;> simp_all

theorem end_cases {l1 l2 : List Int} {n1 n2 : Nat} {e1 e2 : Int} (h1 : l1.length = n1) (h2 : l2.length = n2) {F : Int} {k : Nat} (hF : endF n1 e1 n2 e2 = F) (hk : endT n1 e1 n2 e2 = F + k) :
    (l1 = [] ∨ (F ≤ e1 ∧ e1 + l1.length ≤ F + k)) ∧ (l2 = [] ∨ (F ≤ e2 ∧ e2 + l2.length ≤ F + k)) := by
  unfold endF at hF
  unfold endT at hk
  by_cases a : n1 = 0
  · rw [if_pos a] at hF hk
    exact ⟨Or.inl (List.eq_nil_of_length_eq_zero (by omega)), Or.inr ⟨by omega, by omega⟩⟩
  · rw [if_neg a] at hF hk
    by_cases b : n2 = 0
    · rw [if_pos b] at hF hk
      exact ⟨Or.inr ⟨by omega, by omega⟩, Or.inl (List.eq_nil_of_length_eq_zero (by omega))⟩
    · rw [if_neg b] at hF hk
      exact ⟨Or.inr ⟨by omega, by omega⟩, Or.inr ⟨by omega, by omega⟩⟩

theorem straightedgeref02_D_Add.ct {s1 s2 : Bool} {p1 p2 : Option Addr} {n1 c1 n2 c2 : Nat} {e1 e2 B1 B2 B : Int} {r1 r2 : Rat} {w : World} {K : Value → World → Prop}
    (hd1 : DR w s1 p1 n1 e1 B1 r1) (hd2 : DR w s2 p2 n2 e2 B2 r2) (hB1 : B1 + 1 ≤ B) (hB2 : B2 + 1 ≤ B) (hB : B ≤ 4398046511104)
    (h : DK K B (r1 + r2) w) :
    straightedgeref02_D_Add.call [.agg ⟨[.bool s1, .slice p1 n1 c1, .int .i64 e1]⟩, .agg ⟨[.bool s2, .slice p2 n2 c2, .int .i64 e2]⟩] w K := by
  obtain ⟨⟨l1, i1, d1, v1, z1, g1⟩, lo1, hi1⟩ := hd1
  obtain ⟨⟨l2, i2, d2, v2, z2, g2⟩, lo2, hi2⟩ := hd2
  have len1 := i1.len
  have len2 := i2.len
  obtain ⟨F, hF⟩ : ∃ F, endF n1 e1 n2 e2 = F := ⟨_, rfl⟩
  obtain ⟨k, hk⟩ : ∃ k : Nat, endT n1 e1 n2 e2 = F + k := by
    refine ⟨(endT n1 e1 n2 e2 - F).toNat, ?_⟩
    have : F ≤ endT n1 e1 n2 e2 := by
      rw [← hF]; unfold endF endT
      by_cases a : n1 = 0
      · rw [if_pos a, if_pos a]; omega
      · rw [if_neg a, if_neg a]
        by_cases b : n2 = 0
        · rw [if_pos b, if_pos b]; omega
        · rw [if_neg b, if_neg b]; omega
    omega
  have hFb : -B ≤ F ∧ F + k + 1 ≤ B ∧ -B + 1 ≤ F := by
    rw [← hk, ← hF]; unfold endF endT
    by_cases a : n1 = 0
    · rw [if_pos a, if_pos a]; omega
    · rw [if_neg a, if_neg a]
      by_cases b : n2 = 0
      · rw [if_pos b, if_pos b]; omega
      · rw [if_neg b, if_neg b]; omega
  obtain ⟨ec1, ec2⟩ := end_cases len1 len2 hF hk
  have V1 := valL_dl ec1
  have V2 := valL_dl ec2
  obtain ⟨fu, hfu⟩ : ∃ fu, fu = k + 2 := ⟨_, rfl⟩
  refine straightedgeref02_D_Add.ok (fu + 1) ?_
  unfold straightedgeref02_D_Add.x
  refine newB_intro fun q1 w2 hq1 _ ext1 row1 hs1 _ => ?_
  refine newB_intro fun q3 w4 hq3 _ ext3 row3 hs3 _ => ?_
  refine newB_intro fun q5 w6 hq5 _ ext5 row5 hs5 _ => ?_
  have extA := (ext1.trans ext3).trans ext5
  have rA1 := row1.ext (ext3.trans ext5)
  have rA3 := row3.ext ext5
  refine ⟨s1, p1, n1, c1, e1, rA1.get0 rfl, rA1.get 1 rfl, rA1.get 2 rfl, s2, p2, n2, c2, e2, rA3.get0 rfl, rA3.get 1 rfl, rA3.get 2 rfl, ?_⟩
  refine straightedgeref02_ends.ct (by omega) (by omega) (by omega) (by omega) fun w18 e18 => ⟨_, _, rfl, ?_⟩
  rw [hF, hk]
  have ext18 := extA.trans e18
  have two : Two w18 q1 q3 q5 s1 s2 p1 p2 n1 c1 n2 c2 e1 e2 l1 l2 :=
    ⟨rA1.ext e18, rA3.ext e18, row5.ext e18, i1.ext ext18, i2.ext ext18, d1, d2, by omega, by omega, by omega, by omega⟩
  have hq5' : w.heap.size ≤ q5.block := by have := ext1.size; have := ext3.size; omega
  have done : ∀ (wb w' : World) (s : Bool) (p : Option Addr) (n c : Nat) (e : Int), Ext w wb → q5.block < wb.heap.size → Ext wb w' → DR w' s p n e B (r1 + r2) → Fr wb.heap.size p →
      K (.agg ⟨[.bool s, .slice p n c, .int .i64 e]⟩) (((w'.setCell q5 (.bool s)).setCell (q5.add 1) (.slice p n c)).setCell (q5.add 2) (.int .i64 e)) := by
    intro wb w' s p n c e h1 h2 h3 hdr hfr
    exact h _ _ _ _ _ _ (ext_put3 (h1.trans h3) hq5' _ _ _) (hdr.put3 (fun a ha => by have := hfr a ha; omega) _ _ _) (hfr.mono h1.size)
  have hlt5 := two.r5.lt
  -- the same sign, or a nought
  have same : (s1 = s2 ∨ l1 = [] ∨ l2 = []) → (straightedgeref02_D_Add.H K (fu + 1)).1 (some q1) (some q3) (some q5) F (F + k) none 0 0 0 w18 := by
    intro hs
    have hH : (straightedgeref02_D_Add.H K (fu + 1)).1 = straightedgeref02_D_Add.b5 K (straightedgeref02_D_Add.H K fu).1 (straightedgeref02_D_Add.H K fu).2.1 (straightedgeref02_D_Add.H K fu).2.2 := rfl
    rw [hH]
    unfold straightedgeref02_D_Add.b5
    have go : ∀ neg : Bool, neg = (s1 || s2) → (straightedgeref02_D_Add.H K fu).2.1 (some q1) (some q3) (some q5) F (F + k) none 0 0 0 neg F w18 := by
      intro neg hneg
      have := add_same (K := K) two (F := F) (k := k) (neg := neg) (B := B) (by omega) (by omega) (by omega) (by omega) (by omega) (by omega)
        (fun w' s p n c e he hdr hfr => done w18 w' s p n c e ext18 hlt5 he (by
          have hval : (if neg then -1 else 1) * ((valL (dl l1 e1 F k) + valL (dl l2 e2 F k) : Int) : Rat) * 2 ^ (16 * F) = r1 + r2 := by
            rw [v1, v2, Rat.intCast_add]
            unfold dv
            rcases hs with hs | hs | hs
            · rw [hneg, hs, Bool.or_self]
              cases s2 <;> simp only [Bool.false_eq_true, if_false, if_true] <;> grind
            · have hz := z1 hs
              rw [hz, Bool.false_or] at hneg
              have e0 : (valL l1 : Rat) = 0 := by rw [hs]; rfl
              rw [e0] at V1 ⊢
              rw [hneg]
              cases s2 <;> simp only [Bool.false_eq_true, if_false, if_true] <;> grind
            · have hz := z2 hs
              rw [hz, Bool.or_false] at hneg
              have e0 : (valL l2 : Rat) = 0 := by rw [hs]; rfl
              rw [e0] at V2 ⊢
              rw [hneg]
              cases s1 <;> simp only [Bool.false_eq_true, if_false, if_true] <;> grind
          rw [hval] at hdr; exact hdr) hfr) k 0 fu [] none 0 0 0 w18 (by omega) (by omega) (Ext.refl _) rfl rfl (fun _ h => by cases h) (by omega) (by omega) (Own.nil _ _ _) (by simp [valL, dl])
      simpa using this
    refine ptrSome_intro rfl ⟨s1, two.r1.get0 rfl, ?_⟩
    cases s1
    · exact br_false rfl (ptrSome_intro rfl ⟨s2, two.r3.get0 rfl, go s2 rfl⟩)
    · exact br_true rfl (go true rfl)
  refine ⟨s1, two.r1.get0 rfl, s2, two.r3.get0 rfl, ?_⟩
  by_cases hs : s1 = s2
  · exact br_true (by rw [hs]; exact beq_self_eq_true _) (same (Or.inl hs))
  refine br_false (beq_eq_false_iff_ne.2 hs) ⟨p1, n1, c1, two.r1.get 1 rfl, ?_⟩
  by_cases hn1 : n1 = 0
  · exact br_true (by rw [hn1]; rfl) (same (Or.inr (Or.inl (List.eq_nil_of_length_eq_zero (by omega)))))
  refine br_false (beq_eq_false_iff_ne.2 (by omega)) ⟨p2, n2, c2, two.r3.get 1 rfl, ?_⟩
  by_cases hn2 : n2 = 0
  · exact br_true (by rw [hn2]; rfl) (same (Or.inr (Or.inr (List.eq_nil_of_length_eq_zero (by omega)))))
  refine br_false (beq_eq_false_iff_ne.2 (by omega)) ⟨s1, p1, n1, c1, e1, two.r1.get0 rfl, two.r1.get 1 rfl, two.r1.get 2 rfl, s2, p2, n2, c2, e2, two.r3.get0 rfl, two.r3.get 1 rfl, two.r3.get 2 rfl, ?_⟩
  refine straightedgeref02_size.ct two.i1 two.i2 d1 d2 (by omega) (by omega) (by omega) (by omega) hF hk fun w40 z e40 zl ze zg => ⟨_, rfl, ?_⟩
  have ext40 := ext18.trans e40
  have s1r := two.r1.ext e40
  have s3r := two.r3.ext e40
  have s5r := two.r5.ext e40
  have hb1 : q1.block ≠ q3.block := by have := row1.lt; omega
  have hb5 : q5.block ≠ q1.block ∧ q5.block ≠ q3.block := by have := row1.lt; have := row3.lt; have := ext3.size; omega
  by_cases hz : z < 0
  · -- they change places
    refine dec_true hz ⟨s2, p2, n2, c2, e2, s3r.get0 rfl, s3r.get 1 rfl, s3r.get 2 rfl, s1, p1, n1, c1, e1, s1r.get0 rfl, s1r.get 1 rfl, s1r.get 2 rfl, ?_⟩
    obtain ⟨a1, a2, a3, a4, a5, a6, t1⟩ := put3 s1r (.bool s2) (.slice p2 n2 c2) (.int .i64 e2)
    refine ⟨a1, a2, a3, a4, a5, a6, ?_⟩
    have t3 : Row (((w40.setCell q1 (.bool s2)).setCell (q1.add 1) (.slice p2 n2 c2)).setCell (q1.add 2) (.int .i64 e2)) q3 [.bool s2, .slice p2 n2 c2, .int .i64 e2] :=
      Row.apart (Row.apart (Row.apart (a := q1) s3r (Ne.symm hb1) 0 _) (Ne.symm hb1) 1 _) (Ne.symm hb1) 2 _
    have t5 : Row (((w40.setCell q1 (.bool s2)).setCell (q1.add 1) (.slice p2 n2 c2)).setCell (q1.add 2) (.int .i64 e2)) q5 [.bool false, .slice none 0 0, .int .i64 0] :=
      Row.apart (Row.apart (Row.apart (a := q1) s5r hb5.1 0 _) hb5.1 1 _) hb5.1 2 _
    have extT := ext_put3 ext40 (q := q1) (by omega) (.bool s2) (.slice p2 n2 c2) (.int .i64 e2)
    generalize ((w40.setCell q1 (.bool s2)).setCell (q1.add 1) (.slice p2 n2 c2)).setCell (q1.add 2) (.int .i64 e2) = wt at *
    obtain ⟨a1, a2, a3, a4, a5, a6, u3⟩ := put3 t3 (.bool s1) (.slice p1 n1 c1) (.int .i64 e1)
    refine ⟨a1, a2, a3, a4, a5, a6, ?_⟩
    have u1 : Row (((wt.setCell q3 (.bool s1)).setCell (q3.add 1) (.slice p1 n1 c1)).setCell (q3.add 2) (.int .i64 e1)) q1 [.bool s2, .slice p2 n2 c2, .int .i64 e2] :=
      Row.apart (Row.apart (Row.apart (a := q3) t1 hb1 0 _) hb1 1 _) hb1 2 _
    have u5 : Row (((wt.setCell q3 (.bool s1)).setCell (q3.add 1) (.slice p1 n1 c1)).setCell (q3.add 2) (.int .i64 e1)) q5 [.bool false, .slice none 0 0, .int .i64 0] :=
      Row.apart (Row.apart (Row.apart (a := q3) t5 hb5.2 0 _) hb5.2 1 _) hb5.2 2 _
    have extU := ext_put3 extT (q := q3) (by have := ext1.size; omega) (.bool s1) (.slice p1 n1 c1) (.int .i64 e1)
    generalize ((wt.setCell q3 (.bool s1)).setCell (q3.add 1) (.slice p1 n1 c1)).setCell (q3.add 2) (.int .i64 e1) = wu at *
    have two' : Two wu q1 q3 q5 s2 s1 p2 p1 n2 c2 n1 c1 e2 e1 l2 l1 :=
      ⟨u1, u3, u5, i2.ext extU, i1.ext extU, d2, d1, by omega, by omega, by omega, by omega⟩
    have hle : valL (dl l1 e1 F k) ≤ valL (dl l2 e2 F k) := by
      rcases Int.lt_or_le (valL (dl l2 e2 F k)) (valL (dl l1 e1 F k)) with hh | hh
      · have := zg hh; omega
      · exact hh
    have := add_diff (K := K) two' (F := F) (k := k) (B := B) (by omega) (by omega) (by omega) (by omega) (by omega) (by omega) hle
      (fun w' s p n c e he hdr hfr => done wu w' s p n c e extU u5.lt he (by
        have hval : (if s2 then -1 else 1) * ((valL (dl l2 e2 F k) - valL (dl l1 e1 F k) : Int) : Rat) * 2 ^ (16 * F) = r1 + r2 := by
          rw [v1, v2, Rat.intCast_sub]
          unfold dv
          have hs' : s1 = !s2 := bool_ne hs
          rw [hs']
          cases s2 <;> simp only [Bool.not_false, Bool.not_true, Bool.false_eq_true, if_false, if_true] <;> grind
        rw [hval] at hdr; exact hdr) hfr) k 0 (fu + 1) [] none 0 0 0 wu (by omega) (by omega) (Ext.refl _) rfl rfl (fun _ h => by cases h) (by omega) (by omega) (Own.nil _ _ _) (by simp [valL, dl])
    simpa using this
  · refine dec_false hz ?_
    have two' : Two w40 q1 q3 q5 s1 s2 p1 p2 n1 c1 n2 c2 e1 e2 l1 l2 :=
      ⟨s1r, s3r, s5r, i1.ext ext40, i2.ext ext40, d1, d2, by omega, by omega, by omega, by omega⟩
    have hle : valL (dl l2 e2 F k) ≤ valL (dl l1 e1 F k) := by
      rcases Int.lt_or_le (valL (dl l1 e1 F k)) (valL (dl l2 e2 F k)) with hh | hh
      · have := zl hh; omega
      · exact hh
    have := add_diff (K := K) two' (F := F) (k := k) (B := B) (by omega) (by omega) (by omega) (by omega) (by omega) (by omega) hle
      (fun w' s p n c e he hdr hfr => done w40 w' s p n c e ext40 s5r.lt he (by
        have hval : (if s1 then -1 else 1) * ((valL (dl l1 e1 F k) - valL (dl l2 e2 F k) : Int) : Rat) * 2 ^ (16 * F) = r1 + r2 := by
          rw [v1, v2, Rat.intCast_sub]
          unfold dv
          have hs' : s2 = !s1 := bool_ne (Ne.symm hs)
          rw [hs']
          cases s1 <;> simp only [Bool.not_false, Bool.not_true, Bool.false_eq_true, if_false, if_true] <;> grind
        rw [hval] at hdr; exact hdr) hfr) k 0 (fu + 1) [] none 0 0 0 w40 (by omega) (by omega) (Ext.refl _) rfl rfl (fun _ h => by cases h) (by omega) (by omega) (Own.nil _ _ _) (by simp [valL, dl])
    simpa using this
end Go.Proofs.Ytgdkahbnepafgaa

/-! ### AKdig9 -/
set_option maxRecDepth 100000
set_option maxHeartbeats 2000000
set_option linter.unusedVariables false
namespace Go.Proofs.Ytgdkahbnepafgaa
open Go Go.Wk Go.RowKit Ieee
attribute [local irreducible] br

theorem straightedgeref02_D_Sub.ct {s1 s2 : Bool} {p1 p2 : Option Addr} {n1 c1 n2 c2 : Nat} {e1 e2 B1 B2 B : Int} {r1 r2 : Rat} {w : World} {K : Value → World → Prop}
    (hd1 : DR w s1 p1 n1 e1 B1 r1) (hd2 : DR w s2 p2 n2 e2 B2 r2) (hB1 : B1 + 1 ≤ B) (hB2 : B2 + 1 ≤ B) (hB : B ≤ 4398046511104)
    (h : DK K B (r1 - r2) w) :
    straightedgeref02_D_Sub.call [.agg ⟨[.bool s1, .slice p1 n1 c1, .int .i64 e1]⟩, .agg ⟨[.bool s2, .slice p2 n2 c2, .int .i64 e2]⟩] w K := by
  refine straightedgeref02_D_Sub.ok ?_
  unfold straightedgeref02_D_Sub.x
  refine newB_intro fun q1 w2 hq1 _ ext1 row1 hs1 _ => ?_
  refine newB_intro fun q3 w4 hq3 _ ext3 row3 hs3 _ => ?_
  refine newB_intro fun q5 w6 hq5 _ ext5 row5 hs5 _ => ?_
  have extA := ((ext1.trans ext3).trans ext5).trans (Ext.drew w6)
  have rA1 := row1.ext ((ext3.trans ext5).trans (Ext.drew w6))
  have rA3 := row3.ext (ext5.trans (Ext.drew w6))
  refine ⟨s1, p1, n1, c1, e1, rA1.get0 rfl, rA1.get 1 rfl, rA1.get 2 rfl, s2, p2, n2, c2, e2, rA3.get0 rfl, rA3.get 1 rfl, rA3.get 2 rfl, ?_⟩
  refine straightedgeref02_D_Minus.ct (hd2.ext extA) fun w7 s' e7 hdm => ⟨_, _, _, _, _, rfl, e7.kept, ?_⟩
  refine straightedgeref02_D_Add.ct (B := B) ((hd1.ext extA).ext e7) hdm hB1 hB2 hB fun w8 s p n c e e8 hdr hfr => ⟨_, _, _, _, _, rfl, ret3 (row5.ext ((Ext.drew w6).trans (e7.trans e8))) ?_⟩
  have hv : r1 + -r2 = r1 - r2 := by grind
  rw [hv] at hdr
  have := ext1.size
  have := ext3.size
  exact finishD h row5 (by omega) ((ext1.trans ext3).trans ext5) ((Ext.drew w6).trans (e7.trans e8)) hdr (hfr.mono ((Ext.drew w6).trans e7).size)

theorem straightedgeref02_D_Cmp.ct {s1 s2 : Bool} {p1 p2 : Option Addr} {n1 c1 n2 c2 : Nat} {e1 e2 B1 B2 : Int} {r1 r2 : Rat} {w : World} {K : Value → World → Prop}
    (hd1 : DR w s1 p1 n1 e1 B1 r1) (hd2 : DR w s2 p2 n2 e2 B2 r2) (hB1 : B1 + 1 ≤ 4398046511104) (hB2 : B2 + 1 ≤ 4398046511104)
    (h : ∀ w' (z : Int), Ext w w' → (r1 = r2 → z = 0) → (r1 < r2 → z = -1) → (r2 < r1 → z = 1) → K (.int .i64 z) w') :
    straightedgeref02_D_Cmp.call [.agg ⟨[.bool s1, .slice p1 n1 c1, .int .i64 e1]⟩, .agg ⟨[.bool s2, .slice p2 n2 c2, .int .i64 e2]⟩] w K := by
  refine straightedgeref02_D_Cmp.ok ?_
  unfold straightedgeref02_D_Cmp.x
  refine newB_intro fun q1 w2 hq1 _ ext1 row1 hs1 _ => ?_
  refine newB_intro fun q3 w4 hq3 _ ext3 row3 hs3 _ => ?_
  have extA := ext1.trans ext3
  have rA1 := row1.ext ext3
  refine ⟨s1, p1, n1, c1, e1, rA1.get0 rfl, rA1.get 1 rfl, rA1.get 2 rfl, s2, p2, n2, c2, e2, row3.get0 rfl, row3.get 1 rfl, row3.get 2 rfl, ?_⟩
  refine straightedgeref02_D_Sub.ct (B := 4398046511104) (hd1.ext extA) (hd2.ext extA) hB1 hB2 (by omega) fun w5 s p n c e e5 hdr hfr => ⟨_, _, _, _, _, rfl, ?_⟩
  refine straightedgeref02_D_Sign.ct hdr fun w6 z e6 z0 z1 z2 => ⟨_, rfl, h w6 z (extA.trans (e5.trans e6)) ?_ ?_ ?_⟩
  · intro hh; exact z0 (by grind)
  · intro hh; exact z1 (by grind)
  · intro hh; exact z2 (by grind)
end Go.Proofs.Ytgdkahbnepafgaa
