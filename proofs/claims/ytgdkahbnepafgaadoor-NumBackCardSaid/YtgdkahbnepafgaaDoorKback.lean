import Derived.Test.YtgdkahbnepafgaaDoorKnext
set_option maxRecDepth 100000
set_option linter.unusedVariables false
namespace Go.Proofs.YtgdkahbnepafgaaDoor
open Go Go.Wk Ieee
attribute [local irreducible] br

/-- No digit is lost where the last place is not below the least one. -/
theorem near_exact {m : Nat} {p : Int} (h0 : m ≠ 0) (hm : m < 9007199254740992) (hp : -1074 ≤ p) : valR (nearR m p) = m * 2 ^ (p + 1074).toNat := by
  have hlog : m.log2 < 53 := (Nat.log2_lt h0).2 (by simpa using hm)
  have hL : lastP m p = max (p + m.log2 - 52) (-1074) := rfl
  rw [valR_near h0]
  have hk : keptR m p = m * 2 ^ (p - lastP m p).toNat := by
    unfold keptR
    have : (lastP m p - p).toNat = 0 := by omega
    rw [this, rne_zero, Nat.shiftLeft_eq]
  rw [hk, Nat.mul_assoc, ← Nat.pow_add]
  congr 2
  omega

def scR (r : Nat) (j : Int) : Nat := if r < infR then (if r = 0 then 0 else min (nearR (valR r) (-1074 + j)) infR) else r

theorem ldB_eq {x : Nat} (hx : x < 18446744073709551616) (hn : ¬ nan x) (j : Int) : ldB x j = wordD (sgn x) (scR (rung x) j) := by
  unfold ldB scR
  by_cases hf : fin x
  · rw [if_pos hf, if_pos (show rung x < infR from hf)]
    by_cases h0 : rung x = 0
    · rw [if_pos h0, h0, show magR 0 = 0 from rfl, nearest_zero]
    · rw [if_neg h0]
      have hm : magR (rung x) ≠ 0 := by unfold magR; split <;> omega
      rw [nearest_eq _ _ _ hm, ← nearR_shift _ _ (shR (rung x)) hm]
      have e : -1074 + (shR (rung x) : Int) + j - (shR (rung x) : Int) = -1074 + j := by omega
      rw [e]
      rfl
  · rw [if_neg hf, if_neg (show ¬ rung x < infR from hf), word_of hx]

theorem scR_le {r : Nat} (h : r ≤ infR) (j : Int) : scR r j ≤ infR := by
  unfold scR
  split
  · split
    · exact Nat.zero_le _
    · exact Nat.min_le_right _ _
  · exact h
theorem scR_mono {r s : Nat} (h : r ≤ s) (hs : s ≤ infR) (j : Int) : scR r j ≤ scR s j := by
  by_cases hr : r < infR
  · by_cases hs' : s < infR
    · unfold scR
      rw [if_pos hr, if_pos hs']
      by_cases h0 : r = 0
      · rw [if_pos h0]; exact Nat.zero_le _
      · rw [if_neg h0, if_neg (by omega)]
        have hv : valR r ≠ 0 := by
          intro hv
          have := @valR_le r 0
          rw [hv, valR_zero] at this
          omega
        have := nearR_mono (-1074 + j) hv (valR_le.2 h)
        omega
    · have : scR s j = infR := by unfold scR; rw [if_neg hs']; omega
      rw [this]; exact scR_le (by omega) j
  · have e1 : scR r j = r := by unfold scR; rw [if_neg hr]
    have e2 : scR s j = s := by unfold scR; rw [if_neg (by omega)]
    rw [e1, e2]; exact h

theorem scB_nan {x : Nat} (hx : x < 18446744073709551616) (hn : ¬ nan x) (j : Int) : ¬ nan (ldB x j) ∧ key (ldB x j) = if sgn x then - (scR (rung x) j : Int) else scR (rung x) j := by
  have hr : rung x ≤ infR := by unfold nan at hn; omega
  have h1 := scR_le hr j
  have hb : scR (rung x) j < 9223372036854775808 := by unfold infR at h1; omega
  rw [ldB_eq hx hn]
  refine ⟨?_, ?_⟩
  · unfold nan; rw [rung_word _ hb]; omega
  · unfold key; rw [rung_word _ hb, sgn_word _ hb]

theorem scR_zero (j : Int) : scR 0 j = 0 := by unfold scR; rw [if_pos (by decide), if_pos rfl]

theorem scB_mono {x y : Nat} (hx : x < 18446744073709551616) (hy : y < 18446744073709551616) (hnx : ¬ nan x) (hny : ¬ nan y) (j : Int) (h : key x ≤ key y) :
    key (ldB x j) ≤ key (ldB y j) := by
  rw [(scB_nan hx hnx j).2, (scB_nan hy hny j).2]
  have hrx : rung x ≤ infR := by unfold nan at hnx; omega
  have hry : rung y ≤ infR := by unfold nan at hny; omega
  unfold key at h
  cases hsx : sgn x <;> cases hsy : sgn y <;> rw [hsx, hsy] at h <;> simp only [Bool.false_eq_true, if_false, if_true] at h ⊢
  · have := scR_mono (j := j) (show rung x ≤ rung y by omega) hry; omega
  · have e1 : rung x = 0 := by omega
    have e2 : rung y = 0 := by omega
    rw [e1, e2, scR_zero]; decide
  · omega
  · have := scR_mono (j := j) (show rung y ≤ rung x by omega) hrx; omega

theorem scB_back {x : Nat} {k : Int} (hx : x < 18446744073709551616) (hf : fin x) (hk : 0 ≤ k) (hu : fin (ldB x k)) : ldB (ldB x k) (-k) = x := by
  have hnn : ¬ nan x := by unfold fin nan at *; omega
  have hlt := ldB_lt hx k
  by_cases h0 : rung x = 0
  · have e : ldB x k = x := by rw [ldB_eq hx hnn, h0, scR_zero, word_zero hx h0]
    rw [e, ldB_eq hx hnn, h0, scR_zero, word_zero hx h0]
  have hm : magR (rung x) ≠ 0 := by unfold magR; split <;> omega
  have he := near_exact (p := -1074 + shR (rung x) + k) hm (magR_lt _) (by omega)
  have hform : ldB x k = wordD (sgn x) (min (nearR (magR (rung x)) (-1074 + shR (rung x) + k)) infR) := by
    unfold ldB; rw [if_pos hf, nearest_eq _ _ _ hm]
  have hmin : min (nearR (magR (rung x)) (-1074 + shR (rung x) + k)) infR ≤ infR := Nat.min_le_right _ _
  have hb : min (nearR (magR (rung x)) (-1074 + shR (rung x) + k)) infR < 9223372036854775808 := by unfold infR at hmin ⊢; omega
  have hru : rung (ldB x k) = nearR (magR (rung x)) (-1074 + shR (rung x) + k) := by
    rw [hform, rung_word _ hb]
    unfold fin at hu
    rw [hform, rung_word _ hb] at hu
    omega
  have hsu : sgn (ldB x k) = sgn x := by rw [hform, sgn_word _ hb]
  have h2 : ldB (ldB x k) (-k) = double.nearest (sgn (ldB x k)) (magR (rung (ldB x k))) (-1074 + shR (rung (ldB x k)) + -k) := by
    generalize ldB x k = u at *
    unfold ldB
    rw [if_pos hu]
  rw [h2, hsu]
  rw [← hru] at he
  unfold valR at he
  have h3 : double.nearest (sgn x) (magR (rung (ldB x k))) (-1074 + shR (rung (ldB x k)) + -k) = double.nearest (sgn x) (magR (rung x)) (-1074 + shR (rung x)) := by
    refine near_eq_of_val (shR (rung (ldB x k))) (shR (rung x) + k.toNat) (by omega) ?_
    rw [he]; congr 2; omega
  rw [h3, near_rep (r := rung x) (shR (rung x)) rfl (by unfold fin at hf; omega) rfl, word_of hx]

theorem straightedgelaw01_NumBack.ct {x y : Nat} {k : Int} (hx : x < 18446744073709551616) (hy : y < 18446744073709551616) (hk : 0 ≤ k ∧ k ≤ 255) {w : World} {K : Value → World → Prop} (hT : T4 w)
    (h : ∀ w', Ext w w' → K (.bool true) w') : straightedgelaw01_NumBack.call [.float .f64 x, .float .f64 y, .int .u8 k] w K := by
  refine straightedgelaw01_NumBack.ok ?_
  unfold straightedgelaw01_NumBack.x
  rw [wrap_i64 (z := k) (by omega) (by omega), wrap_i64 (z := 0 - k) (by omega) (by omega)]
  have sc1 : ∀ z, scB z k = ldB z k := fun z => by unfold scB; congr 1; omega
  have sc2 : ∀ z, scB z (0 - k) = ldB z (-k) := fun z => by unfold scB; congr 1; omega
  refine straightedgelaw01_awake.ct hT fun w2 e2 => ⟨_, rfl, br_false rfl ?_⟩
  refine num_Scale.ct hx ⟨_, rfl, ?_⟩
  rw [sc1]
  refine newB_intro fun q w3 _ _ e3 hrow _ _ => ?_
  have ee := e2.trans e3
  have last : straightedgelaw01_awake.call [] w3 fun v w' => ∃ b : Bool, v = .bool b ∧ K (.bool b) w' :=
    straightedgelaw01_awake.ct (hT.ext ee) fun w6 e6 => ⟨_, rfl, h w6 (ee.trans e6)⟩
  have hl := ldB_lt hx k
  have hb : ∀ z ∈ [x, ldB x k], z < 18446744073709551616 := by simp [hx, hl]
  refine straightedgeref01_Finite.ct (Fls.of_row (xs := [x, ldB x k]) hrow) hb (by decide) ⟨_, rfl, ?_⟩
  have mono : fle .f64 x y = true → (!(fle .f64 (ldB x (-k)) (ldB y (-k)))) = false := by
    intro hle
    rw [fle_eq] at hle
    obtain ⟨n1, n2, hkey⟩ := of_decide_eq_true hle
    rw [fle_eq, decide_eq_true ⟨(scB_nan hx n1 _).1, (scB_nan hy n2 _).1, scB_mono hx hy n1 n2 _ hkey⟩]
    rfl
  have rest : br (fle .f64 x y) (num_Scale.call [(.float .f64 x), (.int .i64 (0 - k))] w3 fun v18 w19 => ∃ x20 : Nat, v18 = (.float .f64 x20) ∧ num_Scale.call [(.float .f64 y), (.int .i64 (0 - k))] w19 fun v21 w22 => ∃ x23 : Nat, v21 = (.float .f64 x23) ∧ br (!(fle .f64 x20 x23)) (K (.bool false) w22) (straightedgelaw01_awake.call [] w22 fun v24 w25 => ∃ b26 : Bool, v24 = (.bool b26) ∧ K (.bool b26) w25)) (straightedgelaw01_awake.call [] w3 fun v27 w28 => ∃ b29 : Bool, v27 = (.bool b29) ∧ K (.bool b29) w28) := by
    refine br_intro (fun hle => ?_) (fun _ => last)
    refine num_Scale.ct hx ⟨_, rfl, num_Scale.ct hy ⟨_, rfl, ?_⟩⟩
    rw [sc2, sc2]
    exact br_false (mono hle) last
  refine br_intro (fun hall => ?_) (fun _ => rest)
  simp only [List.all_cons, List.all_nil, finB, Bool.and_true, Bool.and_eq_true, decide_eq_true_eq] at hall
  refine num_Scale.ct hl ⟨_, rfl, ?_⟩
  rw [sc2, scB_back hx hall.1 hk.1 hall.2]
  exact straightedgeref01_Same.ct hx hx ⟨_, rfl, br_false (by rw [sameB_refl]; rfl) rest⟩
end Go.Proofs.YtgdkahbnepafgaaDoor
