/- A part of the proof. -/
import Derived.Test.YtgdkahbnepafgaaK0
set_option linter.unusedVariables false

/-! ### AKawake16 -/
set_option maxRecDepth 100000
set_option maxHeartbeats 400000
set_option linter.unusedVariables false
namespace Go.Proofs.Ytgdkahbnepafgaa
open Go Go.Wk Go.RowKit Ieee
attribute [local irreducible] br

abbrev b1 : Nat := 4607182418800017408
abbrev b2 : Nat := 4611686018427387904
abbrev b4 : Nat := 4616189618054758400
abbrev bq : Nat := 4598175219545276416

theorem fac22 {A0 F : Nat → Nat → Nat} {piv : List Nat} (h00 : A0 0 0 = b1) (h01 : A0 0 1 = b2) (h10 : A0 1 0 = b4) (h11 : A0 1 1 = b4) (h : Fac 2 A0 2 F piv) :
    piv = [1, 1] ∧ F 0 0 = b4 ∧ F 1 0 = bq ∧ F 0 1 = b4 ∧ F 1 1 = b1 := by
  obtain ⟨A1, pv1, p1, ⟨A', pv0, p0, ⟨hA', hpv0⟩, hpv1, s0⟩, hpv, s1⟩ := h
  replace s0 : StepF 2 0 A' p0 A1 := s0
  replace s1 : StepF 2 1 A1 p1 F := s1
  have a00 : A' 0 0 = b1 := by rw [hA' 0 0 (by omega) (by omega), h00]
  have a01 : A' 0 1 = b2 := by rw [hA' 0 1 (by omega) (by omega), h01]
  have a10 : A' 1 0 = b4 := by rw [hA' 1 0 (by omega) (by omega), h10]
  have a11 : A' 1 1 = b4 := by rw [hA' 1 1 (by omega) (by omega), h11]
  have p0e : p0 = 1 := by
    have := s0.piv
    rw [this]
    show 0 + mostF (fun i => A' (0 + i) 0) 2 = 1
    have hg : gtA b4 b1 = true := by decide +kernel
    simp [mostF, a00, a10, hg]
  subst p0e
  have c00 : A1 0 0 = b4 := by rw [s0.keep 0 0 (by omega) (by omega) (by omega)]; exact a10
  have c01 : A1 0 1 = b4 := by rw [s0.keep 0 1 (by omega) (by omega) (by omega)]; exact a11
  have c10 : A1 1 0 = bq := by
    have := s0.col 1 (by omega) (by omega)
    have e1 : swp 0 1 1 = 0 := rfl
    have e2 : swp 0 1 0 = 1 := rfl
    rw [e1, e2, a00, a10] at this
    have e3 : fb .quo b1 b4 = bq := by decide +kernel
    rw [e3] at this
    exact cn_eq_fin this (by decide)
  have c11 : A1 1 1 = b1 := by
    have := s0.rest 1 1 (by omega) (by omega) (by omega) (by omega)
    have e1 : swp 0 1 1 = 0 := rfl
    have e2 : swp 0 1 0 = 1 := rfl
    rw [e1, e2, a01, a11, c10] at this
    have e3 : fb .add b2 (fb .mul (fb .mul negOne b4) bq) = b1 := by decide +kernel
    rw [e3] at this
    exact cn_eq_fin this (by decide)
  have p1e : p1 = 1 := by
    have := s1.piv
    rw [this]
    rfl
  subst p1e
  have k : ∀ r c, r < 2 → c < 2 → F r c = A1 r c := by
    intro r c hr hc
    rw [s1.keep r c hr hc (by omega)]
    congr 1
    unfold swp; split
    · omega
    · rfl
  refine ⟨?_, ?_, ?_, ?_, ?_⟩
  · rw [hpv, hpv1, hpv0]; rfl
  · rw [k 0 0 (by omega) (by omega), c00]
  · rw [k 1 0 (by omega) (by omega), c10]
  · rw [k 0 1 (by omega) (by omega), c01]
  · rw [k 1 1 (by omega) (by omega), c11]

theorem straightedgelaw16_awake.ct {w : World} {K : Value → World → Prop} (h : ∀ w', Ext w w' → K (.bool true) w') : straightedgelaw16_awake.call [] w K := by
  refine straightedgelaw16_awake.os ?_
  unfold straightedgelaw16_awake.s
  refine newB_blk fun q1 w2 hq1 _ e2 hb1 => ?_
  have f1 : FBlk w2 q1 [b1, b2, b4, b4] := ⟨hb1, by intro x hx; simp at hx; rcases hx with rfl | rfl | rfl | rfl <;> decide⟩
  show view_Dense.call [.int .i64 ((2 : Nat) : Int), .int .i64 ((2 : Nat) : Int), .slice (some q1) 4 4] w2 _
  refine view_Dense.ct (r := 2) (s := 2) (by omega) (by omega) f1.flw rfl (by omega) (by omega) fun q w4 hq e4 hb => ⟨_, _, _, _, _, _, _, rfl, ?_⟩
  have hd : denseL 2 (max 2 1) 0 [b1, b2, b4, b4] (List.replicate (2 * 2) 0) = [b1, b4, b2, b4] := by decide +kernel
  rw [hd] at hb
  have e04 := e2.trans e4
  have hlen : 2 * 2 = [b1, b4, b2, b4].length := rfl
  rw [show ((max 2 1 : Nat) : Int) = 2 from rfl, hlen]
  refine lu_Factor.ct (n := 2) (off := 0) (ld := 2) hb.flw (by decide) (by decide) (by unfold I64; decide) (by unfold I64; decide) (by omega) ?_ ?_
  · intro w13 q' ys piv pp cc base e13 hq' hqb hb13 hl hf hown
    obtain ⟨hp, y00, y10, y01, y11⟩ := fac22 rfl rfl rfl rfl hf
    have hys : ys = [b4, bq, b4, b1] := by
      have hl4 : ys.length = 4 := hl
      apply List.ext_getElem
      · simp [hl4]
      · intro i h1 h2
        have e : ys[i] = ys.getD i 0 := by simp [List.getD, h1]
        rw [e]
        have hi : i = 0 ∨ i = 1 ∨ i = 2 ∨ i = 3 := by omega
        rcases hi with rfl | rfl | rfl | rfl
        · exact y00
        · exact y10
        · exact y01
        · exact y11
    subst hys
    subst hp
    refine ⟨_, _, _, _, _, _, _, _, _, _, _, _, rfl, ?_⟩
    intro k28 w27 hk28 _ e27 w30 e30
    have s2 := e2.size
    have s4 := e4.size
    have s13 := e13.size
    have s27 := e27.size
    have s30 := e30.size
    have e030 : Ext w w30 := e30.ext ((e04.trans e13).trans e27) (by omega)
    refine eq_true' rfl (eq_true' rfl (newB_blk fun q34 w35 hq34 _ e35 hb35 => ?_))
    have hlt := hb13.lt
    have own30 := (hown.ext e27).exc e30 (fun a ha => by have := (hown.lt ha).2; omega)
    have own35 := own30.ext e35
    have hints : Ints w35 (some q34) 2 [1, 1] := Ints.of_row (xs := [1, 1]) hb35.row
    refine straightedgelaw16_ints.ct (xs := [1, 1]) (own35.ints (xs := [1, 1])) hints (by omega) fun w37 e37 => ⟨.inl e37, _, rfl, br_true rfl (newB_blk fun q42 w43 hq42 _ e43 hb43 => ?_)⟩
    have f43 : FBlk w43 q42 [b4, bq, b4, b1] := ⟨hb43, by intro x hx; simp at hx; rcases hx with rfl | rfl | rfl | rfl <;> decide⟩
    have hb13' := ((((hb13.ext e27).exc e30 (by omega)).ext e35).ext e37).ext e43
    refine straightedgeref01_All.ct hb13'.flw f43.flw rfl (by decide) fun w45 e45 => ⟨.inl e45, _, rfl, h _ ((((e030.trans e35).trans e37).trans e43).trans e45)⟩
  · intro w13 k A piv e13 hk hf hz
    exfalso
    have hk2 : k = 0 ∨ k = 1 := by omega
    rcases hk2 with rfl | rfl
    · obtain ⟨hA, _⟩ := hf
      have a00 : A 0 0 = b1 := by rw [hA 0 0 (by omega) (by omega)]; rfl
      have a10 : A 1 0 = b4 := by rw [hA 1 0 (by omega) (by omega)]; rfl
      have hg : gtA b4 b1 = true := by decide +kernel
      have hm : 0 + mostF (fun i => A (0 + i) 0) (2 - 0) = 1 := by
        show 0 + mostF (fun i => A (0 + i) 0) 2 = 1
        simp [mostF, a00, a10, hg]
      rw [hm] at hz
      have e1 : swp 0 1 0 = 1 := rfl
      rw [e1, a10] at hz
      have : fne .f64 b4 0 = true := by decide +kernel
      rw [this] at hz; cases hz
    · -- the second pivot is 1
      obtain ⟨A', pv0, p0, ⟨hA', hpv0⟩, hpv1, s0⟩ := hf
      replace s0 : StepF 2 0 A' p0 A := s0
      have a00 : A' 0 0 = b1 := by rw [hA' 0 0 (by omega) (by omega)]; rfl
      have a01 : A' 0 1 = b2 := by rw [hA' 0 1 (by omega) (by omega)]; rfl
      have a10 : A' 1 0 = b4 := by rw [hA' 1 0 (by omega) (by omega)]; rfl
      have a11 : A' 1 1 = b4 := by rw [hA' 1 1 (by omega) (by omega)]; rfl
      have p0e : p0 = 1 := by
        have := s0.piv
        rw [this]
        show 0 + mostF (fun i => A' (0 + i) 0) 2 = 1
        have hg : gtA b4 b1 = true := by decide +kernel
        simp [mostF, a00, a10, hg]
      subst p0e
      have c10 : A 1 0 = bq := by
        have := s0.col 1 (by omega) (by omega)
        have e1 : swp 0 1 1 = 0 := rfl
        have e2 : swp 0 1 0 = 1 := rfl
        rw [e1, e2, a00, a10] at this
        have e3 : fb .quo b1 b4 = bq := by decide +kernel
        rw [e3] at this
        exact cn_eq_fin this (by decide)
      have c11 : A 1 1 = b1 := by
        have := s0.rest 1 1 (by omega) (by omega) (by omega) (by omega)
        have e1 : swp 0 1 1 = 0 := rfl
        have e2 : swp 0 1 0 = 1 := rfl
        rw [e1, e2, a01, a11, c10] at this
        have e3 : fb .add b2 (fb .mul (fb .mul negOne b4) bq) = b1 := by decide +kernel
        rw [e3] at this
        exact cn_eq_fin this (by decide)
      have hm : 1 + mostF (fun i => A (1 + i) 1) (2 - 1) = 1 := rfl
      rw [hm] at hz
      have e1 : swp 1 1 1 = 1 := rfl
      rw [e1, c11] at hz
      have : fne .f64 b1 0 = true := by decide +kernel
      rw [this] at hz; cases hz
end Go.Proofs.Ytgdkahbnepafgaa

/-! ### AKLuClose -/
set_option maxRecDepth 100000
set_option maxHeartbeats 2000000
set_option linter.unusedVariables false
namespace Go.Proofs.Ytgdkahbnepafgaa
open Go Go.Wk Go.RowKit Ieee
attribute [local irreducible] br

theorem all_fin {n : Nat} {ys : List Nat} (hl : ys.length = n * n) (h : ys.all finB = true) : ∀ i j, i < n → j < n → fin (tb n ys i j) := by
  intro i j hi hj
  have hp := mx_lt (n := n) (m := n) (i := j) (j := i) hj hi
  have := List.all_eq_true.1 h (ys[j + i * n]'(by omega)) (List.getElem_mem _)
  have e : tb n ys i j = ys[j + i * n]'(by omega) := by
    show ys.getD (j + i * n) 0 = _
    simp [List.getD, show j + i * n < ys.length by omega]
  rw [e]
  exact of_decide_eq_true this

theorem gt_one {x : Nat} (hx : fin x) (h : rung x ≤ oneW) : fgt .f64 (rung x) 4607182418800017408 = false := by
  rw [fgt_eq, key_rung]
  have : key 4607182418800017408 = 4607182418800017408 := by decide +kernel
  rw [this]
  have h' : rung x ≤ 4607182418800017408 := h
  have h2 : ¬ ((4607182418800017408 : Int) < (rung x : Int)) := by omega
  simp [h2]

theorem closeTo_ct2 {n cm ca cp N N' : Nat} {mp ap pp : Option Addr} {ms az : List Nat} {w : World} {K : Value → World → Prop}
    (h : straightedgelaw16_closeTo.call [tabV n n mp ms.length cm, tabV n n ap az.length ca, .slice pp n cp] w K) (h1 : ms.length = N) (h2 : az.length = N') : straightedgelaw16_closeTo.call [tabV n n mp N cm, tabV n n ap N' ca, .slice pp n cp] w K := by
  subst h1 h2
  exact h

theorem straightedgelaw16_LuClose.ct {p : Option Addr} {c : Nat} {off rows cols ld : Int} {xs : List Nat} {w : World} {K : Value → World → Prop} (hx : Flw w p xs) (hn : xs.length < 4611686018427387904)
    (ho : I64 off) (hr : I64 rows) (hc : I64 cols) (hl : I64 ld) (h : ∀ w', Ext w w' → K (.bool true) w') : straightedgelaw16_LuClose.call [matV p xs.length c off rows cols ld] w K := by
  refine straightedgelaw16_LuClose.os (8 * 30 + 40) ?_
  unfold straightedgelaw16_LuClose.s
  intro k3 w2 hk3 _ e2
  refine straightedgelaw16_awake.ct fun w6 e6 => ⟨.inl e6, _, rfl, br_false rfl ?_⟩
  have e06 := e2.trans e6
  refine straightedgeref03_Great.ct fun w16 e16 => ⟨.inl e16, _, rfl, ?_⟩
  have e016 := e06.trans e16
  refine br_d (fun _ => straightedgelaw16_awake.ct fun w19 e19 => ⟨.inl e19, _, rfl, h _ (e016.trans e19)⟩) fun hg => ?_
  refine br_d (fun _ => straightedgelaw16_awake.ct fun w23 e23 => ⟨.inl e23, _, rfl, h _ (e016.trans e23)⟩) fun hr8 => ?_
  refine straightedgeref03_Good.ct hn ho hr hc hl fun w33 e33 => ⟨.inl e33, _, rfl, ?_⟩
  have e033 := e016.trans e33
  unfold goodB
  refine br_n (fun hb => straightedgelaw16_awake.ct fun w36 e36 => ⟨.inl e36, _, rfl, h _ (e033.trans e36)⟩) fun hb => ?_
  have g := of_decide_eq_true hb
  clear hb
  obtain ⟨r, rfl⟩ : ∃ r : Nat, rows = r := ⟨rows.toNat, by have := g.1; omega⟩
  obtain ⟨s, rfl⟩ : ∃ s : Nat, cols = s := ⟨cols.toNat, by have := g.2.1; omega⟩
  have hrs : r * s ≤ 160 := by
    have := Nat.mul_le_mul (show r ≤ 8 by omega) (show s ≤ 20 by omega)
    omega
  refine straightedgeref03_Of.ct (hx.ext e033) hn g ho hl (by omega) (by omega) fun q ms w46 hq e46 hbm lm vm => ⟨.inl e46, _, _, _, _, _, rfl, ?_⟩
  have e046 := e033.trans e46
  refine straightedgeref01_Finite.ct ⟨lm, hbm.flw.at_⟩ hbm.bits (by omega) ⟨.inl (Ext.refl _), _, rfl, br_n (fun hb => straightedgelaw16_awake.ct fun w56 e56 => ⟨.inl e56, _, rfl, h _ (e046.trans e56)⟩) fun hfin => ?_⟩
  by_cases hsq : r = s
  case neg =>
    refine lu_Factor.ct_size hn g ho hr hc hl (by omega) fun w66 e66 => ⟨.inl e66, _, _, _, _, _, _, _, _, _, _, _, _, rfl, ?_⟩
    intro k81 w80 hk81 _ e80 w83 e83
    have s2 := e046.size
    have s66 := e66.size
    have s80 := e80.size
    have e083 : Ext w w83 := e83.ext ((e046.trans e66).trans e80) (by omega)
    exact br_ne (fun _ => eq_false' (by omega) (eq_true' rfl (straightedgelaw16_awake.ct fun w88 e88 => ⟨.inl e88, _, rfl, h _ (e083.trans e88)⟩))) fun hh => absurd hh (by omega)
  subst hsq
  refine lu_Factor.ct (hx.ext e046) hn g ho hl (by omega) ?_ ?_
  case refine_2 =>
    intro w66 k A piv e66 hk hf hz
    refine ⟨.inl e66, _, _, _, _, _, _, _, _, _, _, _, _, rfl, ?_⟩
    intro k81 w80 hk81 _ e80 w83 e83
    have s2 := e046.size
    have s66 := e66.size
    have s80 := e80.size
    have e083 : Ext w w83 := e83.ext ((e046.trans e66).trans e80) (by omega)
    exact br_ne (fun _ => eq_true' rfl (straightedgelaw16_awake.ct fun w88 e88 => ⟨.inl e88, _, rfl, h _ (e083.trans e88)⟩)) fun hh => absurd hh (by omega)
  intro w66 qf ys piv pp cc base e66 hqf hqb hby hly hfac hown
  refine ⟨.inl e66, _, _, _, _, _, _, _, _, _, _, _, _, rfl, ?_⟩
  intro k81 w80 hk81 hk81' e80 w83 e83
  have s2 := e046.size
  have s66 := e66.size
  have s80 := e80.size
  have s83 := e83.size
  have hltq := hby.lt
  have e083 : Ext w w83 := e83.ext ((e046.trans e66).trans e80) (by omega)
  have hb83 := (hby.ext e80).exc e83 (by omega)
  have own83 := (hown.ext e80).exc e83 (fun a ha => by have := (hown.lt ha).2; omega)
  have gl : GoodM ys.length 0 r r ((max r 1 : Nat) : Int) := by
    refine ⟨by omega, by omega, by omega, by omega, by omega, ?_⟩
    by_cases h0 : r = 0
    · left; omega
    · right; right
      have hkn := mx_lt (n := r) (m := r) (i := r - 1) (j := r - 1) (by omega) (by omega)
      have e1 : ((r : Int) - 1) * ((max r 1 : Nat) : Int) = (((r - 1) * r : Nat) : Int) := by rw [Int.natCast_mul, show max r 1 = r by omega]; congr 1; omega
      rw [e1, hly]
      omega
  have hrr : r * r ≤ 64 := by
    have := Nat.mul_le_mul (show r ≤ 8 by omega) (show r ≤ 8 by omega)
    omega
  refine br_ne (fun hh => absurd rfl hh) fun _ => ?_
  refine straightedgeref03_Good.ct (by omega) (by unfold I64; omega) (by unfold I64; omega) (by unfold I64; omega) (by unfold I64; omega) fun w98 e98 => ⟨.inl e98, _, rfl, ?_⟩
  rw [good_yes gl]
  refine br_false rfl (br_ne (fun hh => absurd rfl hh) fun _ => br_ne (fun hh => absurd rfl hh) fun _ => br_ne (fun hh => absurd rfl hh) fun _ => ?_)
  have hpl : piv.length = r := Fac.len hfac
  have hpv := fac_piv hfac
  have pok : PivOk piv := fun k hk => by rw [hpl]; exact hpv k (by omega)
  have hmapp : (piv.map fun (x : Nat) => (.int .i64 (x : Int) : Value)) = ((piv.map fun (x : Nat) => (x : Int)).map fun x => .int .i64 x) := by simp
  rw [hmapp] at own83
  have own98 := own83.ext e98
  refine straightedgeref16_Piv.ct own98.ints (by omega) pok fun w112 e112 => ⟨.inl e112, _, rfl, br_false rfl ?_⟩
  have e83112 := e98.trans e112
  refine straightedgeref03_Of.ct (hb83.ext e83112).flw (by omega) gl (by unfold I64; omega) (by unfold I64; omega) (by omega) (by omega) fun qz zs w122 hqz e122 hbz lz vz => ⟨.inl e122, _, _, _, _, _, rfl, ?_⟩
  intro k130 w129 hk130 hk130' e129 w132 e132
  have s112 := e83112.size
  have s122 := e122.size
  have s129 := e129.size
  have s132 := e132.size
  have hltz := hbz.lt
  have e0132 : Ext w w132 := e132.ext (((e083.trans e83112).trans e122).trans e129) (by omega)
  have hbz132 := (hbz.ext e129).exc e132 (by omega)
  have own132 := ((own83.ext (e83112.trans e122)).ext e129).exc e132 (fun a ha => by have := (own83.lt ha).2; omega)
  refine straightedgeref01_Finite.ct ⟨lz, hbz132.flw.at_⟩ hbz132.bits (by omega) ⟨.inl (Ext.refl _), _, rfl, br_n (fun hb => straightedgelaw16_awake.ct fun w56 e56 => ⟨.inl e56, _, rfl, h _ (e0132.trans e56)⟩) fun hfz => ?_⟩
  have vz' : ∀ i j, i < r → j < r → tb r zs i j = mx r ys i j := by
    intro i j hi hj
    rw [vz i j hi hj]
    unfold matF mx
    congr 1
    rw [show max r 1 = r by omega, ← Int.natCast_mul]
    omega
  have finF : FinM r (mx r ys) := fun i j hi hj => by rw [← vz' i j hi hj]; exact all_fin lz hfz i j hi hj
  have inv := fac_inv (show r ≤ 64 by omega) hpl r (Nat.le_refl _) (mx r ys) (by rw [List.take_of_length_le (by omega)]; exact hfac) finF
  have finM0 := all_fin lm hfin
  have main : ∀ (d i fu : Nat) (w5 : World), i + d = r → d * 12 + 20 ≤ fu → Ext w132 w5 →
      (straightedgelaw16_LuClose.I K fu).1 k3 p xs.length c off r r ld k81 (some qf) ys.length (r * r) 0 r r ((max r 1 : Nat) : Int) pp r cc k130 r r (some qz) (r * r) (r * r) (i : Int) w5 := by
    intro d
    induction d with
    | zero =>
      intro i fu w5 hi hfu e5
      obtain ⟨fu, rfl⟩ : ∃ m, fu = m + 1 := ⟨fu - 1, by omega⟩
      show straightedgelaw16_LuClose.e14 K (straightedgelaw16_LuClose.I K fu).1 (straightedgelaw16_LuClose.I K fu).2 _ _ _ _ _ _ _ _ _ _ _ _ _ _ _ _ _ _ _ _ _ _ _ _ _ _ _
      unfold straightedgelaw16_LuClose.e14
      refine dec_false (by omega) ?_
      have e0 := (e0132.trans e5).trans (Ext.drew w5)
      refine straightedgeref03_Of.ct (hx.ext e0) hn g ho hl (by omega) (by omega) fun qm2 ms2 w23 hq2 e23 hbm2 lm2 vm2 => ⟨.inl e23, _, _, _, _, _, rfl, e23.kept, ?_⟩
      have e523 := (e5.trans (Ext.drew w5)).trans e23
      have ms2e : ∀ i j, i < r → j < r → tb r ms2 i j = matF xs off ld i j := vm2
      have mse : ∀ i j, i < r → j < r → tb r ms i j = matF xs off ld i j := vm
      have own23 := own132.ext e523
      refine closeTo_ct2 ?_ lm2 lz
      refine straightedgelaw16_closeTo.ct hbm2.flw (hbz132.ext e523).flw lm2 lz (fun i j hi hj => by rw [ms2e i j hi hj, ← mse i j hi hj]; exact finM0 i j hi hj) (all_fin lz hfz) own23.ints pok (by omega) ?_ fun w30 e30 => ⟨.inl e30, _, rfl, br_true rfl (straightedgelaw16_awake.ct fun w33' e33' => ⟨.inl e33', _, rfl, h _ (((e0.trans e23).trans e30).trans e33')⟩)⟩
      intro G hG
      have hG' : ∀ i j, i < r → j < r → (fval (uwd (mx r ys) i j)).abs ≤ G := fun i j hi hj => by rw [← uwd_congr vz' hi hj]; exact hG i j hi hj
      have hcl := fac_close (show r ≤ 64 by omega) hpl hfac finF hG'
      have hov := fun i (hi : i < r) => ordR_lt pok r (by omega) i (by omega)
      rw [hpl] at hov
      refine closeP_congr (fun i k hi hk => ?_) (fun k j hk hj => ?_) (fun i j hi hj => ?_) hov hcl
      · show fval _ = fval _
        rw [lwd_congr vz' hi hk]
      · show fval _ = fval _
        rw [uwd_congr vz' hk hj]
      · show fval _ = fval _
        rw [ms2e i j hi hj]
    | succ d ih =>
      intro i fu w5 hi hfu e5
      obtain ⟨fu, rfl⟩ : ∃ m, fu = m + 1 := ⟨fu - 1, by omega⟩
      show straightedgelaw16_LuClose.e14 K (straightedgelaw16_LuClose.I K fu).1 (straightedgelaw16_LuClose.I K fu).2 _ _ _ _ _ _ _ _ _ _ _ _ _ _ _ _ _ _ _ _ _ _ _ _ _ _ _
      unfold straightedgelaw16_LuClose.e14
      refine dec_true (by omega) ?_
      have inner : ∀ (t j fu' : Nat) (w7 : World), j + t = i → d * 12 + 20 + t + 1 ≤ fu' → Ext w132 w7 →
          (straightedgelaw16_LuClose.I K fu').2 k3 p xs.length c off r r ld k81 (some qf) ys.length (r * r) 0 r r ((max r 1 : Nat) : Int) pp r cc k130 r r (some qz) (r * r) (r * r) (i : Int) (j : Int) w7 := by
        intro t
        induction t with
        | zero =>
          intro j fu' w7 hj hfu' e7
          obtain ⟨fu', rfl⟩ : ∃ m, fu' = m + 1 := ⟨fu' - 1, by omega⟩
          show straightedgelaw16_LuClose.e17 K (straightedgelaw16_LuClose.I K fu').1 (straightedgelaw16_LuClose.I K fu').2 _ _ _ _ _ _ _ _ _ _ _ _ _ _ _ _ _ _ _ _ _ _ _ _ _ _ _ _
          unfold straightedgelaw16_LuClose.e17
          have e9 : IntKind.i64.wrap ((i : Int) + 1) = ((i + 1 : Nat) : Int) := by rw [wrap_i64 (by omega) (by omega)]; omega
          refine dec_false (by omega) ?_
          rw [e9]
          exact ih (i + 1) fu' w7 (by omega) (by omega) e7
        | succ t iht =>
          intro j fu' w7 hj hfu' e7
          obtain ⟨fu', rfl⟩ : ∃ m, fu' = m + 1 := ⟨fu' - 1, by omega⟩
          show straightedgelaw16_LuClose.e17 K (straightedgelaw16_LuClose.I K fu').1 (straightedgelaw16_LuClose.I K fu').2 _ _ _ _ _ _ _ _ _ _ _ _ _ _ _ _ _ _ _ _ _ _ _ _ _ _ _ _
          unfold straightedgelaw16_LuClose.e17
          have e9 : IntKind.i64.wrap ((j : Int) + 1) = ((j + 1 : Nat) : Int) := by rw [wrap_i64 (by omega) (by omega)]; omega
          refine dec_true (by omega) ?_
          refine straightedgeref03_M_At.ct2 (hbz132.ext e7).flw lz lz (by omega) (by omega) (by omega) (by omega) fun w8 e8 => ⟨.inl e8, _, rfl, ?_⟩
          have hp := mx_lt (n := r) (m := r) (i := j) (j := i) (by omega) (by omega)
          obtain ⟨_, _, _, hbt⟩ := hbz132.flw.get (i := j + i * r) (by omega)
          refine straightedgeref01_Abs.ct hbt ⟨.inl (Ext.refl _), _, rfl, ?_⟩
          have hlow := inv.low i j (by omega) (by omega) (by omega)
          rw [← vz' i j (by omega) (by omega)] at hlow
          have hg1 := gt_one (all_fin lz hfz i j (by omega) (by omega)) hlow
          refine br_false hg1 ?_
          rw [e9]
          exact iht (j + 1) fu' w8 (by omega) (by omega) (e7.trans e8)
      exact inner i 0 fu w5 (by omega) (by omega) e5
  exact main r 0 _ w132 (by omega) (by omega) (Ext.refl _)
end Go.Proofs.Ytgdkahbnepafgaa
