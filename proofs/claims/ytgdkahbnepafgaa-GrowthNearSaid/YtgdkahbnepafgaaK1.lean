/- A part of the proof. -/
import Derived.Test.YtgdkahbnepafgaaWk0
import Derived.Test.YtgdkahbnepafgaaK0
set_option linter.unusedVariables false

/-! ### AKdig10 -/
set_option maxRecDepth 100000
set_option maxHeartbeats 2000000
set_option linter.unusedVariables false
namespace Go.Proofs.Ytgdkahbnepafgaa
open Go Go.Wk Go.RowKit Ieee
attribute [local irreducible] br

theorem straightedgeref02_D_Mul.ct {s1 s2 : Bool} {p1 p2 : Option Addr} {n1 c1 n2 c2 : Nat} {e1 e2 B1 B2 B : Int} {r1 r2 : Rat} {w : World} {K : Value → World → Prop}
    (hd1 : DR w s1 p1 n1 e1 B1 r1) (hd2 : DR w s2 p2 n2 e2 B2 r2) (hB1 : B1 + B2 + 1 ≤ B) (hB : B ≤ 1099511627776) (hB10 : 0 ≤ B1) (hB20 : 0 ≤ B2)
    (h : DK K B (r1 * r2) w) :
    straightedgeref02_D_Mul.call [.agg ⟨[.bool s1, .slice p1 n1 c1, .int .i64 e1]⟩, .agg ⟨[.bool s2, .slice p2 n2 c2, .int .i64 e2]⟩] w K := by
  obtain ⟨⟨l1, i1, d1, v1, z1, g1⟩, lo1, hi1⟩ := hd1
  obtain ⟨⟨l2, i2, d2, v2, z2, g2⟩, lo2, hi2⟩ := hd2
  have len1 := i1.len
  have len2 := i2.len
  refine straightedgeref02_D_Mul.ok ((n1 + 1) * (n2 + 4) + 1) ?_
  unfold straightedgeref02_D_Mul.x
  refine newB_intro fun q1 w2 hq1 _ ext1 row1 hs1 _ => ?_
  refine newB_intro fun q3 w4 hq3 _ ext3 row3 hs3 _ => ?_
  refine newB_intro fun q5 w6 hq5 _ ext5 row5 hs5 _ => ?_
  have extA := (ext1.trans ext3).trans ext5
  have rA1 := row1.ext (ext3.trans ext5)
  have rA3 := row3.ext ext5
  have hw : IntKind.i64.wrap (IntKind.i64.wrap ((n1 : Int) + (n2 : Int)) + 1) = ((n1 + n2 + 1 : Nat) : Int) := by
    rw [wrap_i64 (z := (n1 : Int) + n2) (by omega) (by omega), wrap_i64 (by omega) (by omega)]; omega
  refine ⟨p1, n1, c1, rA1.get 1 rfl, p2, n2, c2, rA3.get 1 rfl, ?_⟩
  rw [hw]
  refine ⟨by omega, Int.le_refl _, by omega, by omega, ?_⟩
  rw [Int.toNat_natCast, zeros_eq]
  refine newB_intro fun q13 w14 hq13 _ ext13 row13 hs13 _ => ?_
  obtain ⟨N, hN⟩ : ∃ N, N = n1 + n2 + 1 := ⟨_, rfl⟩
  rw [← hN] at row13 ⊢
  have hb13 : w6.heap.size ≤ q13.block := by omega
  -- the state of a round
  have hnn1 := fun i => valL_nonneg (l := l1.take i) fun d hd => d1 d (List.mem_of_mem_take hd)
  have hnn2 := fun i => valL_nonneg (l := l2.take i) fun d hd => d2 d (List.mem_of_mem_take hd)
  have vt : ∀ (l : List Int) (i : Nat) (hi : i < l.length), valL (l.take (i + 1)) = valL (l.take i) + 65536 ^ i * l[i] := by
    intro l i hi
    rw [List.take_add_one, List.getElem?_eq_getElem hi, Option.toList_some, valL_append, List.length_take, Nat.min_eq_left (by omega)]
    simp [valL]
  have ext14 := extA.trans ext13
  have vl1 : ∀ i, i ≤ n1 → valL (l1.take i) < 65536 ^ i := by
    intro i hi
    have := valL_lt (l := l1.take i) fun d hd => d1 d (List.mem_of_mem_take hd)
    rwa [List.length_take, Nat.min_eq_left (by omega)] at this
  have vl2 : valL l2 < 65536 ^ n2 := by have := valL_lt d2; rwa [len2] at this
  have v20 := valL_nonneg d2
  -- i: rows of the first that are done
  have main : ∀ (d i fu : Nat) (m : List Int) (w5 : World), i + d = n1 → (d + 1) * (n2 + 4) ≤ fu → Ext w6 w5 → m.length = N → Dig m →
      Row w5 q13 (m.map fun x => .int .i64 x) → valL m = valL (l1.take i) * valL l2 →
      (straightedgeref02_D_Mul.H K fu).1 (some q1) (some q3) (some q5) (some q13) N N (i : Int) w5 := by
    intro d
    induction d with
    | zero =>
      intro i fu m w5 hi hfu he hml hmd hrow hv
      obtain ⟨fu, rfl⟩ : ∃ m, fu = m + 1 := ⟨fu - 1, by omega⟩
      have hH : (straightedgeref02_D_Mul.H K (fu + 1)).1 = straightedgeref02_D_Mul.b3 K (straightedgeref02_D_Mul.H K fu).1 (straightedgeref02_D_Mul.H K fu).2.1 (straightedgeref02_D_Mul.H K fu).2.2 := rfl
      rw [hH]
      unfold straightedgeref02_D_Mul.b3
      have t1 := rA1.ext he
      have t3 := rA3.ext he
      refine ptrSome_intro rfl ⟨p1, n1, c1, t1.get 1 rfl, dec_false (by omega) (ptrSome_intro rfl ⟨s1, t1.get0 rfl, ptrSome_intro rfl ⟨s2, t3.get0 rfl, ptrSome_intro rfl ⟨e1, t1.get 2 rfl, ptrSome_intro rfl ⟨e2, t3.get 2 rfl, ?_⟩⟩⟩⟩)⟩
      have hm : Ints w5 (some q13) N m := by have := Ints.of_row (xs := m) hrow; rwa [hml] at this
      rw [wrap_i64 (by omega) (by omega)]
      refine straightedgeref02_Made.ct (B := B) hm hmd (Nat.le_refl _) (by omega) (by omega) (by omega) (by omega) fun w' s' p' n' c' e' he' hdr _ hbk => ⟨_, _, _, _, _, rfl, ret3p (row5.ext (he.trans he')) ?_⟩
      have hfr : Fr w6.heap.size p' := fun a ha => by
        obtain ⟨b, hb, e⟩ := hbk a ha
        cases hb
        rw [e]; exact hb13
      have hval : dv (!(s1 == s2)) m (e1 + e2) = r1 * r2 := by
        have hin : i = n1 := by omega
        rw [v1, v2]
        unfold dv
        rw [hv, hin, List.take_of_length_le (by omega), Rat.intCast_mul, show 16 * (e1 + e2) = 16 * e1 + 16 * e2 by omega, Rat.zpow_add two_ne]
        cases s1 <;> cases s2 <;> simp only [beq_self_eq_true, Bool.not_true, Bool.not_false, Bool.false_eq_true, if_false, if_true, show (true == false) = false from rfl, show (false == true) = false from rfl] <;> grind
      rw [hval] at hdr
      have := ext1.size
      have := ext3.size
      exact finishD h row5 (by omega) extA (he.trans he') hdr hfr
    | succ d ih =>
      intro i fu m w5 hi hfu he hml hmd hrow hv
      obtain ⟨fu, rfl⟩ : ∃ m, fu = m + 1 := ⟨fu - 1, by
        have : 0 < (d + 1 + 1) * (n2 + 4) := Nat.mul_pos (by omega) (by omega)
        omega⟩
      have hH : (straightedgeref02_D_Mul.H K (fu + 1)).1 = straightedgeref02_D_Mul.b3 K (straightedgeref02_D_Mul.H K fu).1 (straightedgeref02_D_Mul.H K fu).2.1 (straightedgeref02_D_Mul.H K fu).2.2 := rfl
      rw [hH]
      unfold straightedgeref02_D_Mul.b3
      have t1 := rA1.ext he
      have hil : i < l1.length := by omega
      have hfu2 : (d + 1) * (n2 + 4) + (n2 + 4) ≤ fu + 1 := by rw [Nat.succ_mul] at hfu; omega
      refine ptrSome_intro rfl ⟨p1, n1, c1, t1.get 1 rfl, dec_true (by omega) ?_⟩
      have hx := d1 l1[i] (List.getElem_mem hil)
      -- the carry goes on
      have tail : ∀ (t fu' : Nat) (m' : List Int) (cy : Int) (w' : World), t ≤ 1 → (d + 1) * (n2 + 4) + 2 ≤ fu' + t → Ext w6 w' → m'.length = N → Dig m' → 0 ≤ cy → cy < 65536 →
          Row w' q13 (m'.map fun x => .int .i64 x) → valL m' + 65536 ^ (i + n2 + t) * cy = valL (l1.take (i + 1)) * valL l2 →
          (straightedgeref02_D_Mul.H K fu').2.2 (some q1) (some q3) (some q5) (some q13) N N (i : Int) cy ((i + n2 + t : Nat) : Int) w' := by
        have leave : ∀ (fu' : Nat) (m' : List Int) (pl : Int) (w' : World), (d + 1) * (n2 + 4) + 1 ≤ fu' → Ext w6 w' → m'.length = N → Dig m' →
            Row w' q13 (m'.map fun x => .int .i64 x) → valL m' = valL (l1.take (i + 1)) * valL l2 →
            (straightedgeref02_D_Mul.H K fu').2.2 (some q1) (some q3) (some q5) (some q13) N N (i : Int) 0 pl w' := by
          intro fu' m' pl w' hfu' he' hml' hmd' hrow' hv'
          obtain ⟨fu', rfl⟩ : ∃ m, fu' = m + 1 := ⟨fu' - 1, by omega⟩
          have hH' : (straightedgeref02_D_Mul.H K (fu' + 1)).2.2 = straightedgeref02_D_Mul.b13 K (straightedgeref02_D_Mul.H K fu').1 (straightedgeref02_D_Mul.H K fu').2.1 (straightedgeref02_D_Mul.H K fu').2.2 := rfl
          rw [hH']
          unfold straightedgeref02_D_Mul.b13
          refine dec_false (by omega) ?_
          have e9 : IntKind.i64.wrap ((i : Int) + 1) = ((i + 1 : Nat) : Int) := by rw [wrap_i64 (by omega) (by omega)]; omega
          rw [e9]
          exact ih (i + 1) fu' m' w' (by omega) (by omega) he' hml' hmd' hrow' hv'
        have top : valL (l1.take (i + 1)) * valL l2 < 65536 ^ (i + n2 + 1) := by
          have a1 := vl1 (i + 1) (by omega)
          have a2 := hnn1 (i + 1)
          have a3 : (65536 : Int) ^ (i + n2 + 1) = 65536 ^ (i + 1) * 65536 ^ n2 := by rw [← Int.pow_add]; congr 1; omega
          rw [a3]
          have a4 := pow_pos16 n2
          have a5 := pow_pos16 (i + 1)
          have a6 : valL (l1.take (i + 1)) * valL l2 ≤ valL (l1.take (i + 1)) * 65536 ^ n2 := Int.mul_le_mul_of_nonneg_left (by omega) a2
          have a7 : valL (l1.take (i + 1)) * 65536 ^ n2 < 65536 ^ (i + 1) * 65536 ^ n2 := Int.mul_lt_mul_of_pos_right a1 a4
          omega
        intro t fu' m' cy w' ht hfu' he' hml' hmd' hc0 hc1 hrow' hv'
        by_cases hcy : cy = 0
        · subst hcy
          exact leave fu' m' _ w' (by omega) he' hml' hmd' hrow' (by simpa using hv')
        have ht0 : t = 0 := by
          rcases Nat.lt_or_ge t 1 with hh | hh
          · omega
          · have e1 : t = 1 := by omega
            subst e1
            have a1 := valL_nonneg hmd'
            have a2 := pow_pos16 (i + n2 + 1)
            have a3 : (65536 : Int) ^ (i + n2 + 1) * 1 ≤ 65536 ^ (i + n2 + 1) * cy := Int.mul_le_mul_of_nonneg_left (by omega) (by omega)
            omega
        subst ht0
        obtain ⟨fu', rfl⟩ : ∃ m, fu' = m + 1 := ⟨fu' - 1, by omega⟩
        have hH' : (straightedgeref02_D_Mul.H K (fu' + 1)).2.2 = straightedgeref02_D_Mul.b13 K (straightedgeref02_D_Mul.H K fu').1 (straightedgeref02_D_Mul.H K fu').2.1 (straightedgeref02_D_Mul.H K fu').2.2 := rfl
        rw [hH']
        unfold straightedgeref02_D_Mul.b13
        have hpl : i + n2 + 0 < m'.length := by omega
        have hg : m'[i + n2 + 0]? = some (m'.getD (i + n2 + 0) 0) := by rw [List.getD_eq_getElem?_getD, List.getElem?_eq_getElem hpl]; rfl
        have hgd := dig_getD hmd' (i + n2 + 0)
        have hcell := hrow'.get (i + n2 + 0) (v := .int .i64 (m'.getD (i + n2 + 0) 0)) (by rw [List.getElem?_map, hg]; rfl)
        generalize hy : m'.getD (i + n2 + 0) 0 = y at *
        refine dec_true (by omega) (ptrSome_intro rfl ⟨by omega, by omega, y, by rw [Int.toNat_natCast]; exact hcell, ptrSome_intro rfl ⟨by omega, by omega, by rw [Int.toNat_natCast, hcell]; rfl, by rw [Int.toNat_natCast]; exact hrow'.free _ (by simpa using hpl), ?_⟩⟩)
        rw [wrap_i64 (z := cy + y) (by omega) (by omega), Int.tmod_eq_emod_of_nonneg (by omega), Int.tdiv_eq_ediv_of_nonneg (by omega), wrap_i64 (z := _ / 65536) (by omega) (by omega), Int.toNat_natCast]
        have e9 : IntKind.i64.wrap (((i + n2 + 0 : Nat) : Int) + 1) = ((i + n2 + 1 : Nat) : Int) := by rw [wrap_i64 (by omega) (by omega)]; omega
        rw [e9]
        have hset := hrow'.set (i + n2 + 0) (.int .i64 ((cy + y) % 65536)) (by simpa using hpl)
        rw [← List.map_set] at hset
        have hvs := valL_set m' (i + n2 + 0) ((cy + y) % 65536) hpl
        rw [hy] at hvs
        have hval : valL (m'.set (i + n2 + 0) ((cy + y) % 65536)) + 65536 ^ (i + n2 + 1) * ((cy + y) / 65536) = valL (l1.take (i + 1)) * valL l2 := by
          rw [hvs, ← hv', Int.pow_succ, Nat.add_zero]
          have e3 : cy + y = (cy + y) % 65536 + 65536 * ((cy + y) / 65536) := by omega
          generalize (cy + y) % 65536 = m1 at *
          generalize (cy + y) / 65536 = m2 at *
          generalize (65536 : Int) ^ (i + n2) = g at *
          grind
        have hz : (cy + y) / 65536 = 0 := by
          rcases Int.lt_or_le 0 ((cy + y) / 65536) with hh | hh
          · have a1 := valL_nonneg (dig_set hmd' (i + n2 + 0) (x := (cy + y) % 65536) (by omega))
            have a3 : (65536 : Int) ^ (i + n2 + 1) * 1 ≤ 65536 ^ (i + n2 + 1) * ((cy + y) / 65536) := Int.mul_le_mul_of_nonneg_left (by omega) (by have := pow_pos16 (i + n2 + 1); omega)
            omega
          · omega
        rw [hz] at hval ⊢
        exact leave fu' _ _ _ (by omega) (Ext.set he' hb13 _ _) (by simp [hml']) (dig_set hmd' _ (by omega)) hset (by simpa using hval)
      have inner : ∀ (t j fu' : Nat) (m' : List Int) (cy : Int) (w' : World), j + t = n2 → (d + 1) * (n2 + 4) + 3 + t ≤ fu' → Ext w6 w' → m'.length = N → Dig m' → 0 ≤ cy → cy < 65536 →
          Row w' q13 (m'.map fun x => .int .i64 x) → valL m' + 65536 ^ (i + j) * cy = valL (l1.take i) * valL l2 + 65536 ^ i * (l1[i] * valL (l2.take j)) →
          (straightedgeref02_D_Mul.H K fu').2.1 (some q1) (some q3) (some q5) (some q13) N N (i : Int) cy (j : Int) w' := by
        intro t
        induction t with
        | zero =>
          intro j fu' m' cy w' hj hfu' he' hml' hmd' hc0 hc1 hrow' hv'
          obtain ⟨fu', rfl⟩ : ∃ m, fu' = m + 1 := ⟨fu' - 1, by omega⟩
          have hH' : (straightedgeref02_D_Mul.H K (fu' + 1)).2.1 = straightedgeref02_D_Mul.b7 K (straightedgeref02_D_Mul.H K fu').1 (straightedgeref02_D_Mul.H K fu').2.1 (straightedgeref02_D_Mul.H K fu').2.2 := rfl
          rw [hH']
          unfold straightedgeref02_D_Mul.b7
          have t3 := rA3.ext he'
          refine ptrSome_intro rfl ⟨p2, n2, c2, t3.get 1 rfl, dec_false (by omega) (ptrSome_intro rfl ⟨p2, n2, c2, t3.get 1 rfl, ?_⟩)⟩
          have e9 : IntKind.i64.wrap ((i : Int) + (n2 : Int)) = ((i + n2 + 0 : Nat) : Int) := by rw [wrap_i64 (by omega) (by omega)]; omega
          rw [e9]
          refine tail 0 fu' m' cy w' (by omega) (by omega) he' hml' hmd' hc0 hc1 hrow' ?_
          have hjn : j = n2 := by omega
          have htk : l2.take n2 = l2 := List.take_of_length_le (by omega)
          rw [hjn, htk] at hv'
          rw [Nat.add_zero, hv', vt l1 i hil, Int.add_mul, Int.mul_assoc]
        | succ t iht =>
          intro j fu' m' cy w' hj hfu' he' hml' hmd' hc0 hc1 hrow' hv'
          obtain ⟨fu', rfl⟩ : ∃ m, fu' = m + 1 := ⟨fu' - 1, by omega⟩
          have hH' : (straightedgeref02_D_Mul.H K (fu' + 1)).2.1 = straightedgeref02_D_Mul.b7 K (straightedgeref02_D_Mul.H K fu').1 (straightedgeref02_D_Mul.H K fu').2.1 (straightedgeref02_D_Mul.H K fu').2.2 := rfl
          rw [hH']
          unfold straightedgeref02_D_Mul.b7
          have t3 := rA3.ext he'
          have ed := he'.trans (Ext.drew w')
          have t1d := rA1.ext ed
          have t3d := rA3.ext ed
          have hjl : j < l2.length := by omega
          obtain ⟨a, ha, hca⟩ := i1.at_ i l1[i] (by simp [hil])
          obtain ⟨b, hb, hcb⟩ := i2.at_ j l2[j] (by simp [hjl])
          replace hca := ed.cell_of (extA.cell_of hca)
          replace hcb := ed.cell_of (extA.cell_of hcb)
          have hy := d2 l2[j] (List.getElem_mem hjl)
          have hxy := mul_dig hx hy
          have hrowd := hrow'.ext (Ext.drew w')
          have hpl : i + j < m'.length := by omega
          have hg : m'[i + j]? = some (m'.getD (i + j) 0) := by rw [List.getD_eq_getElem?_getD, List.getElem?_eq_getElem hpl]; rfl
          have hgd := dig_getD hmd' (i + j)
          have hcell := hrowd.get (i + j) (v := .int .i64 (m'.getD (i + j) 0)) (by rw [List.getElem?_map, hg]; rfl)
          have hvs := fun x => valL_set m' (i + j) x hpl
          generalize hyz : m'.getD (i + j) 0 = z at *
          have hvt := vt l2 j hjl
          generalize l1[i] = x at *
          generalize l2[j] = y at *
          have e8 : IntKind.i64.wrap ((i : Int) + (j : Int)) = ((i + j : Nat) : Int) := by rw [wrap_i64 (by omega) (by omega)]; omega
          rw [e8]
          refine ptrSome_intro rfl ⟨p2, n2, c2, t3.get 1 rfl, dec_true (by omega) (ptrSome_intro rfl ⟨p1, n1, c1, t1d.get 1 rfl, ptrSome_intro ha ⟨by omega, by omega, x, by rw [Int.toNat_natCast]; exact hca, ptrSome_intro rfl ⟨p2, n2, c2, t3d.get 1 rfl, ptrSome_intro hb ⟨by omega, by omega, y, by rw [Int.toNat_natCast]; exact hcb, ?_⟩⟩⟩⟩)⟩
          refine ptrSome_intro rfl ⟨by omega, by omega, z, by rw [Int.toNat_natCast]; exact hcell, ptrSome_intro rfl ⟨by omega, by omega, by rw [Int.toNat_natCast, hcell]; rfl, by rw [Int.toNat_natCast]; exact hrowd.free _ (by simpa using hpl), ?_⟩⟩
          rw [wrap_i64 (z := x * y) (by omega) (by omega), wrap_i64 (z := cy + x * y) (by omega) (by omega), wrap_i64 (z := cy + x * y + z) (by omega) (by omega), Int.tmod_eq_emod_of_nonneg (by omega), Int.tdiv_eq_ediv_of_nonneg (by omega), wrap_i64 (z := _ / 65536) (by omega) (by omega), Int.toNat_natCast]
          have e9 : IntKind.i64.wrap ((j : Int) + 1) = ((j + 1 : Nat) : Int) := by rw [wrap_i64 (by omega) (by omega)]; omega
          rw [e9]
          have hset := hrowd.set (i + j) (.int .i64 ((cy + x * y + z) % 65536)) (by simpa using hpl)
          rw [← List.map_set] at hset
          refine iht (j + 1) fu' _ _ _ (by omega) (by omega) (Ext.set ed hb13 _ _) (by simp [hml']) (dig_set hmd' _ (by omega)) (by omega) (by omega) hset ?_
          rw [hvs, hvt, ← Nat.add_assoc, Int.pow_succ]
          have e3 : cy + x * y + z = (cy + x * y + z) % 65536 + 65536 * ((cy + x * y + z) / 65536) := by omega
          have e4 : (65536 : Int) ^ (i + j) = 65536 ^ i * 65536 ^ j := Int.pow_add _ _ _
          rw [e4] at hv' ⊢
          exact mul_step hv' e3
      exact inner n2 0 fu m 0 w5 (by omega) (by omega) he hml hmd (by omega) (by omega) hrow (by rw [hv]; simp [valL])
  have row0 : Row w14 q13 ((List.replicate N (0 : Int)).map fun x => Value.int .i64 x) := by simpa using row13
  exact main n1 0 _ (List.replicate N 0) w14 (by omega) (by omega) ext13 (by simp) (fun x hx => by rw [(List.mem_replicate.1 hx).2]; omega) row0 (by rw [valL_zeros]; simp [valL])
end Go.Proofs.Ytgdkahbnepafgaa

/-! ### AKlusize -/
set_option maxRecDepth 100000
set_option maxHeartbeats 4000000
set_option linter.unusedVariables false
namespace Go.Proofs.Ytgdkahbnepafgaa
open Go Go.Wk Go.RowKit Ieee
attribute [local irreducible] br

theorem lu_square.ct_size {p : Option Addr} {n c : Nat} {off rows cols ld : Int} {w : World} {K : Value → World → Prop} (hn : n < 4611686018427387904)
    (g : GoodM n off rows cols ld) (ho : I64 off) (hr : I64 rows) (hc : I64 cols) (hl : I64 ld) (hne : rows ≠ cols)
    (h : ∀ w', Ext w w' → K (.tuple ⟨[matV none 0 0 0 0 0 0, .int .i64 3]⟩) w') : lu_square.call [matV p n c off rows cols ld] w K := by
  refine lu_square.os ?_
  unfold lu_square.s
  intro k3 w2 hk3 _ e2 k7 w6 hk7 _ e6
  refine view_Good.ct hn ho hr hc hl fun w17 e17 => ⟨.inl e17, _, rfl, ?_⟩
  rw [good_yes g]
  have s2 := e2.size
  have s6 := e6.size
  have s17 := e17.size
  refine br_false rfl (br_ne (fun _ => ?_) fun hh => absurd hh hne)
  intro w29 e29
  exact h w29 (e29.ext ((e2.trans e6).trans e17) (by omega))

theorem lu_Factor.ct_size {p : Option Addr} {n c : Nat} {off rows cols ld : Int} {w : World} {K : Value → World → Prop} (hn : n < 4611686018427387904)
    (g : GoodM n off rows cols ld) (ho : I64 off) (hr : I64 rows) (hc : I64 cols) (hl : I64 ld) (hne : rows ≠ cols)
    (h : ∀ w', Ext w w' → K (.tuple ⟨[.agg ⟨[.slice none 0 0, .int .i64 0, .int .i64 0, .int .i64 0, .int .i64 0, .slice none 0 0]⟩, .int .i64 0, .int .i64 3]⟩) w') :
    lu_Factor.call [matV p n c off rows cols ld] w K := by
  refine lu_Factor.os 1 ?_
  unfold lu_Factor.s
  intro k3 w2 hk3 _ e2 k7 w6 hk7 _ e6
  have s2 := e2.size
  have s6 := e6.size
  refine lu_square.ct_size hn g ho hr hc hl hne fun w17 e17 => ⟨.inl e17, _, _, _, _, _, _, _, _, rfl, ?_⟩
  have s17 := e17.size
  intro k28 w27 hk28 _ e27 w30 e30
  have s27 := e27.size
  have s30 := e30.size
  refine br_ne (fun _ => ?_) (fun hh => absurd hh (by omega))
  intro w31 e31
  exact h w31 (e31.ext (e30.ext (((e2.trans e6).trans e17).trans e27) (by omega)) (by omega))
end Go.Proofs.Ytgdkahbnepafgaa

/-! ### AKGrowthNear -/
set_option maxRecDepth 100000
set_option maxHeartbeats 2000000
set_option linter.unusedVariables false
namespace Go.Proofs.Ytgdkahbnepafgaa
open Go Go.Wk Go.RowKit Ieee
attribute [local irreducible] br

theorem own1 {w w' : World} {q : Addr} {x : Nat} (hq : q.block = w.heap.size) (ho : q.off = 0) (hs : q.spot = none) (hh : w'.heap[q.block]? = some (.cells ⟨[.float .f64 x]⟩ tF (0, 0))) : Own w' w.heap.size tF (some q) 1 1 ([x].map fun x => .float .f64 x) := by
  refine ⟨rfl, .inr ⟨q.block, 1, ⟨[.float .f64 x]⟩, ?_, by omega, hh, by omega, by decide, rfl, rfl⟩⟩
  rw [← Addr.eq_of ho hs]

theorem DR_abs {s : Bool} {p : Option Addr} {n : Nat} {e B : Int} {q : Rat} {w : World} (hd : DR w s p n e B q) : DR w false p n e B q.abs := by
  obtain ⟨⟨l, hl, hdig, hq, hz, hp⟩, hlo, hhi⟩ := hd
  exact ⟨⟨l, hl, hdig, by rw [hq, dv_abs s l e (valL_nonneg hdig)], fun _ => rfl, hp⟩, hlo, hhi⟩

/-- The steps with exact numbers at the end. -/
theorem growth_tail {fu k1 k2 : Nat} {x n1 c1 n2 c2 : Nat} {s1 s2 : Bool} {p1 p2 : Option Addr} {f1 f2 : Int} {S M : Rat} {w : World} {K : Value → World → Prop} (hxb : x < 18446744073709551616) (hx : fin x)
    (d1 : DR w s1 p1 n1 f1 1100 S) (d2 : DR w s2 p2 n2 f2 1100 M) (hnear : (fval x * S - M).abs ≤ M * 2 ^ (-52 : Int) + S * 2 ^ (-1074 : Int))
    (h : ∀ w', Ext w w' → K (.bool true) w') : (straightedgelaw19_GrowthNear.I K (fu + 2)).1 x k1 s1 p1 n1 c1 f1 k2 s2 p2 n2 c2 f2 w := by
  show straightedgelaw19_GrowthNear.e15 K (straightedgelaw19_GrowthNear.I K (fu + 1)).1 (straightedgelaw19_GrowthNear.I K (fu + 1)).2 _ _ _ _ _ _ _ _ _ _ _ _ _ _
  unfold straightedgelaw19_GrowthNear.e15
  intro w14 e14
  have g0 := (Ext.drew w).trans e14
  refine straightedgeref02_Of.ct hxb hx fun w16 s3 p3 n3 c3 f3 e16 d3 fr3 => ⟨e16, _, _, _, _, _, rfl, ?_⟩
  intro w22 e22
  have g22 := (g0.trans e16).trans e22
  refine straightedgeref02_D_Mul.ct (B := 2300) (d3.ext e22) (d1.ext g22) (by omega) (by omega) (by omega) (by omega) fun w24 s4 p4 n4 c4 f4 e24 d4 fr4 => ⟨e24, _, _, _, _, _, rfl, ?_⟩
  intro w30 e30
  have g30 := (g22.trans e24).trans e30
  refine straightedgeref02_D_Sub.ct (B := 2301) (d4.ext e30) (d2.ext g30) (by omega) (by omega) (by omega) fun w32 s5 p5 n5 c5 f5 e32 d5 fr5 => ⟨e32, _, _, _, _, _, rfl, ?_⟩
  intro w38 e38
  have g38 := (g30.trans e32).trans e38
  refine straightedgeref02_D_Abs.ct (d5.ext e38) fun w40 e40 d6 => ⟨e40, _, _, _, _, _, rfl, ?_⟩
  intro w46 e46 k48 hk48 hk48' y1 y2 y3 y4 w50 x50
  have g40 := g38.trans e40
  have g46 := g40.trans e46
  have sd : w.drew.heap.size = w.heap.size := rfl
  have g50 : Ext w w50 := x50.ext g46 (by omega)
  have z14 := e14.size
  have z16 := e16.size
  have z22 := e22.size
  have z24 := e24.size
  have z30 := e30.size
  have z32 := e32.size
  have z38 := e38.size
  have z40 := e40.size
  have z46 := e46.size
  have d6' := DR_abs (d5.exc2 (e38.trans (e40.trans e46)) x50 (fun a ha hlt => by have := fr5 a ha; omega))
  have d1' := d1.ext g50
  have d2' := d2.ext g50
  show straightedgelaw19_GrowthNear.e16 K (straightedgelaw19_GrowthNear.I K fu).1 (straightedgelaw19_GrowthNear.I K fu).2 _ _ _ _ _ _ _ _ _ _ _ _ _ _ _ _ _ _ _
  unfold straightedgelaw19_GrowthNear.e16
  have edr := Ext.drew w50
  refine straightedgeref02_D_Shift.ct (k := -52) (B' := 1200) (d2'.ext edr) (by omega) (by omega) (by omega) (by omega) (by omega) fun w21 s7 p7 n7 c7 f7 e21 d7 fr7 => ⟨.inl e21, _, _, _, _, _, rfl, e21.kept, ?_⟩
  refine straightedgeref02_D_Shift.ct (k := -1074) (B' := 2300) (d1'.ext (edr.trans e21)) (by omega) (by omega) (by omega) (by omega) (by omega) fun w28 s8 p8 n8 c8 f8 e28 d8 fr8 => ⟨.inl e28, _, _, _, _, _, rfl, e28.kept, ?_⟩
  refine straightedgeref02_D_Add.ct (B := 2301) (d7.ext e28) d8 (by omega) (by omega) (by omega) fun w35 s9 p9 n9 c9 f9 e35 d9 fr9 => ⟨.inl e35, _, _, _, _, _, rfl, e35.kept, ?_⟩
  refine straightedgeref02_D_Cmp.ct (d6'.ext (((edr.trans e21).trans e28).trans e35)) d9 (by omega) (by omega) fun w42 z e42 q1 q2 q3 => ⟨.inl e42, _, rfl, ?_⟩
  have hz : z ≤ 0 := by
    by_cases heq : (fval x * S - M).abs = M * 2 ^ (-52 : Int) + S * 2 ^ (-1074 : Int)
    · rw [q1 heq]; decide
    · rw [q2 (Rat.lt_of_le_of_ne hnear heq)]; decide
  refine dec_true hz (straightedgelaw19_awake.ct fun w45 e45 => ⟨.inl e45, _, rfl, h _ (((((g50.trans edr).trans e21).trans e28).trans e35).trans (e42.trans e45))⟩)

theorem all_finT {n : Nat} {ys : List Nat} (hl : ys.length = n * n) (h : ys.all finB = true) : ∀ i j, i < n → j < n → fin (tb n ys i j) := by
  intro i j hi hj
  have hp := mx_lt (n := n) (m := n) (i := j) (j := i) hj hi
  have := List.all_eq_true.1 h (ys[j + i * n]'(by omega)) (List.getElem_mem _)
  have e : tb n ys i j = ys[j + i * n]'(by omega) := by
    show ys.getD (j + i * n) 0 = _
    simp [List.getD, show j + i * n < ys.length by omega]
  rw [e]
  exact of_decide_eq_true this
theorem greatL_lt {B : Nat} : ∀ {xs : List Nat} {m : Nat}, m < B → (∀ x ∈ xs, x < B) → greatL m xs < B
  | [], _, hm, _ => hm
  | y :: xs, m, hm, h => by
    show greatL (if fgt .f64 y m then y else m) xs < B
    refine greatL_lt ?_ fun x hx => h x (by simp [hx])
    split
    · exact h y (by simp)
    · exact hm
theorem DR_exc3 {w w1 w2 w' : World} {s : Bool} {p : Option Addr} {n : Nat} {e B : Int} {q : Rat} {k k' : Nat} (h : DR w s p n e B q) (e1 : Ext w w1) (ee : Exc k w1 w2) (ee' : Exc k' w2 w') (hk : ∀ a, p = some a → a.block < w.heap.size → a.block ≠ k ∧ a.block ≠ k') : DR w' s p n e B q := by
  obtain ⟨⟨l, h1, h2⟩, h3, h4⟩ := h
  refine ⟨⟨l, ⟨h1.len, fun i x hx => ?_⟩, h2⟩, h3, h4⟩
  obtain ⟨a, ha, hc⟩ := h1.at_ i x hx
  have hlt := World.block_lt_of_cell? _ _ hc
  rw [add_block] at hlt
  obtain ⟨n1, n2⟩ := hk a ha hlt
  exact ⟨a, ha, ee'.cell (by rw [add_block]; exact n2) (ee.cell (by rw [add_block]; exact n1) (e1.cell_of hc))⟩

theorem greatL_nonneg {xs : List Nat} (h : ∀ x ∈ xs, fin x) : fin (greatL 0 xs) ∧ 0 ≤ fval (greatL 0 xs) ∧ (∀ x ∈ xs, key x ≤ key (greatL 0 xs)) := by
  obtain ⟨h1, h2, h3, _⟩ := greatL_spec xs 0 (by decide) h
  refine ⟨h1, ?_, h3⟩
  have := fval_le h2
  have e : fval 0 = 0 := by decide +kernel
  rwa [e] at this

theorem straightedgelaw19_GrowthNear.ct {p : Option Addr} {c : Nat} {off rows cols ld : Int} {xs : List Nat} {w : World} {K : Value → World → Prop} (hx : Flw w p xs) (hn : xs.length < 4611686018427387904)
    (ho : I64 off) (hr : I64 rows) (hc : I64 cols) (hl : I64 ld) (h : ∀ w', Ext w w' → K (.bool true) w') : straightedgelaw19_GrowthNear.call [matV p xs.length c off rows cols ld] w K := by
  refine straightedgelaw19_GrowthNear.os 2 ?_
  unfold straightedgelaw19_GrowthNear.s
  intro k3 w2 hk3 _ e2
  refine straightedgelaw19_awake.ct fun w6 e6 => ⟨.inl e6, _, rfl, br_false rfl ?_⟩
  have e06 := e2.trans e6
  refine straightedgeref03_Great.ct fun w16 e16 => ⟨.inl e16, _, rfl, ?_⟩
  have e016 := e06.trans e16
  refine br_d (fun _ => straightedgelaw19_awake.ct fun w19 e19 => ⟨.inl e19, _, rfl, h _ (e016.trans e19)⟩) fun hg => ?_
  refine straightedgeref03_Good.ct hn ho hr hc hl fun w33 e33 => ⟨.inl e33, _, rfl, ?_⟩
  have e033 := e016.trans e33
  unfold goodB
  refine br_n (fun hb => straightedgelaw19_awake.ct fun w36 e36 => ⟨.inl e36, _, rfl, h _ (e033.trans e36)⟩) fun hb => ?_
  have g := of_decide_eq_true hb
  clear hb
  obtain ⟨r, rfl⟩ : ∃ r : Nat, rows = r := ⟨rows.toNat, by have := g.1; omega⟩
  obtain ⟨s, rfl⟩ : ∃ s : Nat, cols = s := ⟨cols.toNat, by have := g.2.1; omega⟩
  have hrs : r * s ≤ 400 := by
    have := Nat.mul_le_mul (show r ≤ 20 by omega) (show s ≤ 20 by omega)
    omega
  refine straightedgeref03_Of.ct (hx.ext e033) hn g ho hl (by omega) (by omega) fun q ms w46 hq e46 hbm lm vm => ⟨.inl e46, _, _, _, _, _, rfl, ?_⟩
  have e046 := e033.trans e46
  refine straightedgeref01_Finite.ct ⟨lm, hbm.flw.at_⟩ hbm.bits (by omega) ⟨.inl (Ext.refl _), _, rfl, br_n (fun hb => straightedgelaw19_awake.ct fun w56 e56 => ⟨.inl e56, _, rfl, h _ (e046.trans e56)⟩) fun hfin => ?_⟩
  by_cases hsq : r = s
  case neg =>
    refine lu_Factor.ct_size hn g ho hr hc hl (by omega) fun w66 e66 => ⟨.inl e66, _, _, _, _, _, _, _, _, _, _, _, _, rfl, ?_⟩
    intro k81 w80 hk81 _ e80 w83 e83
    have s2 := e046.size
    have s66 := e66.size
    have s80 := e80.size
    have e083 : Ext w w83 := e83.ext ((e046.trans e66).trans e80) (by omega)
    exact br_ne (fun _ => straightedgelaw19_awake.ct fun w88 e88 => ⟨.inl e88, _, rfl, h _ (e083.trans e88)⟩) fun hh => absurd hh (by omega)
  subst hsq
  refine lu_Factor.ct (hx.ext e046) hn g ho hl (by omega) ?_ ?_
  case refine_2 =>
    intro w66 k A piv e66 hk hf hz
    refine ⟨.inl e66, _, _, _, _, _, _, _, _, _, _, _, _, rfl, ?_⟩
    intro k81 w80 hk81 _ e80 w83 e83
    have s2 := e046.size
    have s66 := e66.size
    have s80 := e80.size
    have e083 : Ext w w83 := e83.ext ((e046.trans e66).trans e80) (by omega)
    exact br_ne (fun _ => straightedgelaw19_awake.ct fun w88 e88 => ⟨.inl e88, _, rfl, h _ (e083.trans e88)⟩) fun hh => absurd hh (by omega)
  intro w66 qf ys piv pp cc base e66 hqf hqb hby hly hfac hown
  refine ⟨.inl e66, _, _, _, _, _, _, _, _, _, _, _, _, rfl, ?_⟩
  intro k81 w80 hk81 hk81' e80 w83 e83
  have s2 := e046.size
  have s66 := e66.size
  have s80 := e80.size
  have s83 := e83.size
  have hltq := hby.lt
  have e083 : Ext w w83 := e83.ext ((e046.trans e66).trans e80) (by omega)
  have hb83 := (hby.ext e80).exc e83 (by omega)
  have own83 := (hown.ext e80).exc e83 (fun a ha => by have := (hown.lt ha).2; omega)
  have hrr : r * r ≤ 400 := hrs
  have gl : GoodM ys.length 0 r r ((max r 1 : Nat) : Int) := by
    refine ⟨by omega, by omega, by omega, by omega, by omega, ?_⟩
    by_cases h0 : r = 0
    · left; omega
    · right; right
      have hkn := mx_lt (n := r) (m := r) (i := r - 1) (j := r - 1) (by omega) (by omega)
      have e1 : ((r : Int) - 1) * ((max r 1 : Nat) : Int) = (((r - 1) * r : Nat) : Int) := by rw [Int.natCast_mul, show max r 1 = r by omega]; congr 1; omega
      rw [e1, hly]
      omega
  refine br_ne (fun hh => absurd rfl hh) fun _ => ?_
  refine straightedgeref03_Good.ct (by omega) (by unfold I64; omega) (by unfold I64; omega) (by unfold I64; omega) (by unfold I64; omega) fun w98 e98 => ⟨.inl e98, _, rfl, ?_⟩
  rw [good_yes gl]
  refine br_false rfl (br_ne (fun hh => absurd rfl hh) fun _ => br_ne (fun hh => absurd rfl hh) fun _ => ?_)
  have hpl : piv.length = r := Fac.len hfac
  have hpv := fac_piv hfac
  have pok : PivOk piv := fun k hk => by rw [hpl]; exact hpv k (by omega)
  have hmapp : (piv.map fun (x : Nat) => (.int .i64 (x : Int) : Value)) = ((piv.map fun (x : Nat) => (x : Int)).map fun x => .int .i64 x) := by simp
  rw [hmapp] at own83
  refine straightedgeref03_Of.ct (hb83.ext e98).flw (by omega) gl (by unfold I64; omega) (by unfold I64; omega) (by omega) (by omega) fun qz zs w122 hqz e122 hbz lz vz => ⟨.inl e122, _, _, _, _, _, rfl, ?_⟩
  intro k130 w129 hk130 hk130' e129 w132 e132
  have s98 := e98.size
  have s122 := e122.size
  have s129 := e129.size
  have s132 := e132.size
  have hltz := hbz.lt
  have e0132 : Ext w w132 := e132.ext (((e083.trans e98).trans e122).trans e129) (by omega)
  have hbz132 := (hbz.ext e129).exc e132 (by omega)
  have e83129 := (e98.trans e122).trans e129
  have own132 := (own83.ext e83129).exc e132 (fun a ha => by have := (own83.lt ha).2; omega)
  have hb132 := (hb83.ext e83129).exc e132 (by have := hb83.lt; omega)
  have vz' : ∀ i j, i < r → j < r → tb r zs i j = matF ys 0 ((max r 1 : Nat) : Int) i j := vz
  have vm' : ∀ i j, i < r → j < r → tb r ms i j = matF xs off ld i j := vm
  have finM0 := all_finT lm hfin
  have finX : ∀ y ∈ mostL r (fun _ => r) (matF xs off ld), fin y := by
    intro y hy
    obtain ⟨j, i, hj, hi, rfl⟩ := mostL_mem.1 hy
    rw [fin_rung, ← vm' i j hi hj]
    exact finM0 i j hi hj
  refine growth_Growth.ct (hx.ext e0132) hn hb132.flw (by omega) g gl ho hl (by unfold I64; omega) (by unfold I64; omega) (by omega) own132.ints pok (fun y hy => fin_not_nan (finX y hy)) fun w134 x e134 hxb hzero hquo => ⟨.inl e134, _, _, rfl, ?_⟩
  refine br_ne (fun hh => absurd rfl hh) fun _ => ?_
  refine newB_heap fun q140 w141 hq140 hs141 e141 ho140 hsp140 hh140 => ?_
  have own140 := own1 (x := x) hq140 ho140 hsp140 hh140
  have s134 := e134.size
  have hbz141 := (hbz132.ext e134).ext e141
  have hltz' := hbz132.lt
  refine app_m (t := 22) (e := tF) (base := w134.heap.size) (news := zs.map fun x => .float .f64 x) tFs_is tF_is tF_zero tF_size1 tF_bytes rfl own140 (by omega) (by simp [lz]) ?_ ?_ (by omega) (by omega) (by omega) ?_ fun lp lc w146 g146 own146 lwh => ?_
  · intro j u hu
    simp only [List.getElem?_map, Option.map_eq_some_iff] at hu
    obtain ⟨y, hy, rfl⟩ := hu
    obtain ⟨a, ha, hca⟩ := hbz141.flw.at_ j y hy
    cases ha
    exact hca
  · intro u hu
    obtain ⟨y, _, rfl⟩ := List.mem_map.1 hu
    rfl
  · intro k hk
    simp at hk
    have e046s := e046.size
    have e2s := e2.size
    rcases hk with rfl | rfl | rfl
    all_goals exact ⟨by omega, fun a ha => by cases ha; omega⟩
  have e0134 := e0132.trans e134
  have e0146 : Ext w w146 := g146.ext (e0134.trans e141) (fun a ha => by cases ha; have := e0134.size; omega)
  rw [← List.map_append] at own146
  have hbits : ∀ y ∈ [x] ++ zs, y < 18446744073709551616 := by
    intro y hy
    rcases List.mem_append.1 hy with hy | hy
    · simp at hy; subst hy; exact hxb
    · exact hbz.bits y hy
  have hlz := own146.len
  simp only [List.length_map, List.length_append, List.length_cons, List.length_nil] at hlz
  refine straightedgeref01_Finite.ct ⟨by simp; omega, (own146.flw hbits).at_⟩ hbits (by omega) ⟨.inl (Ext.refl _), _, rfl, br_n (fun hb => eq_true' rfl (straightedgelaw19_awake.ct fun w155 e155 => ⟨.inl e155, _, rfl, h _ (e0146.trans e155)⟩)) fun hfa => ?_⟩
  rw [List.all_append, Bool.and_eq_true] at hfa
  obtain ⟨hfx, hfz⟩ := hfa
  have hfx' : fin x := by simpa [finB] using hfx
  have finF := all_finT lz hfz
  have finY : ∀ y ∈ mostL r (fun j => j + 1) (matF ys 0 ((max r 1 : Nat) : Int)), fin y := by
    intro y hy
    obtain ⟨j, i, hj, hi, rfl⟩ := mostL_mem.1 hy
    rw [fin_rung, ← vz' i j (by omega) hj]
    exact finF i j (by omega) hj
  obtain ⟨fS, nS, mS⟩ := greatL_nonneg finX
  obtain ⟨fM, nM, mM⟩ := greatL_nonneg finY
  have bS : greatL 0 (mostL r (fun _ => r) (matF xs off ld)) < 18446744073709551616 := greatL_lt (by omega) mostL_bits
  have bM : greatL 0 (mostL r (fun j => j + 1) (matF ys 0 ((max r 1 : Nat) : Int))) < 18446744073709551616 := greatL_lt (by omega) mostL_bits
  have sd : w146.drew.heap.size = w146.heap.size := rfl
  have s146 := g146.size
  have hb146 : FBlk w146 qz zs := g146.fblk hbz141 (fun a ha => by cases ha; omega)
  intro w171 e171
  have e0171 := (e0146.trans (Ext.drew w146)).trans e171
  refine straightedgeref03_Of.ct (hx.ext e0171) hn g ho hl (by omega) (by omega) fun qm2 ms2 w173 hq2 e173 hbm2 lm2 vm2 => ⟨e173, _, _, _, _, _, rfl, ?_⟩
  intro w179 e179
  have vm2' : ∀ i j, i < r → j < r → tb r ms2 i j = matF xs off ld i j := vm2
  have eS : mostL r (fun j => if false then j + 1 else r) (tb r ms2) = mostL r (fun _ => r) (matF xs off ld) := by
    show mostL r (fun _ => r) (tb r ms2) = _
    exact mostL_congr fun j i hj hi => vm2' i j hi hj
  refine straightedgeref19_Most.ct (up := false) (hbm2.ext e179).flw lm2 lm2 (by omega) (by rw [eS]; exact fun y hy => fin_not_nan (finX y hy)) fun w181 e181 => ⟨e181, _, rfl, ?_⟩
  rw [eS]
  intro w183 e183
  refine straightedgeref02_Of.ct bS fS fun w185 b1' p1 n1 c1 f1 e185 d1 fr1 => ⟨e185, _, _, _, _, _, rfl, ?_⟩
  intro w191 e191
  have e171191 := ((((e173.trans e179).trans e181).trans e183).trans e185).trans e191
  have eM : mostL r (fun j => if true then j + 1 else r) (tb r zs) = mostL r (fun j => j + 1) (matF ys 0 ((max r 1 : Nat) : Int)) := by
    show mostL r (fun j => j + 1) (tb r zs) = _
    exact mostL_congr fun j i hj hi => vz' i j (by omega) hj
  have hbz191 := hb146.ext (((Ext.drew w146).trans e171).trans e171191)
  refine straightedgeref19_Most.ct (up := true) hbz191.flw lz lz (by omega) (by rw [eM]; exact fun y hy => fin_not_nan (finY y hy)) fun w193 e193 => ⟨e193, _, rfl, ?_⟩
  rw [eM]
  intro w195 e195
  refine straightedgeref02_Of.ct bM fM fun w197 b2' p2 n2 c2 f2 e197 d2 fr2 => ⟨e197, _, _, _, _, _, rfl, ?_⟩
  intro w203 e203 k205 hk205 hk205' y1 y2 y3 y4 y5 k208 hk208 hk208' z1 z2 z3 z4 z5 hne w210 x210 w211 x211
  have t171 := e171.size
  have t173 := e173.size
  have t179 := e179.size
  have t181 := e181.size
  have t183 := e183.size
  have t185 := e185.size
  have t191 := e191.size
  have t193 := e193.size
  have t195 := e195.size
  have t197 := e197.size
  have t203 := e203.size
  have t210 := x210.size
  have t0146 := e0146.size
  have e191203 := ((e193.trans e195).trans e197).trans e203
  have e0203 := (e0171.trans e171191).trans e191203
  have e0210 : Ext w w210 := x210.ext e0203 (by omega)
  have e0211 : Ext w w211 := x211.ext e0210 (by omega)
  have d1'' : DR w211 b1' p1 n1 f1 1100 (fval (greatL 0 (mostL r (fun _ => r) (matF xs off ld)))) := DR_exc3 d1 (e191.trans e191203) x210 x211 (fun a ha hlt => by have := fr1 a ha; omega)
  have d2'' : DR w211 b2' p2 n2 f2 1100 (fval (greatL 0 (mostL r (fun j => j + 1) (matF ys 0 ((max r 1 : Nat) : Int))))) := DR_exc3 d2 e203 x210 x211 (fun a ha hlt => by have := fr2 a ha; omega)
  have hSS : feq .f64 (greatL 0 (mostL r (fun _ => r) (matF xs off ld))) 0 = true ∨ feq .f64 (greatL 0 (mostL r (fun _ => r) (matF xs off ld))) 0 = false := by
    cases feq .f64 (greatL 0 (mostL r (fun _ => r) (matF xs off ld))) 0 <;> simp
  refine growth_tail (fu := 0) hxb hfx' d1'' d2'' ?_ fun w' e' => h _ (e0211.trans e')
  have key0 : key 0 = 0 := by decide
  rcases hSS with hS0 | hS0
  · have hx0 := hzero hS0
    subst hx0
    have f0 : fval 0 = 0 := by decide +kernel
    have hkS : key (greatL 0 (mostL r (fun _ => r) (matF xs off ld))) = 0 := by
      rw [feq_eq, key0] at hS0
      exact (of_decide_eq_true hS0).2.2
    have hr0 : r = 0 := by
      rcases Nat.eq_zero_or_pos r with h0 | hpos
      · exact h0
      exfalso
      obtain ⟨k, rfl⟩ : ∃ k, r = k + 1 := ⟨r - 1, by omega⟩
      obtain ⟨pv, hpv', hnz⟩ := fac_first hpos hfac
      have := mS (rung (matF xs off ld pv 0)) (mostL_mem.2 ⟨0, pv, hpos, hpv', rfl⟩)
      rw [hkS, key_rung] at this
      rw [rung_zero_eq (by omega)] at hnz
      cases hnz
    subst hr0
    have eM0 : greatL 0 (mostL 0 (fun j => j + 1) (matF ys 0 ((max 0 1 : Nat) : Int))) = 0 := rfl
    have eS0 : greatL 0 (mostL 0 (fun _ => 0) (matF xs off ld)) = 0 := rfl
    rw [eM0, eS0, f0]
    decide +kernel
  · have hq := hquo hS0 (fun y hy => fin_not_nan (finY y hy))
    have hrne : rung (greatL 0 (mostL r (fun _ => r) (matF xs off ld))) ≠ 0 := by
      intro e
      have := rung_zero_eq e
      rw [fne_eq, hS0] at this
      cases this
    refine growth_near hfx' hq fS hrne nM ?_
    exact Rat.lt_of_le_of_ne nS (fun e => fval_ne hrne e.symm)
end Go.Proofs.Ytgdkahbnepafgaa
