import Derived.Test.YtgdkahbnepafgaaDoorWkPost
import Derived.Test.YtgdkahbnepafgaaDoorKawake
import Derived.Test.YtgdkahbnepafgaaDoorTie
import Derived.Test.YtgdkahbnepafgaaDoorCards
import Derived.SevenTiedAt
set_option maxRecDepth 100000
set_option linter.unusedVariables false
namespace Go.Proofs.YtgdkahbnepafgaaDoor
open Go Go.Wk Go.ChangeShapes Go.WideShapes Go.RowKit

theorem ownD : ownKnob Tryd.prog.godebug = none := by kernel_rfl
theorem laidOutD : laidOutB Tryd.prog = true := by kernel_rfl

/-- What the cards over the number laws list. -/
abbrev laid3 : List (String × DataW Unit) := [("math/bits.deBruijn32tab", Rows.laid_math_bits_deBruijn32tab), ("math/bits.deBruijn64tab", Rows.laid_math_bits_deBruijn64tab), ("internal/strconv.uint64pow10", Rows.laid_internal_strconv_uint64pow10)]

theorem g64 : Tryd.prog.globalNamed "math/bits.deBruijn64tab" = some 4 := by kernel_rfl
theorem g64ty : ∃ t, (Tryd.prog.globals[4]?).map (·.type) = some t ∧ Tryd.prog.underlying t = some (.array 64 5) ∧ Tryd.prog.cellsOf 5 = 1 ∧ Tryd.prog.underlying 5 = some (.int .u8) := by
  exact ⟨190, by kernel_rfl, by kernel_rfl, by kernel_rfl, by kernel_rfl⟩

theorem door3_met (os : Os) (args : Array Value) : laidMetH Tryd.prog laid3 ((World.doorLaid Tryd.prog 24 os).forCall (fun _ _ => 0) ⟨#[], args, []⟩).memory :=
  laidMetH_of_parts3 (fuel := 8) (laidMet_of_run' 8 (by kernel_rfl) (by kernel_rfl)) (by kernel_rfl) (by kernel_rfl)

theorem T4_of_laid3 {W : World} (h : laidMetH Tryd.prog laid3 W) : T4 W := by
  rw [MakeChecks.laidMetH_plain _ _ _ (by kernel_rfl)] at h
  obtain ⟨ps, ⟨g0, t0, cs0, f0, p0, q0, hg0, ht0, hv0, hd0, ⟨g1, t1, cs1, f1, p1, q1, hg1, ht1, hv1, hd1, _, _⟩, _⟩, _, _⟩ := h
  obtain rfl := Option.some.inj (g64.symm.trans hg1)
  obtain ⟨t, e1, e2, e3, e4⟩ := g64ty
  obtain rfl := Option.some.inj (e1.symm.trans ht1)
  obtain ⟨xs, m1, rfl, hx1, hlen, hn3, hel⟩ := DataW.trod_array e2 hd1
  have h0 := hel 15 (by decide)
  rw [e3] at h0
  have hx15 : xs[15]? = some xs[15] := by simp [hn3]
  rw [hx15] at h0
  obtain ⟨k, c1, c2, _⟩ := DataW.trod_int e4 h0
  simp only [Prod.mk.injEq, Rows.laid_math_bits_deBruijn64tab, DataW.agg.injEq] at hx1
  have hk := congrArg (fun l => l[15]?) hx1.1
  simp only [List.getElem?_map, hx15, Option.map_some, c2] at hk
  have hk4 : k = 4 := by
    have := Option.some.inj hk
    injection this with a
    injection a with _ b
    exact b.symm
  subst hk4
  have hcell := World.var?_cell hg1 hv1 15
  show W.cell? ⟨4, 15, none⟩ = _
  rw [hcell]
  have : (cs1.toList.drop (15 * 1)).take 1 = [.int .u8 4] := c1
  have h2 := congrArg (fun l => l[0]?) this
  simpa using h2
end Go.Proofs.YtgdkahbnepafgaaDoor
