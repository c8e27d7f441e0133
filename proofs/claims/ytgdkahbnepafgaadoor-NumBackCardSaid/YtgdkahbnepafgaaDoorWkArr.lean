import Derived.Test.YtgdkahbnepafgaaDoorWkBits
namespace Go.Wk
open Go Ieee

theorem wrap_i64 {z : Int} (h1 : -9223372036854775808 ≤ z) (h2 : z < 9223372036854775808) : IntKind.i64.wrap z = z := by
  unfold IntKind.wrap
  simp [IntKind.bits, IntKind.signed]
  omega
theorem wrap_u64' {z : Int} (h1 : 0 ≤ z) (h2 : z < 18446744073709551616) : IntKind.u64.wrap z = z := by
  unfold IntKind.wrap
  simp [IntKind.bits, IntKind.signed]
  omega
theorem wrap_u64_mod (z : Int) : IntKind.u64.wrap z = z % 18446744073709551616 := by
  unfold IntKind.wrap
  simp [IntKind.bits, IntKind.signed]

/-- A slice of floats that reads as 'xs'. -/
structure Fls (w : World) (p : Option Addr) (n : Nat) (xs : List Nat) : Prop where
  len : xs.length = n
  at_ : ∀ i x, xs[i]? = some x → ∃ a, p = some a ∧ w.cell? (a.add i) = some (.float .f64 x)

theorem Fls.ext {w w' : World} {p : Option Addr} {n : Nat} {xs : List Nat} (h : Fls w p n xs) (e : Ext w w') : Fls w' p n xs :=
  ⟨h.len, fun i x hx => let ⟨a, ha, hc⟩ := h.at_ i x hx; ⟨a, ha, e.cell_of hc⟩⟩

theorem Fls.of_row {w : World} {q : Addr} {xs : List Nat} (h : Row w q (xs.map fun x => .float .f64 x)) : Fls w (some q) xs.length xs :=
  ⟨rfl, fun i x hx => ⟨q, rfl, h.get i (by simp [hx])⟩⟩

theorem Fls.nil {w : World} {p : Option Addr} : Fls w p 0 [] := ⟨rfl, fun i x hx => by simp at hx⟩

theorem ptrSome_intro {p : Option Addr} {k : Addr → Prop} {a : Addr} (hp : p = some a) (h : k a) : ptrSome p k := by
  subst hp; exact h

/-- A bounded loop's rounds: 'd' rounds are left. -/
theorem br_true {b : Bool} {x y : Prop} (hb : b = true) (h : x) : br b x y := by rw [hb]; exact h
theorem br_false {b : Bool} {x y : Prop} (hb : b = false) (h : y) : br b x y := by rw [hb]; exact h
theorem dec_true {c : Prop} [Decidable c] {x y : Prop} (hc : c) (h : x) : br (decide c) x y := br_true (decide_eq_true hc) h
theorem dec_false {c : Prop} [Decidable c] {x y : Prop} (hc : ¬ c) (h : y) : br (decide c) x y := br_false (decide_eq_false hc) h
end Go.Wk
