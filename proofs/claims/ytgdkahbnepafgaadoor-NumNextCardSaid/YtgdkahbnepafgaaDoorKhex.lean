import Derived.Test.YtgdkahbnepafgaaDoorWkRow
import Derived.Test.YtgdkahbnepafgaaDoorKmake2
import Derived.Test.YtgdkahbnepafgaaDoorGstrconv
import Derived.Test.YtgdkahbnepafgaaDoorGistrconv
import Derived.Test.YtgdkahbnepafgaaDoorGstrings
import Derived.Test.YtgdkahbnepafgaaDoorGlaw01
import Derived.Test.YtgdkahbnepafgaaDoorGbits
set_option maxRecDepth 100000
set_option linter.unusedVariables false
namespace Go.Proofs.YtgdkahbnepafgaaDoor
open Go Go.Wk Ieee
attribute [local irreducible] br

abbrev digs : ByteArray := ⟨#[48, 49, 50, 51, 52, 53, 54, 55, 56, 57, 97, 98, 99, 100, 101, 102, 103, 104, 105, 106, 107, 108, 109, 110, 111, 112, 113, 114, 115, 116, 117, 118, 119, 120, 121, 122]⟩
def dg (n : Nat) : UInt8 := digs.data.toList.getD n 0
theorem dg_get {n : Nat} (h : n < 36) : digs.data.toList[n]? = some (dg n) := by
  have hl : n < digs.data.toList.length := h
  unfold dg
  rw [List.getElem?_eq_getElem hl, List.getD_eq_getElem?_getD, List.getElem?_eq_getElem hl]
  rfl

theorem bytes_conv (a : Addr) (n c : Nat) (w : World) : (convert 115 9 (.slice (some a) n c)).run prog w = (Conv.bytesToString (.slice (some a) n c)).run prog w := by kernel_rfl

/-- The digits of 'z', ahead of 'acc'. -/
def hexD : Nat → Nat → List Int → List Int
  | 0, _, acc => acc
  | d + 1, z, acc => if z < 16 then ((dg z).toNat : Int) :: acc else hexD d (z / 16) (((dg (z % 16)).toNat : Int) :: acc)

theorem fmt0 (K : Value → World → Prop) (q : Addr) (w0 : World) (hq : w0.heap.size ≤ q.block) (fu z : Nat) (acc : List Int) (cs : List Value) (w : World) (n c : Nat) (hz16 : z < 16)
    (hlen : acc.length + 1 ≤ 65) (hrow : Row w q cs) (hcs : cs.length = 65) (hext : Ext w0 w)
    (hacc : ∀ j v, acc[j]? = some v → cs[65 - acc.length + j]? = some (.int .u8 v))
    (hK : ∀ w', Ext w0 w' → K (.tuple ⟨[.slice none 0 0, .string (strOf (((dg z).toNat : Int) :: acc))]⟩) w') :
    (strconv_formatBits.H K (fu + 1)).1 none n c (z : Int) false false none 0 0 ⟨#[]⟩ (some q) ((65 - acc.length : Nat) : Int) 4 16 15 w := by
  show strconv_formatBits.b11 K (strconv_formatBits.H K fu).1 (strconv_formatBits.H K fu).2 _ _ _ _ _ _ _ _ _ _ _ _ _ _ _ _
  unfold strconv_formatBits.b11
  have hw : IntKind.i64.wrap (((65 - acc.length : Nat) : Int) - 1) = ((64 - acc.length : Nat) : Int) := by rw [wrap_i64 (by omega) (by omega)]; omega
  rw [hw]
  refine dec_false (by omega) ⟨by omega, dg z, by rw [Int.toNat_natCast]; exact dg_get (by omega), ptrSome_intro rfl ⟨by omega, by omega, ?_, ?_, ?_⟩⟩
  · rw [Int.toNat_natCast, hrow.cell (64 - acc.length) cs[64 - acc.length] (by simp)]; rfl
  · rw [Int.toNat_natCast]; exact hrow.free _ (by omega)
  refine br_false rfl (br_false rfl (ptrSome_intro rfl ⟨by omega, by omega, ?_⟩))
  rw [Int.toNat_natCast]
  have hr2 := hrow.set (64 - acc.length) (.int .u8 ((dg z).toNat : Int)) (by omega)
  have he2 := hext.set hq (64 - acc.length) (.int .u8 ((dg z).toNat : Int))
  generalize w.setCell (q.add (64 - acc.length)) (.int .u8 ((dg z).toNat : Int)) = w2 at *
  rw [if_neg (by omega)]
  show Raw prog (convert 115 9 (.slice (some (q.add ((64 - acc.length) * 1))) _ _)) w2 _
  unfold Raw
  rw [bytes_conv, Nat.mul_one]
  have hl : 65 - (64 - acc.length) = (((dg z).toNat : Int) :: acc).length := by simp; omega
  rw [hl, bytes_run]
  · refine ⟨_, rfl, ?_⟩
    exact hK w2 he2
  · intro j v hj
    rw [add_add]
    refine hr2.cell _ _ ?_
    cases j with
    | zero =>
      simp at hj
      subst hj
      rw [Nat.add_zero, List.getElem?_set_self (by omega)]
    | succ j =>
      simp at hj
      rw [List.getElem?_set_ne (by omega)]
      have := hacc j v hj
      rw [← this]; congr 1; omega

theorem fmt (K : Value → World → Prop) (q : Addr) (w0 : World) (hq : w0.heap.size ≤ q.block) :
    ∀ (d fu z : Nat) (acc : List Int) (cs : List Value) (w : World) (n c : Nat), z < 16 ^ (d + 1) → z < 18446744073709551616 → d < fu → acc.length + d + 1 ≤ 65 → Row w q cs → cs.length = 65 → Ext w0 w →
      (∀ j v, acc[j]? = some v → cs[65 - acc.length + j]? = some (.int .u8 v)) →
      (∀ w', Ext w0 w' → K (.tuple ⟨[.slice none 0 0, .string (strOf (hexD (d + 1) z acc))]⟩) w') →
      (strconv_formatBits.H K fu).1 none n c (z : Int) false false none 0 0 ⟨#[]⟩ (some q) ((65 - acc.length : Nat) : Int) 4 16 15 w := by
  intro d
  induction d with
  | zero =>
    intro fu z acc cs w n c hz hz2 hfu hlen hrow hcs hext hacc hK
    obtain ⟨fu, rfl⟩ : ∃ m, fu = m + 1 := ⟨fu - 1, by omega⟩
    have hz16 : z < 16 := by simpa using hz
    refine fmt0 K q w0 hq fu z acc cs w n c hz16 (by omega) hrow hcs hext hacc fun w' he => ?_
    have := hK w' he
    unfold hexD at this
    rwa [if_pos hz16] at this
  | succ d ih =>
    intro fu z acc cs w n c hz hz2 hfu hlen hrow hcs hext hacc hK
    obtain ⟨fu, rfl⟩ : ∃ m, fu = m + 1 := ⟨fu - 1, by omega⟩
    by_cases hz16 : z < 16
    · -- the last digit
      refine fmt0 K q w0 hq fu z acc cs w n c hz16 (by omega) hrow hcs hext hacc fun w' he => ?_
      have := hK w' he
      unfold hexD at this
      rwa [if_pos hz16] at this
    · show strconv_formatBits.b11 K (strconv_formatBits.H K fu).1 (strconv_formatBits.H K fu).2 _ _ _ _ _ _ _ _ _ _ _ _ _ _ _ _
      unfold strconv_formatBits.b11
      have hw : IntKind.i64.wrap (((65 - acc.length : Nat) : Int) - 1) = ((64 - acc.length : Nat) : Int) := by rw [wrap_i64 (by omega) (by omega)]; omega
      have hb : bits .and .u64 (z : Int) 15 = ((z % 16 : Nat) : Int) := by
        have := bits_and_nat hz2 (y := 15) (by decide)
        rw [show ((15 : Nat) : Int) = 15 from rfl] at this
        rw [this, show (15 : Nat) = 2 ^ 4 - 1 from rfl, and_low]
      have hf : Int.fdiv (z : Int) (2 ^ (shiftN .u64 4)) = ((z / 16 : Nat) : Int) := by
        rw [show shiftN .u64 4 = 4 from rfl, Int.fdiv_eq_ediv_of_nonneg _ (by decide)]; rfl
      rw [hw, hb, hf]
      refine dec_true (by omega) ⟨by omega, dg (z % 16), by rw [Int.toNat_natCast]; exact dg_get (by omega), ptrSome_intro rfl ⟨by omega, by omega, ?_, ?_, ?_⟩⟩
      · rw [Int.toNat_natCast, hrow.cell (64 - acc.length) cs[64 - acc.length] (by simp)]; rfl
      · rw [Int.toNat_natCast]; exact hrow.free _ (by omega)
      refine br_false rfl ?_
      rw [Int.toNat_natCast]
      have hr2 := hrow.set (64 - acc.length) (.int .u8 ((dg (z % 16)).toNat : Int)) (by omega)
      have he2 := hext.set hq (64 - acc.length) (.int .u8 ((dg (z % 16)).toNat : Int))
      generalize w.setCell (q.add (64 - acc.length)) (.int .u8 ((dg (z % 16)).toNat : Int)) = w2 at *
      have hl : (64 - acc.length) = 65 - (((dg (z % 16)).toNat : Int) :: acc).length := by simp
      rw [hl]
      refine ih fu (z / 16) _ _ w2 n c ?_ (by omega) (by omega) (by simp; omega) hr2 (by simp [hcs]) he2 ?_ ?_
      · rw [Nat.pow_succ] at hz
        omega
      · intro j v hj
        cases j with
        | zero =>
          simp at hj
          subst hj
          rw [Nat.add_zero, ← hl, List.getElem?_set_self (by omega)]
        | succ j =>
          simp at hj
          rw [List.getElem?_set_ne (by simp)]
          have := hacc j v hj
          rw [← this]; congr 1; simp; omega
      · intro w' he
        have := hK w' he
        unfold hexD at this
        rw [if_neg hz16] at this
        exact this
end Go.Proofs.YtgdkahbnepafgaaDoor
