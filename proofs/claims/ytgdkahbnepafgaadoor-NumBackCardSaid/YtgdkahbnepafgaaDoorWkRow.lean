import Derived.Test.YtgdkahbnepafgaaDoorWkWord
import Derived.Laws.BytesString
import Derived.Laws.Cells
namespace Go.Wk
open Go Ieee Go.RowKit

theorem add_inj {a : Addr} {i j : Nat} (h : a.add i = a.add j) : i = j := by
  have := congrArg Addr.off h
  rw [add_off, add_off] at this
  omega

theorem Row.set {w : World} {a : Addr} {cs : List Value} (h : Row w a cs) (j : Nat) (v : Value) (hj : j < cs.length) : Row (w.setCell (a.add j) v) a (cs.set j v) where
  cell i u hu := by
    by_cases e : j = i
    · subst e
      rw [List.getElem?_set_self hj] at hu
      cases hu
      exact World.cell?_setCell_same _ _ _ (h.cell j cs[j] (by simp [hj]))
    · rw [List.getElem?_set_ne e] at hu
      rw [World.cell?_setCell_other _ _ _ _ (fun e' => e (add_inj e'))]
      exact h.cell i u hu
  free i hi := by
    rw [World.frozen?_setCell]
    exact h.free i (by simpa using hi)
  lt := by rw [World.size_setCell]; exact h.lt
  spot := h.spot

theorem Ext.set {w0 w : World} (h : Ext w0 w) {a : Addr} (ha : w0.heap.size ≤ a.block) (j : Nat) (v : Value) : Ext w0 (w.setCell (a.add j) v) :=
  Below.setCell h (by rw [add_block]; exact ha) v

/-- Another row stays where one is written. -/
theorem Row.apart {w : World} {a b : Addr} {cs : List Value} (h : Row w b cs) (hab : b.block ≠ a.block) (j : Nat) (v : Value) : Row (w.setCell (a.add j) v) b cs where
  cell i u hu := by
    have : a.add j ≠ b.add i := fun e => hab (by have := congrArg Addr.block e; rw [add_block, add_block] at this; exact this.symm)
    rw [World.cell?_setCell_other _ _ _ _ this]
    exact h.cell i u hu
  free i hi := by rw [World.frozen?_setCell]; exact h.free i hi
  lt := by rw [World.size_setCell]; exact h.lt
  spot := h.spot

def strOf (ns : List Int) : ByteArray := ns.foldl (fun r n => r.push (UInt8.ofNat n.toNat)) ByteArray.empty

theorem bytes_run {P : Program} {w : World} {a : Addr} {ns : List Int} (c : Nat) (h : ∀ j v, ns[j]? = some v → w.cell? (a.add j) = some (.int .u8 v)) :
    (Conv.bytesToString (.slice (some a) ns.length c)).run P w = .ok (.string (strOf ns)) w := by
  refine run_bytesToString w a ns.length c ns ?_
  have := run_loadCells_list (P := P) w a (ns.map (Value.int .u8)) (fun j v hv => by
    simp only [List.getElem?_map, Option.map_eq_some_iff] at hv
    obtain ⟨u, hu, rfl⟩ := hv
    exact h j u hu)
  simpa using this
end Go.Wk
