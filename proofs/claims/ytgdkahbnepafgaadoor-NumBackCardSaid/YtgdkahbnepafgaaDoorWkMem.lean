import Derived.Test.YtgdkahbnepafgaaDoorWkCut
namespace Go.Wk
open Go Go.RowKit

/-! ### worlds that only grew -/
/-- All that was there is as it was. -/
abbrev Ext (w w' : World) : Prop := Below w.heap.size w w'
theorem Ext.refl (w : World) : Ext w w := Below.refl _ _
theorem Ext.trans {a b c : World} (h : Ext a b) (k : Ext b c) : Ext a c := Below.trans h (k.mono h.size)
theorem Ext.cell {w w' : World} (h : Ext w w') {a : Addr} (ha : a.block < w.heap.size) : w'.cell? a = w.cell? a := Below.cell h ha
theorem Ext.frozen {w w' : World} (h : Ext w w') {a : Addr} (ha : a.block < w.heap.size) : w'.frozen? a = w.frozen? a := Below.frozen h ha
theorem Ext.cell_of {w w' : World} (h : Ext w w') {a : Addr} {v : Value} (hv : w.cell? a = some v) : w'.cell? a = some v := by
  rw [h.cell (World.block_lt_of_cell? _ _ hv), hv]
theorem Ext.kept {w w' : World} (h : Ext w w') : Kept w w' := fun _ _ hv => h.cell_of hv
theorem Ext.drew (w : World) : Ext w w.drew := Below.drew (Below.refl _ _)
theorem Ext.alloc (w : World) (o : Obj) : Ext w (w.alloc o) := Below.alloc (Below.refl _ _) (Nat.le_refl _) o

theorem add_block (a : Addr) (n : Nat) : (a.add n).block = a.block := by unfold Addr.add; split <;> rfl
theorem add_off (a : Addr) (n : Nat) : (a.add n).off = a.off + n := by
  unfold Addr.add; split
  · omega
  · rfl
theorem add_spot {a : Addr} (h : a.spot = none) (n : Nat) : (a.add n).spot = none := by
  unfold Addr.add; split
  · exact h
  · rfl
theorem add_add {a : Addr} (m n : Nat) : (a.add m).add n = a.add (m + n) := by
  unfold Addr.add
  by_cases hn : n = 0
  · simp [hn]
  · by_cases hm : m = 0
    · simp [hm, hn]
    · simp [hm, hn, Nat.add_assoc]
theorem add_zero (a : Addr) : a.add 0 = a := rfl

/-- 'cs' stands at 'a', and may be written. -/
structure Row (w : World) (a : Addr) (cs : List Value) : Prop where
  cell : ∀ j v, cs[j]? = some v → w.cell? (a.add j) = some v
  free : ∀ j, j < cs.length → w.frozen? (a.add j) = false
  lt : a.block < w.heap.size
  spot : a.spot = none

theorem Row.ext {w w' : World} {a : Addr} {cs : List Value} (h : Row w a cs) (e : Ext w w') : Row w' a cs where
  cell j v hv := e.cell_of (h.cell j v hv)
  free j hj := by rw [e.frozen (by rw [add_block]; exact h.lt)]; exact h.free j hj
  lt := Nat.lt_of_lt_of_le h.lt e.size
  spot := h.spot

theorem Row.get {w : World} {a : Addr} {cs : List Value} (h : Row w a cs) (j : Nat) {v : Value} (hv : cs[j]? = some v) : w.cell? (a.add j) = some v := h.cell j v hv
theorem Row.get0 {w : World} {a : Addr} {cs : List Value} (h : Row w a cs) {v : Value} (hv : cs[0]? = some v) : w.cell? a = some v := h.cell 0 v hv

/-- A new block: where it is, what it holds; all else is as it was. -/
theorem newB_intro {cs : List Value} {ty : TypeId} {w : World} {k : Addr → World → Prop}
    (h : ∀ q w', q.block = w.heap.size → q.off = 0 → Ext w w' → Row w' q cs → w'.heap.size = w.heap.size + 1 → w'.heap[q.block]? = some (.cells ⟨cs⟩ ty) → k q w') :
    newB cs ty w k := by
  refine h ⟨w.heap.size, 0, none⟩ _ rfl rfl (Ext.alloc w _) ⟨fun j v hv => ?_, fun j hj => ?_, by simp, rfl⟩ (by simp) (by show (w.heap.push _)[w.heap.size]? = _; simp)
  · have : (⟨w.heap.size, 0, none⟩ : Addr).add j = ⟨w.heap.size, j, none⟩ := by
      unfold Addr.add; split <;> simp_all
    rw [this, World.cell?_alloc_new]
    simpa using hv
  · have : (⟨w.heap.size, 0, none⟩ : Addr).add j = ⟨w.heap.size, j, none⟩ := by
      unfold Addr.add; split <;> simp_all
    rw [this, World.frozen?_alloc_new]

/-- A call of a function without a Go body. -/
theorem CallF_of_value {P : Program} {f : FuncId} {args : List Value} {w w' : World} {k : Value → World → Prop} {v : Value}
    (hf : (callFunc f ⟨args⟩).run P w = .ok (.value v) w') (h : k v w') : CallF P f args w k := by
  unfold CallF
  rw [hf]
  exact h
end Go.Wk
