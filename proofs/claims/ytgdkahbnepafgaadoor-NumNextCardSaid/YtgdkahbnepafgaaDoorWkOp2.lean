import Derived.Test.YtgdkahbnepafgaaDoorWkOps
namespace Go.Wk
open Go

/-! ### building -/
def setAt (cells : List Value) (off : Nat) : List Value → List Value
  | [] => cells
  | v :: r => setAt (cells.set off v) (off + 1) r

def fillL (place : Nat → Option (Nat × Nat)) (cells : List Value) : List (Nat × Value) → Option (List Value)
  | [] => some cells
  | (i, v) :: rest =>
    match place i with
    | none => none
    | some (off, size) =>
      match (cellsL v).length == size && decide (off + (cellsL v).length ≤ cells.length) with
      | true => fillL place (setAt cells off (cellsL v)) rest
      | false => none

theorem setAt_foldl (off : Nat) : ∀ (vs cells : List Value) (n : Nat),
    (vs.zipIdx n).foldl (fun (cs : Array Value) (x : Value × Nat) => cs.setIfInBounds (off + x.2) x.1) ⟨cells⟩ = ⟨setAt cells (off + n) vs⟩
  | [], _, _ => rfl
  | v :: r, cells, n => by
    simp only [List.zipIdx_cons, List.foldl_cons, setAt]
    have := setAt_foldl off r (cells.set (off + n) v) (n + 1)
    simpa [Nat.add_assoc] using this

theorem fill_eq (place : Nat → Option (Nat × Nat)) : ∀ (parts : List (Nat × Value)) (cells : List Value),
    Instr.fill place ⟨cells⟩ parts = (fillL place cells parts).map Array.mk
  | [], cells => rfl
  | (i, v) :: rest, cells => by
    unfold Instr.fill fillL
    cases hp : place i with
    | none => rfl
    | some x =>
      obtain ⟨off, size⟩ := x
      have hsz : v.cells.size = (cellsL v).length := by rw [← cellsL_eq]; simp
      have hf : v.cells.zipIdx.foldl (fun cs x => match x with | (c, j) => cs.setIfInBounds (off + j) c) (⟨cells⟩ : Array Value) = ⟨setAt cells off (cellsL v)⟩ := by
        have := setAt_foldl off (cellsL v) cells 0
        rw [← Array.foldl_toList, Array.toList_zipIdx, cellsL_eq]
        simpa using this
      simp only [hsz]
      cases hb : ((cellsL v).length == size && decide (off + (cellsL v).length ≤ cells.length)) with
      | true =>
        simp only [Bool.and_eq_true, beq_iff_eq, decide_eq_true_eq] at hb
        have h1 : ((cellsL v).length != size || decide (off + (cellsL v).length > (⟨cells⟩ : Array Value).size)) = false := by
          simp [hb.1]
          have := hb.2
          rw [hb.1] at this
          omega
        rw [if_neg (by rw [← Bool.not_eq_true] at h1; simpa using h1)]
        rw [hf]
        exact fill_eq place rest _
      | false =>
        simp only [Bool.and_eq_false_iff, beq_eq_false_iff_ne, decide_eq_false_iff_not] at hb
        rw [if_pos]
        · rfl
        · simp only [ne_eq, decide_not, Bool.or_eq_true, Bool.not_eq_true', decide_eq_false_iff_not, decide_eq_true_eq]
          rcases hb with hb | hb
          · exact .inl hb
          · exact .inr (by simpa using hb)

def placesL (P : Program) : List Field → Option (List (Nat × Nat))
  | [] => some []
  | f :: r =>
    match szOf P f.type with
    | none => none
    | some n =>
      match placesL P r with
      | none => none
      | some l => some ((f.offset, n) :: l)

theorem placesL_eq (P : Program) : ∀ fs : List Field, placesL P fs = fs.mapM (fun f => (P.info? f.type).map fun i => (f.offset, i.size))
  | [] => rfl
  | f :: r => by
    unfold placesL szOf
    simp only [List.mapM_cons]
    cases hi : P.info? f.type with
    | none => rfl
    | some i =>
      simp only [Option.map_some, placesL_eq P r]
      cases r.mapM (fun f => (P.info? f.type).map fun i => (f.offset, i.size)) <;> rfl

def builtL (P : Program) (ty : TypeId) (parts : List (Nat × Value)) : Option (List Value) :=
  match zeroOf P ty with
  | none => none
  | some z =>
    match P.underlying ty with
    | some (.struct fields) =>
      match placesL P fields.toList with
      | some places => fillL (places[·]?) z parts
      | none => none
    | some (.array _ e) =>
      match szOf P e with
      | some s => fillL (fun i => some (szMul i s, s)) z parts
      | none => none
    | _ => none

theorem built_of {P : Program} {ty : TypeId} {parts : List (Nat × Value)} {cs : List Value} (h : builtL P ty parts = some cs) :
    P.built ty parts = some ⟨cs⟩ := by
  unfold builtL zeroOf at h
  unfold Program.built
  cases hi : P.info? ty with
  | none => simp [hi] at h
  | some it =>
    cases hz : it.zero with
    | none => simp [hi, hz] at h
    | some z =>
      simp only [hi, hz, Option.map_some] at h
      split at h
      · rename_i fields hu
        rw [placesL_eq] at h
        split at h
        · rename_i places hp
          have := fill_eq (places[·]?) parts (cellsL z)
          rw [h] at this
          simp [hu, hz, hp, cells_eq, this]
        · cases h
      · rename_i n e hu
        unfold szOf at h
        cases hie : P.info? e with
        | none => simp [hie] at h
        | some ie =>
          simp only [hie, Option.map_some, szMul_eq] at h
          have := fill_eq (fun i => some (i * ie.size, ie.size)) parts (cellsL z)
          rw [h] at this
          simp [hu, hz, hie, cells_eq, this]
      · cases h

/-- The cells of a slice literal. -/
def litL (z : List Value) (s len : Nat) (parts : List (Nat × Value)) : Option (List Value) :=
  fillL (fun i => some (szMul i s, s)) ((List.range (szMul len s)).map fun i => z.getD (i % z.length) default) parts

theorem run_buildSlice {P : Program} {ty e : TypeId} {s len : Nat} {z cs : List Value} {parts : Array (Nat × Value)} (hu : P.underlying ty = some (.slice e))
    (hs : szOf P e = some s) (hz : zeroOf P e = some z) (hb : szMul len s ≤ 16777216) (h : litL z s len parts.toList = some cs) (w : World) :
    (Instr.buildSlice ty len parts).run P w = .ok (.slice (some ⟨w.heap.size, 0, none⟩) len len) (w.alloc (.cells ⟨cs⟩ e)) := by
  obtain ⟨zv, hzr, hzc⟩ := zeroOf_run hz w
  unfold litL at h
  simp only [szMul_eq] at h hb
  have harr : ((Array.range (len * s)).map fun x => zv.cells[x % zv.cells.size]!) = ⟨(List.range (len * s)).map fun i => z.getD (i % z.length) default⟩ := by
    apply Array.ext'
    simp only [Array.toList_map, Array.toList_range]
    apply List.map_congr_left
    intro i _
    rw [cells_eq, hzc]
    simp [getElem!_def, List.getD]
    cases z[i % z.length]? <;> rfl
  have hf := fill_eq (fun i => some (i * s, s)) parts.toList ((List.range (len * s)).map fun i => z.getD (i % z.length) default)
  rw [h, ← harr] at hf
  have hg : ¬ len * s > 2 ^ 24 := by omega
  by_cases h0 : len * s = 0
  · have hr0 : Array.range 0 = #[] := rfl
    simp only [h0, hr0, Array.map_empty, Option.map_some] at hf
    simp [Instr.buildSlice, run_underlying hu, run_sizeOf' hs, h0, hr0, hf, newRow]
  · have hf1 : Instr.fill (fun i => some (i * s, s)) ((Array.range (len * s)).map fun x => zv.cells[x % zv.cells.size]!) parts.toList = some ⟨cs⟩ := hf
    simp [Instr.buildSlice, run_underlying hu, run_sizeOf' hs, h0, hg, hzr, newRow]
    rw [hf1]
    rfl
end Go.Wk
