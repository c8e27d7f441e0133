import Derived.Test.YtgdkahbnepafgaaDoorWkBase
namespace Go.Wk
open Go

/-! ### the operations -/
/-- Cells at an address. -/
def cellsAt (w : World) (a : Addr) : Nat → List Value → Prop → Prop
  | _, [], p => p
  | i, v :: r, p => w.cell? (a.add i) = some v ∧ cellsAt w a (i + 1) r p

theorem cellsAt_elim {w : World} {a : Addr} : ∀ {vs : List Value} {i : Nat} {p : Prop}, cellsAt w a i vs p →
    (∀ j v, vs[j]? = some v → w.cell? (a.add (i + j)) = some v) ∧ p
  | [], _, _, h => ⟨fun j v hv => by simp at hv, h⟩
  | v :: r, i, p, ⟨h1, h2⟩ => by
    obtain ⟨g1, g2⟩ := cellsAt_elim h2
    refine ⟨fun j u hu => ?_, g2⟩
    cases j with
    | zero => simp at hu; subst hu; exact h1
    | succ j => have := g1 j u (by simpa using hu); rwa [show i + 1 + j = i + (j + 1) by omega] at this

def sizeIs (P : Program) (ty : TypeId) (n : Nat) : Bool :=
  match P.info? ty with
  | some i => i.size == n
  | none => false

/-- A load of a variable of type 'ty'. -/
def ldPT (P : Program) (ty : TypeId) (a : Addr) (w : World) (k : Value → World → Prop) : Prop :=
  match P.underlying ty with
  | some (.struct _) | some (.array _ _) =>
    br (sizeIs P ty (flat P 8 ty).length) (shC P (flat P 8 ty) fun vs => cellsAt w a 0 vs (k (.agg ⟨vs⟩) w)) False
  | some _ => shS P ty fun v => w.cell? a = some v ∧ k v w
  | none => False

theorem ldPT_sound {P : Program} {ty : TypeId} {a : Addr} {w : World} {k : Value → World → Prop} (h : ldPT P ty a w k) :
    ∃ v, (loadVar ty a).run P w = .ok v w ∧ k v w ∧
      ∀ w', (∀ b v, w.cell? b = some v → w'.cell? b = some v) → (loadVar ty a).run P w' = .ok v w' := by
  unfold ldPT at h
  have agg : ∀ d, P.underlying ty = some d → (match d with | .struct _ | .array _ _ => True | _ => False) →
      br (sizeIs P ty (flat P 8 ty).length) (shC P (flat P 8 ty) fun vs => cellsAt w a 0 vs (k (.agg ⟨vs⟩) w)) False →
      ∃ v, (loadVar ty a).run P w = .ok v w ∧ k v w ∧
        ∀ w', (∀ b v, w.cell? b = some v → w'.cell? b = some v) → (loadVar ty a).run P w' = .ok v w' := by
    intro d hd hagg h
    cases hs : sizeIs P ty (flat P 8 ty).length with
    | false => rw [hs] at h; exact h.elim
    | true =>
      rw [hs] at h
      obtain ⟨vs, hl, h⟩ := shC_elim h
      obtain ⟨hc, hk⟩ := cellsAt_elim h
      have key : ∀ w', (∀ b v, w.cell? b = some v → w'.cell? b = some v) → (loadVar ty a).run P w' = .ok (.agg ⟨vs⟩) w' := by
        intro w' hw'
        have hrun := run_loadCells_list (P := P) w' a vs (fun j v hv => hw' _ _ (by have := hc j v hv; rwa [Nat.zero_add] at this))
        have hsz : ∃ i, P.info? ty = some i ∧ i.size = vs.length := by
          unfold sizeIs at hs
          split at hs
          · rename_i i hi
            refine ⟨i, hi, ?_⟩
            rw [hl]; simpa using hs
          · cases hs
        obtain ⟨i, hi, hi2⟩ := hsz
        have hisagg : (isAgg ty).run P w' = .ok true w' := by
          unfold isAgg
          simp only [Sem.run_bind, run_underlying hd, Result.andThen_ok]
          cases d <;> first | rfl | exact hagg.elim
        simp [loadVar, hisagg, sizeOf, typeInfo, hi, hi2, hrun]
      exact ⟨_, key w (fun _ _ h => h), hk, key⟩
  split at h
  · rename_i fs hd; exact agg _ hd trivial h
  · rename_i n e hd; exact agg _ hd trivial h
  · rename_i d hns hna hd
    obtain ⟨v, h1, h2⟩ := shS_elim h
    have hisagg : ∀ w', (isAgg ty).run P w' = .ok false w' := by
      intro w'
      unfold isAgg
      simp only [Sem.run_bind, run_underlying hd, Result.andThen_ok]
      cases d <;> first | rfl | (exfalso; exact hns _ rfl) | (exfalso; exact hna _ _ rfl)
    refine ⟨v, ?_, h2, fun w' hw' => ?_⟩
    · simp [loadVar, hisagg, h1]
    · simp [loadVar, hisagg, hw' _ _ h1]
  · exact h.elim

def cellsL : Value → List Value
  | .agg cs => cs.toList
  | v => [v]

theorem cellsL_eq (v : Value) : v.cells.toList = cellsL v := by cases v <;> rfl
theorem cells_eq (v : Value) : v.cells = ⟨cellsL v⟩ := by rw [← cellsL_eq]

def stPT (a : Addr) : Nat → List Value → World → (World → Prop) → Prop
  | _, [], w, k => k w
  | i, v :: r, w, k =>
    br v.oneCell' ((w.cell? (a.add i)).isSome = true ∧ w.frozen? (a.add i) = false ∧ stPT a (i + 1) r (w.setCell (a.add i) v) k) False

theorem stPT_sound {P : Program} {a : Addr} : ∀ {vs : List Value} {i : Nat} {w : World} {k : World → Prop}, stPT a i vs w k →
    ∃ w', (storeCells a vs i).run P w = .ok () w' ∧ k w'
  | [], _, w, _, h => ⟨w, rfl, h⟩
  | v :: r, i, w, k, h => by
    unfold stPT at h
    cases hv : v.oneCell' with
    | false => rw [hv] at h; exact h.elim
    | true =>
      rw [hv] at h
      obtain ⟨h1, h2, h3⟩ := h
      obtain ⟨u, hu⟩ := Option.isSome_iff_exists.1 h1
      obtain ⟨w', hr, hk⟩ := stPT_sound (P := P) h3
      exact ⟨w', by simp [storeCells, run_store P w _ v .plain hv, hu, h2, hr], hk⟩

theorem run_storeVar {P : Program} {ty : TypeId} {a : Addr} {v : Value} {w w' : World} (hs : sizeIs P ty (cellsL v).length = true)
    (h : (storeCells a (cellsL v)).run P w = .ok () w') : (storeVar ty a v).run P w = .ok () w' := by
  unfold sizeIs at hs
  split at hs
  · rename_i i hi
    have h1 : i.size = (cellsL v).length := by simpa using hs
    have h2 : v.cells.size = i.size := by rw [h1, ← cellsL_eq]; simp
    simp [storeVar, sizeOf, typeInfo, hi, h2, cellsL_eq, h]
  · cases hs

/-- Zero cells of a type. -/
def zeroOf (P : Program) (ty : TypeId) : Option (List Value) :=
  match P.info? ty with
  | some i => i.zero.map cellsL
  | none => none

theorem zeroOf_run {P : Program} {ty : TypeId} {cs : List Value} (h : zeroOf P ty = some cs) (w : World) :
    ∃ v, (zeroValue ty).run P w = .ok v w ∧ cellsL v = cs := by
  unfold zeroOf at h
  split at h
  · rename_i i hi
    cases hz : i.zero with
    | none => simp [hz] at h
    | some v =>
      simp [hz] at h
      exact ⟨v, by simp [zeroValue, typeInfo, hi, hz], h⟩
  · cases h

/-- A new block. -/
def newB (cells : List Value) (ty : TypeId) (w : World) (k : Addr → World → Prop) : Prop :=
  k ⟨w.heap.size, 0, none⟩ (w.alloc (.cells ⟨cells⟩ ty))

def szMul (i s : Nat) : Nat := match s with | 1 => i | s => i * s
theorem szMul_eq (i s : Nat) : szMul i s = i * s := by
  unfold szMul
  split <;> simp

def szOf (P : Program) (ty : TypeId) : Option Nat := (P.info? ty).map (·.size)
theorem run_sizeOf' {P : Program} {ty : TypeId} {n : Nat} (h : szOf P ty = some n) (w : World) : (sizeOf ty).run P w = .ok n w := by
  unfold szOf at h
  cases hi : P.info? ty with
  | none => simp [hi] at h
  | some i => simp [hi] at h; simp [sizeOf, typeInfo, hi, h]

/-- What a slice expression gives. -/
def sliceRes (a : Option Addr) (l h m s : Nat) : Value := .slice (if m = l then a else a.map (·.add (l * s))) (h - l) (m - l)

def boundOf (v : Value) (top : Nat) (k : Nat → Prop) : Prop :=
  match v with
  | .int _ n => 0 ≤ n ∧ n ≤ top ∧ k n.toNat
  | _ => False

theorem boundOf_run {v : Value} {top : Nat} {k : Nat → Prop} (h : boundOf v top k) (P : Program) :
    ∃ n, (∀ code w, (Instr.sliceBound v top code).run P w = .ok n w) ∧ k n := by
  unfold boundOf at h
  split at h
  · rename_i κ n
    obtain ⟨h1, h2, h3⟩ := h
    exact ⟨n.toNat, fun code w => by simp [Instr.sliceBound, asIntOf, h1, h2], h3⟩
  · exact h.elim

/-- The bounds of a slice expression: low, high, max. -/
def boundsPT (len cap : Nat) (lo hi mx : Option Value) (k : Nat → Nat → Nat → Prop) : Prop :=
  match mx with
  | some vm => boundOf vm cap fun m =>
    match hi with
    | some vh => boundOf vh m fun h =>
      match lo with
      | some vl => boundOf vl h fun l => k l h m
      | none => k 0 h m
    | none => False
  | none =>
    match hi with
    | some vh => boundOf vh cap fun h =>
      match lo with
      | some vl => boundOf vl h fun l => k l h cap
      | none => k 0 h cap
    | none =>
      match lo with
      | some vl => boundOf vl len fun l => k l len cap
      | none => k 0 len cap

theorem boundsPT_run {len cap : Nat} {lo hi mx : Option Value} {k : Nat → Nat → Nat → Prop} (h : boundsPT len cap lo hi mx k)
    (P : Program) : ∃ l h m, (∀ b w, (Instr.sliceBounds b len cap lo hi mx).run P w = .ok (l, h, m) w) ∧ k l h m := by
  unfold boundsPT at h
  cases mx with
  | some vm =>
    simp only at h
    obtain ⟨m, hm, h⟩ := boundOf_run h P
    cases hi with
    | none => exact h.elim
    | some vh =>
      simp only at h
      obtain ⟨hh, hhr, h⟩ := boundOf_run h P
      cases lo with
      | none => exact ⟨0, hh, m, fun b w => by simp [Instr.sliceBounds, hm, hhr], h⟩
      | some vl =>
        simp only at h
        obtain ⟨l, hl, h⟩ := boundOf_run h P
        exact ⟨l, hh, m, fun b w => by simp [Instr.sliceBounds, hm, hhr, hl], h⟩
  | none =>
    simp only at h
    cases hi with
    | some vh =>
      simp only at h
      obtain ⟨hh, hhr, h⟩ := boundOf_run h P
      cases lo with
      | none => exact ⟨0, hh, cap, fun b w => by simp [Instr.sliceBounds, hhr], h⟩
      | some vl =>
        simp only at h
        obtain ⟨l, hl, h⟩ := boundOf_run h P
        exact ⟨l, hh, cap, fun b w => by simp [Instr.sliceBounds, hhr, hl], h⟩
    | none =>
      cases lo with
      | none => exact ⟨0, len, cap, fun b w => by simp [Instr.sliceBounds], h⟩
      | some vl =>
        simp only at h
        obtain ⟨l, hl, h⟩ := boundOf_run h P
        exact ⟨l, len, cap, fun b w => by simp [Instr.sliceBounds, hl], h⟩
end Go.Wk
