/- A part of the proof. -/
import Derived.WalkKit
import Derived.WalkSpells
import Derived.WalkLawsBesides
import Derived.Orders
import Derived.KernelRfl
import Derived.OrdersHeld
import Derived.Laws.FloatArith
import Derived.Laws.BytesString
import Derived.Laws.Cells
import Derived.Laws.AppendOwn
import Derived.ProofKit
import Derived.LaidMore
import Derived.OpenShut
import Derived.Stop.Joined
import Derived.Deep.Slices
import Derived.Deep.Fields
import Derived.Handed
import Derived.LaidEql
import Derived.Maps.AppendAt
import Derived.Laws.CopyRow
import Derived.Laws.IdiomCopy
set_option linter.unusedVariables false

/-! ### WkBase -/
namespace Go.Wk
open Go

/-! ### local state -/
def br (b : Bool) (x y : Prop) : Prop := match b with | true => x | false => y
theorem br_intro {b : Bool} {x y : Prop} (ht : b = true → x) (hf : b = false → y) : br b x y := by
  cases b
  · exact hf rfl
  · exact ht rfl
theorem br_mono {b : Bool} {x y x' y' : Prop} (hx : x → x') (hy : y → y') (h : br b x y) : br b x' y' := by
  cases b
  · exact hy h
  · exact hx h

def ptrSome (p : Option Addr) (k : Addr → Prop) : Prop := match p with | some a => k a | none => False
theorem ptrSome_elim {p : Option Addr} {k : Addr → Prop} (h : ptrSome p k) : ∃ a, p = some a ∧ k a := by
  cases p with
  | none => exact h.elim
  | some a => exact ⟨a, rfl, h⟩

def ev (t : List Value) : Operand → Value
  | .tmp i => t.getD i undef
  | .const v => v
  | .global g => .pointer (some ⟨g, 0, none⟩)
  | .func f => .func (.func f) #[] #[]

def put (t : List Value) (d : Option Tmp) (v : Value) : List Value :=
  match d with
  | some i => t.set i v
  | none => t

def act (t : List Value) : Act := { tmps := ⟨t⟩, defers := [] }

theorem act_eval (t : List Value) (o : Operand) : (act t).eval o = ev t o := by
  cases o <;> simp [Act.eval, ev, act, List.getD]

theorem act_eval' (t : List Value) : (act t).eval = ev t := funext (act_eval t)

theorem act_put (t : List Value) (d : Option Tmp) (v : Value) : (act t).put d v = act (put t d v) := by
  cases d <;> simp [Act.put, put, act]

/-! ### what comes of a call -/
def Ret (k : Value → World → Prop) : Ending → World → Prop
  | .returned v, w => k v w
  | _, _ => False

def upon (P : Program) (k : Value → World → Prop) : Result Next → Prop
  | .ok (.value v) w' => k v w'
  | .ok .skip w' => k undef w'
  | .ok (.enter f args) w' => Calls P f args w' (Ret k)
  | _ => False

theorem Ret_mono {k k' : Value → World → Prop} (h : ∀ v w, k v w → k' v w) : ∀ e w, Ret k e w → Ret k' e w := by
  intro e w
  cases e <;> simp only [Ret] <;> first | exact h _ _ | exact id

theorem upon_mono {P : Program} {k k' : Value → World → Prop} (h : ∀ v w, k v w → k' v w) {r : Result Next} (hr : upon P k r) : upon P k' r := by
  cases r with
  | ok n w' =>
    cases n <;> simp only [upon] at hr ⊢ <;> first | exact h _ _ hr | exact hr.mono (Ret_mono h) | exact hr
  | halt x w' => exact hr

/-- A call of function 'f'. -/
def CallF (P : Program) (f : FuncId) (args : List Value) (w : World) (k : Value → World → Prop) : Prop :=
  upon P k ((callFunc f ⟨args⟩).run P w)
/-- A call of a function value. -/
def CallV (P : Program) (f : Value) (args : List Value) (w : World) (k : Value → World → Prop) : Prop :=
  upon P k ((do let d ← Deferred.ofValue f ⟨args⟩; invoke d.target d.args : Sem Next).run P w)
/-- An operation that is left as the model has it. -/
def Raw (P : Program) (s : Sem Value) (w : World) (k : Value → World → Prop) : Prop :=
  match s.run P w with
  | .ok v w' => k v w'
  | .halt _ _ => False

theorem CallF.mono {P : Program} {f : FuncId} {args : List Value} {w : World} {k k' : Value → World → Prop} (hc : CallF P f args w k)
    (h : ∀ v w, k v w → k' v w) : CallF P f args w k' := upon_mono h hc
theorem CallV.mono {P : Program} {f : Value} {args : List Value} {w : World} {k k' : Value → World → Prop} (hc : CallV P f args w k)
    (h : ∀ v w, k v w → k' v w) : CallV P f args w k' := upon_mono h hc
theorem Raw.mono {P : Program} {s : Sem Value} {w : World} {k k' : Value → World → Prop} (hc : Raw P s w k)
    (h : ∀ v w, k v w → k' v w) : Raw P s w k' := by
  unfold Raw at *
  split at hc
  · exact h _ _ hc
  · exact hc.elim

theorem CallV_func {P : Program} {g : FuncId} {first cap args : List Value} {w : World} {k : Value → World → Prop}
    (h : CallF P g (first ++ args ++ cap) w k) : CallV P (.func (.func g) ⟨first⟩ ⟨cap⟩) args w k := by
  unfold CallV CallF at *
  simpa [Deferred.ofValue, invoke] using h

theorem CallF_of_calls {P : Program} {f : FuncId} {args : List Value} {w : World} {k : Value → World → Prop}
    (hf : (callFunc f ⟨args⟩).run P w = .ok (.enter f ⟨args⟩) w) (h : Calls P f ⟨args⟩ w (Ret k)) : CallF P f args w k := by
  unfold CallF
  rw [hf]
  exact h

/-! ### shapes of what is not known -/
def shS (P : Program) (ty : TypeId) (k : Value → Prop) : Prop :=
  match P.underlying ty with
  | some .bool => ∃ b : Bool, k (.bool b)
  | some (.int κ) => ∃ i : Int, k (.int κ i)
  | some (.float κ) => ∃ x : Nat, k (.float κ x)
  | some .string => ∃ s : ByteArray, k (.string s)
  | some (.slice _) => ∃ (a : Option Addr) (n c : Nat), k (.slice a n c)
  | some (.pointer _) => ∃ a : Option Addr, k (.pointer a)
  | _ => ∃ v : Value, k v

theorem shS_elim {P : Program} {ty : TypeId} {k : Value → Prop} (h : shS P ty k) : ∃ v, k v := by
  unfold shS at h
  split at h
  · obtain ⟨b, h⟩ := h; exact ⟨_, h⟩
  · obtain ⟨b, h⟩ := h; exact ⟨_, h⟩
  · obtain ⟨b, h⟩ := h; exact ⟨_, h⟩
  · obtain ⟨b, h⟩ := h; exact ⟨_, h⟩
  · obtain ⟨a, n, c, h⟩ := h; exact ⟨_, h⟩
  · obtain ⟨b, h⟩ := h; exact ⟨_, h⟩
  · exact h

def flat (P : Program) : Nat → TypeId → List TypeId
  | 0, t => [t]
  | n + 1, t =>
    match P.underlying t with
    | some (.struct fs) => fs.toList.flatMap fun f => flat P n f.type
    | some (.array m e) => (List.replicate m ()).flatMap fun _ => flat P n e
    | _ => [t]

def shC (P : Program) : List TypeId → (List Value → Prop) → Prop
  | [], k => k []
  | t :: r, k => shS P t fun v => shC P r fun vs => k (v :: vs)

theorem shC_elim {P : Program} : ∀ {ts : List TypeId} {k : List Value → Prop}, shC P ts k → ∃ vs, vs.length = ts.length ∧ k vs
  | [], _, h => ⟨[], rfl, h⟩
  | _ :: _, _, h => by
    obtain ⟨v, h⟩ := shS_elim h
    obtain ⟨vs, hl, h⟩ := shC_elim h
    exact ⟨v :: vs, by simp [hl], h⟩

def aggT (P : Program) (ty : TypeId) : Bool :=
  match P.underlying ty with
  | some (.struct _) | some (.array _ _) => true
  | _ => false

def shT (P : Program) : List TypeId → (List Value → Prop) → Prop
  | [], k => k []
  | t :: r, k =>
    match aggT P t with
    | true => shC P (flat P 8 t) fun cs => shT P r fun vs => k (.agg ⟨cs⟩ :: vs)
    | false => shS P t fun v => shT P r fun vs => k (v :: vs)

theorem shT_elim {P : Program} : ∀ {ts : List TypeId} {k : List Value → Prop}, shT P ts k → ∃ vs, k vs
  | [], _, h => ⟨[], h⟩
  | t :: r, k, h => by
    unfold shT at h
    split at h
    · obtain ⟨cs, _, h⟩ := shC_elim h
      obtain ⟨vs, h⟩ := shT_elim h
      exact ⟨_, h⟩
    · obtain ⟨v, h⟩ := shS_elim h
      obtain ⟨vs, h⟩ := shT_elim h
      exact ⟨_, h⟩

/-- Of 'v' it is known that it has the form of a value of type 'ty'. -/
def shV (P : Program) (ty : TypeId) (v : Value) (k : Value → Prop) : Prop :=
  match P.underlying ty with
  | some (.tuple ts) => shT P ts.toList fun vs => v = .tuple ⟨vs⟩ ∧ k (.tuple ⟨vs⟩)
  | some (.struct _) | some (.array _ _) => shC P (flat P 8 ty) fun cs => v = .agg ⟨cs⟩ ∧ k (.agg ⟨cs⟩)
  | some .bool => ∃ b : Bool, v = .bool b ∧ k (.bool b)
  | some (.int κ) => ∃ i : Int, v = .int κ i ∧ k (.int κ i)
  | some (.float κ) => ∃ x : Nat, v = .float κ x ∧ k (.float κ x)
  | some .string => ∃ s : ByteArray, v = .string s ∧ k (.string s)
  | some (.slice _) => ∃ (a : Option Addr) (n c : Nat), v = .slice a n c ∧ k (.slice a n c)
  | some (.pointer _) => ∃ a : Option Addr, v = .pointer a ∧ k (.pointer a)
  | _ => k v

theorem shV_elim {P : Program} {ty : TypeId} {v : Value} {k : Value → Prop} (h : shV P ty v k) : k v := by
  unfold shV at h
  split at h
  · obtain ⟨vs, e, h⟩ := shT_elim h; rw [e]; exact h
  · obtain ⟨vs, _, e, h⟩ := shC_elim h; rw [e]; exact h
  · obtain ⟨vs, _, e, h⟩ := shC_elim h; rw [e]; exact h
  · obtain ⟨b, e, h⟩ := h; rw [e]; exact h
  · obtain ⟨b, e, h⟩ := h; rw [e]; exact h
  · obtain ⟨b, e, h⟩ := h; rw [e]; exact h
  · obtain ⟨b, e, h⟩ := h; rw [e]; exact h
  · obtain ⟨a, n, c, e, h⟩ := h; rw [e]; exact h
  · obtain ⟨b, e, h⟩ := h; rw [e]; exact h
  · exact h

/-! ### floats -/
def feq (κ : FloatKind) (a b : Nat) : Bool := κ.format.order a b == some .eq
def fne (κ : FloatKind) (a b : Nat) : Bool := κ.format.order a b != some .eq
def flt (κ : FloatKind) (a b : Nat) : Bool := κ.format.order a b == some .lt
def fle (κ : FloatKind) (a b : Nat) : Bool := κ.format.order a b == some .lt || κ.format.order a b == some .eq
def fgt (κ : FloatKind) (a b : Nat) : Bool := κ.format.order a b == some .gt
def fge (κ : FloatKind) (a b : Nat) : Bool := κ.format.order a b == some .gt || κ.format.order a b == some .eq

/-- Bits that a NaN has. -/
def nanB : FloatKind → Nat → Prop
  | .f64, n => ∃ s f, s < 2 ∧ f < 2 ^ 52 - 1 ∧ n = s * 2 ^ 63 + 0x7ff0000000000000 + 1 + f
  | .f32, n => ∃ s f, s < 2 ∧ f < 2 ^ 23 - 1 ∧ n = s * 2 ^ 31 + 0x7f800000 + 1 + f

/-- An operation on floats: its bits, or those of some NaN. -/
def fop (op : BinOp) (κ : FloatKind) (a b : Nat) (w : World) (k : Nat → World → Prop) : Prop :=
  (∀ r, floatBits op κ a b = some r → k r w) ∧ (floatBits op κ a b = none → ∀ n, nanB κ n → k n w.drew)

theorem nanB_cut (κ : FloatKind) (x y t : Nat) : nanB κ ((Question.nanBits κ x y).cut t) := by
  cases κ
  · exact ⟨t % 2, (t / 2) % (2 ^ 23 - 1), Nat.mod_lt _ (by decide), Nat.mod_lt _ (by decide), rfl⟩
  · exact ⟨t % 2, (t / 2) % (2 ^ 52 - 1), Nat.mod_lt _ (by decide), Nat.mod_lt _ (by decide), rfl⟩

theorem fop_sound {P : Program} {op : BinOp} {t : TypeId} {κ : FloatKind} {a b : Nat} {w : World} {k : Nat → World → Prop}
    (hop : op = .add ∨ op = .sub ∨ op = .mul ∨ op = .quo) (h : fop op κ a b w k) :
    ∃ r w', (binOp op t (.float κ a) (.float κ b)).run P w = .ok (.float κ r) w' ∧ k r w' := by
  obtain ⟨h1, h2⟩ := h
  cases hb : floatBits op κ a b with
  | some r => exact ⟨r, w, run_float_arith w op t κ a b r hb, h1 r hb⟩
  | none =>
    refine ⟨(Question.nanBits κ a b).cut (w.tape w.drawn (Question.nanBits κ a b)), w.drew, ?_, h2 hb _ (nanB_cut κ a b _)⟩
    unfold floatBits at hb
    rcases hop with rfl | rfl | rfl | rfl <;> simp only at hb <;> simp [binOp, Op.floatArith, hb, Question.forced]
end Go.Wk

/-! ### WkOps -/
namespace Go.Wk
open Go

/-! ### the operations -/
/-- Cells at an address. -/
def cellsAt (w : World) (a : Addr) : Nat → List Value → Prop → Prop
  | _, [], p => p
  | i, v :: r, p => w.cell? (a.add i) = some v ∧ cellsAt w a (i + 1) r p

theorem cellsAt_elim {w : World} {a : Addr} : ∀ {vs : List Value} {i : Nat} {p : Prop}, cellsAt w a i vs p →
    (∀ j v, vs[j]? = some v → w.cell? (a.add (i + j)) = some v) ∧ p
  | [], _, _, h => ⟨fun j v hv => by simp at hv, h⟩
  | v :: r, i, p, ⟨h1, h2⟩ => by
    obtain ⟨g1, g2⟩ := cellsAt_elim h2
    refine ⟨fun j u hu => ?_, g2⟩
    cases j with
    | zero => simp at hu; subst hu; exact h1
    | succ j => have := g1 j u (by simpa using hu); rwa [show i + 1 + j = i + (j + 1) by omega] at this

def sizeIs (P : Program) (ty : TypeId) (n : Nat) : Bool :=
  match P.info? ty with
  | some i => i.size == n
  | none => false

/-- A load of a variable of type 'ty'. -/
def ldPT (P : Program) (ty : TypeId) (a : Addr) (w : World) (k : Value → World → Prop) : Prop :=
  match P.underlying ty with
  | some (.struct _) | some (.array _ _) =>
    br (sizeIs P ty (flat P 8 ty).length) (shC P (flat P 8 ty) fun vs => cellsAt w a 0 vs (k (.agg ⟨vs⟩) w)) False
  | some _ => shS P ty fun v => w.cell? a = some v ∧ k v w
  | none => False

theorem ldPT_sound {P : Program} {ty : TypeId} {a : Addr} {w : World} {k : Value → World → Prop} (h : ldPT P ty a w k) :
    ∃ v, (loadVar ty a).run P w = .ok v w ∧ k v w ∧
      ∀ w', (∀ b v, b.block = a.block → w.cell? b = some v → w'.cell? b = some v) → (loadVar ty a).run P w' = .ok v w' := by
  have addb : ∀ n, (a.add n).block = a.block := fun n => by unfold Addr.add; split <;> rfl
  unfold ldPT at h
  have agg : ∀ d, P.underlying ty = some d → (match d with | .struct _ | .array _ _ => True | _ => False) →
      br (sizeIs P ty (flat P 8 ty).length) (shC P (flat P 8 ty) fun vs => cellsAt w a 0 vs (k (.agg ⟨vs⟩) w)) False →
      ∃ v, (loadVar ty a).run P w = .ok v w ∧ k v w ∧
        ∀ w', (∀ b v, b.block = a.block → w.cell? b = some v → w'.cell? b = some v) → (loadVar ty a).run P w' = .ok v w' := by
    intro d hd hagg h
    cases hs : sizeIs P ty (flat P 8 ty).length with
    | false => rw [hs] at h; exact h.elim
    | true =>
      rw [hs] at h
      obtain ⟨vs, hl, h⟩ := shC_elim h
      obtain ⟨hc, hk⟩ := cellsAt_elim h
      have key : ∀ w', (∀ b v, b.block = a.block → w.cell? b = some v → w'.cell? b = some v) → (loadVar ty a).run P w' = .ok (.agg ⟨vs⟩) w' := by
        intro w' hw'
        have hrun := run_loadCells_list (P := P) w' a vs (fun j v hv => hw' _ _ (addb _) (by have := hc j v hv; rwa [Nat.zero_add] at this))
        have hsz : ∃ i, P.info? ty = some i ∧ i.size = vs.length := by
          unfold sizeIs at hs
          split at hs
          · rename_i i hi
            refine ⟨i, hi, ?_⟩
            rw [hl]; simpa using hs
          · cases hs
        obtain ⟨i, hi, hi2⟩ := hsz
        have hisagg : (isAgg ty).run P w' = .ok true w' := by
          unfold isAgg
          simp only [Sem.run_bind, run_underlying hd, Result.andThen_ok]
          cases d <;> first | rfl | exact hagg.elim
        simp [loadVar, hisagg, sizeOf, typeInfo, hi, hi2, hrun]
      exact ⟨_, key w (fun _ _ _ h => h), hk, key⟩
  split at h
  · rename_i fs hd; exact agg _ hd trivial h
  · rename_i n e hd; exact agg _ hd trivial h
  · rename_i d hns hna hd
    obtain ⟨v, h1, h2⟩ := shS_elim h
    have hisagg : ∀ w', (isAgg ty).run P w' = .ok false w' := by
      intro w'
      unfold isAgg
      simp only [Sem.run_bind, run_underlying hd, Result.andThen_ok]
      cases d <;> first | rfl | (exfalso; exact hns _ rfl) | (exfalso; exact hna _ _ rfl)
    refine ⟨v, ?_, h2, fun w' hw' => ?_⟩
    · simp [loadVar, hisagg, h1]
    · simp [loadVar, hisagg, hw' _ _ rfl h1]
  · exact h.elim

def cellsL : Value → List Value
  | .agg cs => cs.toList
  | v => [v]

theorem cellsL_eq (v : Value) : v.cells.toList = cellsL v := by cases v <;> rfl
theorem cells_eq (v : Value) : v.cells = ⟨cellsL v⟩ := by rw [← cellsL_eq]

def stPT (a : Addr) : Nat → List Value → World → (World → Prop) → Prop
  | _, [], w, k => k w
  | i, v :: r, w, k =>
    br v.oneCell' ((w.cell? (a.add i)).isSome = true ∧ w.frozen? (a.add i) = false ∧ stPT a (i + 1) r (w.setCell (a.add i) v) k) False

theorem stPT_sound {P : Program} {a : Addr} : ∀ {vs : List Value} {i : Nat} {w : World} {k : World → Prop}, stPT a i vs w k →
    ∃ w', (storeCells a vs i).run P w = .ok () w' ∧ k w'
  | [], _, w, _, h => ⟨w, rfl, h⟩
  | v :: r, i, w, k, h => by
    unfold stPT at h
    cases hv : v.oneCell' with
    | false => rw [hv] at h; exact h.elim
    | true =>
      rw [hv] at h
      obtain ⟨h1, h2, h3⟩ := h
      obtain ⟨u, hu⟩ := Option.isSome_iff_exists.1 h1
      obtain ⟨w', hr, hk⟩ := stPT_sound (P := P) h3
      exact ⟨w', by simp [storeCells, run_store P w _ v .plain hv, hu, h2, hr], hk⟩

theorem run_storeVar {P : Program} {ty : TypeId} {a : Addr} {v : Value} {w w' : World} (hs : sizeIs P ty (cellsL v).length = true)
    (h : (storeCells a (cellsL v)).run P w = .ok () w') : (storeVar ty a v).run P w = .ok () w' := by
  unfold sizeIs at hs
  split at hs
  · rename_i i hi
    have h1 : i.size = (cellsL v).length := by simpa using hs
    have h2 : v.cells.size = i.size := by rw [h1, ← cellsL_eq]; simp
    simp [storeVar, sizeOf, typeInfo, hi, h2, cellsL_eq, h]
  · cases hs

/-- Zero cells of a type. -/
def zeroOf (P : Program) (ty : TypeId) : Option (List Value) :=
  match P.info? ty with
  | some i => i.zero.map cellsL
  | none => none

theorem zeroOf_run {P : Program} {ty : TypeId} {cs : List Value} (h : zeroOf P ty = some cs) (w : World) :
    ∃ v, (zeroValue ty).run P w = .ok v w ∧ cellsL v = cs := by
  unfold zeroOf at h
  split at h
  · rename_i i hi
    cases hz : i.zero with
    | none => simp [hz] at h
    | some v =>
      simp [hz] at h
      exact ⟨v, by simp [zeroValue, typeInfo, hi, hz], h⟩
  · cases h

/-- A new block. -/
def newB (cells : List Value) (ty : TypeId) (w : World) (k : Addr → World → Prop) : Prop :=
  k ⟨w.heap.size, 0, none⟩ (w.alloc (.cells ⟨cells⟩ ty))

def szMul (i s : Nat) : Nat := match s with | 1 => i | s => i * s
theorem szMul_eq (i s : Nat) : szMul i s = i * s := by
  unfold szMul
  split <;> simp

def szOf (P : Program) (ty : TypeId) : Option Nat := (P.info? ty).map (·.size)
theorem run_sizeOf' {P : Program} {ty : TypeId} {n : Nat} (h : szOf P ty = some n) (w : World) : (sizeOf ty).run P w = .ok n w := by
  unfold szOf at h
  cases hi : P.info? ty with
  | none => simp [hi] at h
  | some i => simp [hi] at h; simp [sizeOf, typeInfo, hi, h]

/-- What a slice expression gives. -/
def sliceRes (a : Option Addr) (l h m s : Nat) : Value := .slice (if m = l then a else a.map (·.add (l * s))) (h - l) (m - l)

def boundOf (v : Value) (top : Nat) (k : Nat → Prop) : Prop :=
  match v with
  | .int _ n => 0 ≤ n ∧ n ≤ top ∧ k n.toNat
  | _ => False

theorem boundOf_run {v : Value} {top : Nat} {k : Nat → Prop} (h : boundOf v top k) (P : Program) :
    ∃ n, (∀ code w, (Instr.sliceBound v top code).run P w = .ok n w) ∧ k n := by
  unfold boundOf at h
  split at h
  · rename_i κ n
    obtain ⟨h1, h2, h3⟩ := h
    exact ⟨n.toNat, fun code w => by simp [Instr.sliceBound, asIntOf, h1, h2], h3⟩
  · exact h.elim

/-- The bounds of a slice expression: low, high, max. -/
def boundsPT (len cap : Nat) (lo hi mx : Option Value) (k : Nat → Nat → Nat → Prop) : Prop :=
  match mx with
  | some vm => boundOf vm cap fun m =>
    match hi with
    | some vh => boundOf vh m fun h =>
      match lo with
      | some vl => boundOf vl h fun l => k l h m
      | none => k 0 h m
    | none => False
  | none =>
    match hi with
    | some vh => boundOf vh cap fun h =>
      match lo with
      | some vl => boundOf vl h fun l => k l h cap
      | none => k 0 h cap
    | none =>
      match lo with
      | some vl => boundOf vl len fun l => k l len cap
      | none => k 0 len cap

theorem boundsPT_run {len cap : Nat} {lo hi mx : Option Value} {k : Nat → Nat → Nat → Prop} (h : boundsPT len cap lo hi mx k)
    (P : Program) : ∃ l h m, (∀ b w, (Instr.sliceBounds b len cap lo hi mx).run P w = .ok (l, h, m) w) ∧ k l h m := by
  unfold boundsPT at h
  cases mx with
  | some vm =>
    simp only at h
    obtain ⟨m, hm, h⟩ := boundOf_run h P
    cases hi with
    | none => exact h.elim
    | some vh =>
      simp only at h
      obtain ⟨hh, hhr, h⟩ := boundOf_run h P
      cases lo with
      | none => exact ⟨0, hh, m, fun b w => by simp [Instr.sliceBounds, hm, hhr], h⟩
      | some vl =>
        simp only at h
        obtain ⟨l, hl, h⟩ := boundOf_run h P
        exact ⟨l, hh, m, fun b w => by simp [Instr.sliceBounds, hm, hhr, hl], h⟩
  | none =>
    simp only at h
    cases hi with
    | some vh =>
      simp only at h
      obtain ⟨hh, hhr, h⟩ := boundOf_run h P
      cases lo with
      | none => exact ⟨0, hh, cap, fun b w => by simp [Instr.sliceBounds, hhr], h⟩
      | some vl =>
        simp only at h
        obtain ⟨l, hl, h⟩ := boundOf_run h P
        exact ⟨l, hh, cap, fun b w => by simp [Instr.sliceBounds, hhr, hl], h⟩
    | none =>
      cases lo with
      | none => exact ⟨0, len, cap, fun b w => by simp [Instr.sliceBounds], h⟩
      | some vl =>
        simp only at h
        obtain ⟨l, hl, h⟩ := boundOf_run h P
        exact ⟨l, len, cap, fun b w => by simp [Instr.sliceBounds, hl], h⟩
end Go.Wk

/-! ### WkOp2 -/
namespace Go.Wk
open Go

/-! ### building -/
def setAt (cells : List Value) (off : Nat) : List Value → List Value
  | [] => cells
  | v :: r => setAt (cells.set off v) (off + 1) r

def fillL (place : Nat → Option (Nat × Nat)) (cells : List Value) : List (Nat × Value) → Option (List Value)
  | [] => some cells
  | (i, v) :: rest =>
    match place i with
    | none => none
    | some (off, size) =>
      match (cellsL v).length == size && decide (off + (cellsL v).length ≤ cells.length) with
      | true => fillL place (setAt cells off (cellsL v)) rest
      | false => none

theorem setAt_foldl (off : Nat) : ∀ (vs cells : List Value) (n : Nat),
    (vs.zipIdx n).foldl (fun (cs : Array Value) (x : Value × Nat) => cs.setIfInBounds (off + x.2) x.1) ⟨cells⟩ = ⟨setAt cells (off + n) vs⟩
  | [], _, _ => rfl
  | v :: r, cells, n => by
    simp only [List.zipIdx_cons, List.foldl_cons, setAt]
    have := setAt_foldl off r (cells.set (off + n) v) (n + 1)
    simpa [Nat.add_assoc] using this

theorem fill_eq (place : Nat → Option (Nat × Nat)) : ∀ (parts : List (Nat × Value)) (cells : List Value),
    Instr.fill place ⟨cells⟩ parts = (fillL place cells parts).map Array.mk
  | [], cells => rfl
  | (i, v) :: rest, cells => by
    unfold Instr.fill fillL
    cases hp : place i with
    | none => rfl
    | some x =>
      obtain ⟨off, size⟩ := x
      have hsz : v.cells.size = (cellsL v).length := by rw [← cellsL_eq]; simp
      have hf : v.cells.zipIdx.foldl (fun cs x => match x with | (c, j) => cs.setIfInBounds (off + j) c) (⟨cells⟩ : Array Value) = ⟨setAt cells off (cellsL v)⟩ := by
        have := setAt_foldl off (cellsL v) cells 0
        rw [← Array.foldl_toList, Array.toList_zipIdx, cellsL_eq]
        simpa using this
      simp only [hsz]
      cases hb : ((cellsL v).length == size && decide (off + (cellsL v).length ≤ cells.length)) with
      | true =>
        simp only [Bool.and_eq_true, beq_iff_eq, decide_eq_true_eq] at hb
        have h1 : ((cellsL v).length != size || decide (off + (cellsL v).length > (⟨cells⟩ : Array Value).size)) = false := by
          simp [hb.1]
          have := hb.2
          rw [hb.1] at this
          omega
        rw [if_neg (by rw [← Bool.not_eq_true] at h1; simpa using h1)]
        rw [hf]
        exact fill_eq place rest _
      | false =>
        simp only [Bool.and_eq_false_iff, beq_eq_false_iff_ne, decide_eq_false_iff_not] at hb
        rw [if_pos]
        · rfl
        · simp only [ne_eq, decide_not, Bool.or_eq_true, Bool.not_eq_true', decide_eq_false_iff_not, decide_eq_true_eq]
          rcases hb with hb | hb
          · exact .inl hb
          · exact .inr (by simpa using hb)

def placesL (P : Program) : List Field → Option (List (Nat × Nat))
  | [] => some []
  | f :: r =>
    match szOf P f.type with
    | none => none
    | some n =>
      match placesL P r with
      | none => none
      | some l => some ((f.offset, n) :: l)

theorem placesL_eq (P : Program) : ∀ fs : List Field, placesL P fs = fs.mapM (fun f => (P.info? f.type).map fun i => (f.offset, i.size))
  | [] => rfl
  | f :: r => by
    unfold placesL szOf
    simp only [List.mapM_cons]
    cases hi : P.info? f.type with
    | none => rfl
    | some i =>
      simp only [Option.map_some, placesL_eq P r]
      cases r.mapM (fun f => (P.info? f.type).map fun i => (f.offset, i.size)) <;> rfl

def builtL (P : Program) (ty : TypeId) (parts : List (Nat × Value)) : Option (List Value) :=
  match zeroOf P ty with
  | none => none
  | some z =>
    match P.underlying ty with
    | some (.struct fields) =>
      match placesL P fields.toList with
      | some places => fillL (places[·]?) z parts
      | none => none
    | some (.array _ e) =>
      match szOf P e with
      | some s => fillL (fun i => some (szMul i s, s)) z parts
      | none => none
    | _ => none

theorem built_of {P : Program} {ty : TypeId} {parts : List (Nat × Value)} {cs : List Value} (h : builtL P ty parts = some cs) :
    P.built ty parts = some ⟨cs⟩ := by
  unfold builtL zeroOf at h
  unfold Program.built
  cases hi : P.info? ty with
  | none => simp [hi] at h
  | some it =>
    cases hz : it.zero with
    | none => simp [hi, hz] at h
    | some z =>
      simp only [hi, hz, Option.map_some] at h
      split at h
      · rename_i fields hu
        rw [placesL_eq] at h
        split at h
        · rename_i places hp
          have := fill_eq (places[·]?) parts (cellsL z)
          rw [h] at this
          simp [hu, hz, hp, cells_eq, this]
        · cases h
      · rename_i n e hu
        unfold szOf at h
        cases hie : P.info? e with
        | none => simp [hie] at h
        | some ie =>
          simp only [hie, Option.map_some, szMul_eq] at h
          have := fill_eq (fun i => some (i * ie.size, ie.size)) parts (cellsL z)
          rw [h] at this
          simp [hu, hz, hie, cells_eq, this]
      · cases h

/-- The cells of a slice literal. -/
def litL (z : List Value) (s len : Nat) (parts : List (Nat × Value)) : Option (List Value) :=
  fillL (fun i => some (szMul i s, s)) ((List.range (szMul len s)).map fun i => z.getD (i % z.length) default) parts

theorem run_buildSlice {P : Program} {ty e : TypeId} {s len : Nat} {z cs : List Value} {parts : Array (Nat × Value)} (hu : P.underlying ty = some (.slice e))
    (hs : szOf P e = some s) (hz : zeroOf P e = some z) (hb : szMul len s ≤ 16777216) (h : litL z s len parts.toList = some cs) (w : World) :
    (Instr.buildSlice ty len parts).run P w = .ok (.slice (some ⟨w.heap.size, 0, none⟩) len len) (w.alloc (.cells ⟨cs⟩ e)) := by
  obtain ⟨zv, hzr, hzc⟩ := zeroOf_run hz w
  unfold litL at h
  simp only [szMul_eq] at h hb
  have harr : ((Array.range (len * s)).map fun x => zv.cells[x % zv.cells.size]!) = ⟨(List.range (len * s)).map fun i => z.getD (i % z.length) default⟩ := by
    apply Array.ext'
    simp only [Array.toList_map, Array.toList_range]
    apply List.map_congr_left
    intro i _
    rw [cells_eq, hzc]
    simp [getElem!_def, List.getD]
    cases z[i % z.length]? <;> rfl
  have hf := fill_eq (fun i => some (i * s, s)) parts.toList ((List.range (len * s)).map fun i => z.getD (i % z.length) default)
  rw [h, ← harr] at hf
  have hg : ¬ len * s > 2 ^ 24 := by omega
  by_cases h0 : len * s = 0
  · have hr0 : Array.range 0 = #[] := rfl
    simp only [h0, hr0, Array.map_empty, Option.map_some] at hf
    simp [Instr.buildSlice, run_underlying hu, run_sizeOf' hs, h0, hr0, hf, newRow]
  · have hf1 : Instr.fill (fun i => some (i * s, s)) ((Array.range (len * s)).map fun x => zv.cells[x % zv.cells.size]!) parts.toList = some ⟨cs⟩ := hf
    simp [Instr.buildSlice, run_underlying hu, run_sizeOf' hs, h0, hg, hzr, newRow]
    rw [hf1]
    rfl
end Go.Wk

/-! ### WkExec -/
namespace Go.Wk
open Go

/-! ### operators that look at nothing but their operands -/
theorem br_dec {c : Prop} [Decidable c] {X : Prop} (h : br (decide c) X False) : c ∧ X := by
  cases hk : decide c with
  | false => rw [hk] at h; exact h.elim
  | true => rw [hk] at h; exact ⟨of_decide_eq_true hk, h⟩
theorem br_not {b : Bool} {X : Prop} (h : br b False X) : b = false ∧ X := by
  cases b with
  | false => exact ⟨rfl, h⟩
  | true => exact h.elim

def intPT (op : BinOp) (κ : IntKind) (a b : Int) (k : Value → Prop) : Prop :=
  match op with
  | .add => k (.int κ (κ.wrap (a + b)))
  | .sub => k (.int κ (κ.wrap (a - b)))
  | .mul => k (.int κ (κ.wrap (a * b)))
  | .quo => br (b == 0) False (k (.int κ (κ.wrap (a.tdiv b))))
  | .rem => br (b == 0) False (k (.int κ (a.tmod b)))
  | .and => k (.int κ (bits .and κ a b))
  | .or => k (.int κ (bits .or κ a b))
  | .xor => k (.int κ (bits .xor κ a b))
  | .andNot => k (.int κ (bits .andNot κ a b))
  | .eql => k (.bool (a == b))
  | .neq => k (.bool (a != b))
  | .lss => k (.bool (decide (a < b)))
  | .leq => k (.bool (decide (a ≤ b)))
  | .gtr => k (.bool (decide (a > b)))
  | .geq => k (.bool (decide (a ≥ b)))
  | _ => False

def shiftN (κ : IntKind) (b : Int) : Nat := min b.toNat κ.bits
def shiftPT (op : BinOp) (κ : IntKind) (a b : Int) (k : Value → Prop) : Prop :=
  match op with
  | .shl => br (decide (b < 0)) False (k (.int κ (κ.wrap (a * 2 ^ shiftN κ b))))
  | .shr => br (decide (b < 0)) False (k (.int κ (a.fdiv (2 ^ shiftN κ b))))
  | _ => False

def fcmpPT (op : BinOp) (κ : FloatKind) (a b : Nat) (k : Value → Prop) : Prop :=
  match op with
  | .eql => k (.bool (feq κ a b))
  | .neq => k (.bool (fne κ a b))
  | .lss => k (.bool (flt κ a b))
  | .leq => k (.bool (fle κ a b))
  | .gtr => k (.bool (fgt κ a b))
  | .geq => k (.bool (fge κ a b))
  | _ => False

def strPT (op : BinOp) (a b : ByteArray) (k : Value → Prop) : Prop :=
  match op with
  | .add => ((a.size + b.size : Nat) : Int) ≤ 9223372036854775807 ∧ k (.string (a ++ b))
  | .eql => k (.bool (a.toList == b.toList))
  | .neq => k (.bool (!(a.toList == b.toList)))
  | _ => False

def isShift : BinOp → Bool | .shl | .shr => true | _ => false
def isArith : BinOp → Bool | .add | .sub | .mul | .quo => true | _ => false

def binLc (P : Program) (op : BinOp) (ty : TypeId) (x y : Value) (k : Value → Prop) : Prop :=
  match x with
  | .int κ a =>
    match y with
    | .int κ' b =>
      match isShift op with
      | true => shiftPT op κ a b k
      | false => br (decide (κ = κ')) (intPT op κ a b k) False
    | _ => False
  | .float κ a =>
    match y with
    | .float κ' b => br (decide (κ = κ')) (fcmpPT op κ a b k) False
    | _ => False
  | .string a =>
    match y with
    | .string b => strPT op a b k
    | _ => False
  | .bool a =>
    match y with
    | .bool b =>
      match P.underlying ty with
      | some .bool =>
        match op with
        | .eql => k (.bool (a == b))
        | .neq => k (.bool (!(a == b)))
        | _ => False
      | _ => False
    | _ => False
  | _ => False

section
variable {P : Program} {op : BinOp} {ty : TypeId} {xo yo : Operand} {k : Value → Prop}
theorem intPT_run {κ : IntKind} {a b : Int} (h : intPT op κ a b k) :
    ∃ v, (∀ w, (do eqGuard op ty xo yo (.int κ a) (.int κ b); binOp op ty (.int κ a) (.int κ b) : Sem Value).run P w = .ok v w) ∧ k v := by
  have hg : eqGuard op ty xo yo (.int κ a) (.int κ b) = pure () := eqGuard_at_int ..
  unfold intPT at h
  cases op <;> simp only at h <;> first
    | exact h.elim
    | (refine ⟨_, fun w => ?_, h⟩; simp [hg, binOp, Op.intArith, Op.intCmp]; done)
    | (refine ⟨_, fun w => ?_, h⟩; simp [hg, binOp_and, binOp_or, binOp_xor, binOp_andNot, intBits_and, intBits_or, intBits_xor, intBits_andNot]; done)
    | skip
  all_goals
    obtain ⟨hb, h⟩ := br_not h
    have hb' : b ≠ 0 := by simpa using hb
    exact ⟨_, fun w => by simp [hg, binOp, Op.intDiv, hb'], h⟩

theorem shiftPT_run {κ κ' : IntKind} {a b : Int} (h : shiftPT op κ a b k) :
    ∃ v, (∀ w, (do eqGuard op ty xo yo (.int κ a) (.int κ' b); binOp op ty (.int κ a) (.int κ' b) : Sem Value).run P w = .ok v w) ∧ k v := by
  have hg : eqGuard op ty xo yo (.int κ a) (.int κ' b) = pure () := eqGuard_at_int ..
  unfold shiftPT at h
  cases op <;> simp only at h <;> first
    | exact h.elim
    | skip
  all_goals
    obtain ⟨hb, h⟩ := br_not h
    have hb' : ¬ b < 0 := by simpa using hb
    exact ⟨_, fun w => by simp [hg, binOp, Op.shift, hb', shiftN], h⟩

theorem fcmpPT_run {κ : FloatKind} {a b : Nat} (h : fcmpPT op κ a b k) :
    ∃ v, (∀ w, (do eqGuard op ty xo yo (.float κ a) (.float κ b); binOp op ty (.float κ a) (.float κ b) : Sem Value).run P w = .ok v w) ∧ k v := by
  have hg : eqGuard op ty xo yo (.float κ a) (.float κ b) = pure () := eqGuard_at_float ..
  unfold fcmpPT at h
  cases op <;> simp only at h <;> first
    | exact h.elim
    | (refine ⟨_, fun w => ?_, h⟩; simp [hg, binOp, Op.floatCmp, feq, fne, flt, fle, fgt, fge]; done)

theorem strPT_run {a b : ByteArray} (h : strPT op a b k) :
    ∃ v, (∀ w, (do eqGuard op ty xo yo (.string a) (.string b); binOp op ty (.string a) (.string b) : Sem Value).run P w = .ok v w) ∧ k v := by
  have hg : eqGuard op ty xo yo (.string a) (.string b) = pure () := eqGuard_at_string ..
  unfold strPT at h
  cases op <;> simp only at h <;> first
    | exact h.elim
    | (refine ⟨_, fun w => ?_, h⟩; simp [hg, binOp, Op.stringOp]; done)
    | skip
  obtain ⟨h1, h2⟩ := h
  have h3 : ¬ ((a.size + b.size : Nat) : Int) > IntKind.i64.max := by rw [IntKind.max_i64]; omega
  exact ⟨_, fun w => by simp only [hg, binOp, Op.stringOp, if_neg h3]; rfl, h2⟩

theorem binLc_run {x y : Value} (h : binLc P op ty x y k) :
    ∃ v, (∀ w, (do eqGuard op ty xo yo x y; binOp op ty x y : Sem Value).run P w = .ok v w) ∧ k v := by
  unfold binLc at h
  split at h
  · split at h
    · split at h
      · exact shiftPT_run h
      · obtain ⟨rfl, h'⟩ := br_dec h
        exact intPT_run h'
    · exact h.elim
  · split at h
    · obtain ⟨rfl, h'⟩ := br_dec h
      exact fcmpPT_run h'
    · exact h.elim
  · split at h
    · exact strPT_run h
    · exact h.elim
  · split at h
    · split at h
      · rename_i hu
        split at h
        · exact ⟨_, fun w => by rw [eqGuard_at_bool]; exact run_eql_bool w _ _ _ hu, h⟩
        · exact ⟨_, fun w => by rw [eqGuard_at_bool]; exact run_neq_bool w _ _ _ hu, h⟩
        · exact h.elim
      · exact h.elim
    · exact h.elim
  · exact h.elim
end

def unPT (op : UnOp) (x : Value) (k : Value → Prop) : Prop :=
  match x with
  | .int κ n =>
    match op with
    | .neg => k (.int κ (κ.wrap (0 - n)))
    | .xor => k (.int κ (bits .xor κ (if κ.signed then -1 else κ.max) n))
    | _ => False
  | .float κ b =>
    match op with
    | .neg => k (.float κ (Op.negFloat κ b))
    | _ => False
  | .bool b =>
    match op with
    | .not => k (.bool !b)
    | _ => False
  | _ => False

theorem unPT_run {P : Program} {op : UnOp} {x : Value} {k : Value → Prop} (h : unPT op x k) :
    ∃ v, (∀ w, (Op.unary op x).run P w = .ok v w) ∧ k v := by
  unfold unPT at h
  split at h
  · split at h
    · exact ⟨_, fun w => by simp [Op.unary, Op.intArith], h⟩
    · exact ⟨_, fun w => rfl, h⟩
    · exact h.elim
  · split at h
    · exact ⟨_, fun w => rfl, h⟩
    · exact h.elim
  · split at h
    · exact ⟨_, fun w => rfl, h⟩
    · exact h.elim
  · exact h.elim

def cvLc (P : Program) (src dst : TypeId) (x : Value) (k : Value → Prop) : Prop :=
  match (P.underlying src).isSome with
  | true =>
    match P.underlying dst with
    | some (.int κ) =>
      match x with
      | .int _ n => k (.int κ (κ.wrap n))
      | .float s b => ∃ n, floatToIntVal s b κ = some n ∧ k (.int κ n)
      | _ => False
    | some (.float κ) =>
      match x with
      | .int _ n => k (.float κ (floatOfInt κ n))
      | .float s b => br (decide (s = κ)) (k (.float κ b)) False
      | _ => False
    | some .string =>
      match x with
      | .string s => k (.string s)
      | _ => False
    | _ => False
  | false => False

theorem cvLc_run {P : Program} {src dst : TypeId} {x : Value} {k : Value → Prop} (h : cvLc P src dst x k) :
    ∃ v, (∀ w, (convert src dst x).run P w = .ok v w) ∧ k v := by
  unfold cvLc at h
  split at h
  case h_2 => exact h.elim
  rename_i hs
  obtain ⟨d, hd⟩ := Option.isSome_iff_exists.1 hs
  split at h
  · rename_i κ hu
    split at h
    · exact ⟨_, fun w => by simp [convert, run_underlying hd, run_underlying hu, Conv.intToInt], h⟩
    · obtain ⟨n, hn, h⟩ := h
      exact ⟨_, fun w => run_convert_float_int w _ _ _ _ _ _ hs hu hn, h⟩
    · exact h.elim
  · rename_i κ hu
    split at h
    · exact ⟨_, fun w => run_convert_int_float w _ _ _ _ _ hs hu, h⟩
    · obtain ⟨rfl, h'⟩ := br_dec h
      exact ⟨_, fun w => run_convert_float_float w _ _ _ _ _ _ hs hu (by simp [floatToFloatBits]), h'⟩
    · exact h.elim
  · rename_i hu
    split at h
    · refine ⟨_, fun w => ?_, h⟩
      cases d <;> simp [convert, run_underlying hd, run_underlying hu]
    · exact h.elim
  · exact h.elim

/-- A struct's field, by value. -/
def partPT (P : Program) (ty : TypeId) (cs : List Value) (off : Nat) (k : Value → Prop) : Prop :=
  match aggT P ty with
  | true => match szOf P ty with | some n => k (.agg ⟨(cs.drop off).take n⟩) | none => False
  | false => match P.underlying ty with
    | some _ => match cs[off]? with | some v => k v | none => False
    | none => False

theorem aggT_run {P : Program} {ty : TypeId} {d : TypeDesc} (hd : P.underlying ty = some d) (w : World) : (isAgg ty).run P w = .ok (aggT P ty) w := by
  unfold isAgg aggT
  simp only [Sem.run_bind, run_underlying hd, Result.andThen_ok, hd]
  cases d <;> rfl

theorem partPT_run {P : Program} {ty : TypeId} {cs : List Value} {off : Nat} {k : Value → Prop} (h : partPT P ty cs off k) :
    ∃ v, (∀ w, (part ty ⟨cs⟩ off).run P w = .ok v w) ∧ k v := by
  unfold partPT at h
  cases ha : aggT P ty with
  | true =>
    rw [ha] at h
    simp only at h
    have hd : ∃ d, P.underlying ty = some d := by
      unfold aggT at ha
      split at ha <;> first | exact ⟨_, ‹_›⟩ | cases ha
    obtain ⟨d, hd⟩ := hd
    split at h
    · rename_i n hn
      refine ⟨_, fun w => ?_, h⟩
      have := aggT_run hd w
      rw [ha] at this
      simp [part, this, run_sizeOf' hn, List.take_drop]
    · exact h.elim
  | false =>
    rw [ha] at h
    simp only at h
    split at h
    · rename_i d hd
      split at h
      · rename_i v hv
        refine ⟨_, fun w => ?_, h⟩
        have := aggT_run hd w
        rw [ha] at this
        simp [part, this, hv]
      · exact h.elim
    · exact h.elim

def fieldOf (P : Program) (s : TypeId) (f : Nat) : Option Field :=
  match P.underlying s with
  | some (.struct fs) => fs.toList[f]?
  | _ => none

theorem fieldOf_run {P : Program} {s : TypeId} {f : Nat} {fd : Field} (h : fieldOf P s f = some fd) :
    ∃ fs, P.underlying s = some (.struct fs) ∧ fs[f]? = some fd := by
  unfold fieldOf at h
  split at h
  · rename_i fs hu; exact ⟨fs, hu, by simpa using h⟩
  · cases h

/-- The place of an element. -/
def idxPT (a : Addr) (i : Int) (s : Nat) (k : Value → Prop) : Prop :=
  match s with
  | 1 => k (.pointer (some (a.add i.toNat)))
  | s => k (.pointer (some (a.add (i.toNat * s))))
theorem idxPT_eq (a : Addr) (i : Int) (s : Nat) (k : Value → Prop) : idxPT a i s k = k (.pointer (some (a.add (i.toNat * s)))) := by
  unfold idxPT
  split
  · rw [Nat.mul_one]
  · rfl

/-- Operations that look at nothing but the frame, and leave the world alone. -/
def lcPT (P : Program) (o : Op) (t : List Value) (k : Value → Prop) : Prop :=
  match o with
  | .move x => k (ev t x)
  | .assign x => k (ev t x)
  | .pick c a b =>
    match ev t c with
    | .bool c => br c (k (ev t a)) (k (ev t b))
    | _ => False
  | .binOp op ty x y _ => binLc P op ty (ev t x) (ev t y) k
  | .unOp op _ x => unPT op (ev t x) k
  | .convert s d x => cvLc P s d (ev t x) k
  | .makeFunc fn fi ca => k (.func fn ⟨fi.toList.map (ev t)⟩ ⟨ca.toList.map (ev t)⟩)
  | .makeInterface ty x => br (P.concrete ty) (k (.iface ty (ev t x))) False
  | .build ty parts =>
    match builtL P ty (parts.toList.map fun p => (p.1, ev t p.2)) with
    | some cs => k (.agg ⟨cs⟩)
    | none => False
  | .nilCheck x =>
    match ev t x with
    | .pointer p => ptrSome p fun a => k (.pointer (some a))
    | .func (.func f) fi ca => k (.func (.func f) fi ca)
    | _ => False
  | .fieldAddr s x f =>
    match ev t x with
    | .pointer p => ptrSome p fun a =>
      match fieldOf P s f with
      | some fd => match szOf P fd.type with
        | some (_ + 1) => k (.pointer (some (a.add fd.offset)))
        | _ => False
      | none => False
    | _ => False
  | .field s x f =>
    match ev t x with
    | .agg ⟨cs⟩ =>
      match fieldOf P s f with
      | some fd => partPT P fd.type cs fd.offset k
      | none => False
    | _ => False
  | .indexAddr ty x i =>
    match ev t i with
    | .int _ i =>
      match P.underlying ty with
      | some (.slice e) =>
        match ev t x with
        | .slice p len _ => ptrSome p fun a =>
          match szOf P e with
          | some s => 0 ≤ i ∧ i < (len : Int) ∧ idxPT a i s k
          | none => False
        | _ => False
      | some (.array n e) =>
        match ev t x with
        | .pointer p => ptrSome p fun a =>
          match szOf P e with
          | some s => 0 ≤ i ∧ i < (n : Int) ∧ idxPT a i s k
          | none => False
        | _ => False
      | _ => False
    | _ => False
  | .index ty x i =>
    match ev t i with
    | .int _ i =>
      match P.underlying ty with
      | some .string =>
        match ev t x with
        | .string s => 0 ≤ i ∧ ∃ b : UInt8, s.data.toList[i.toNat]? = some b ∧ k (.int .u8 b.toNat)
        | _ => False
      | some (.array n e) =>
        match ev t x with
        | .agg ⟨cs⟩ =>
          match szOf P e with
          | some s => 0 ≤ i ∧ i < (n : Int) ∧ partPT P e cs (szMul i.toNat s) k
          | none => False
        | _ => False
      | _ => False
    | _ => False
  | .extract x i =>
    match ev t x with
    | .tuple ⟨vs⟩ => match vs[i]? with | some v => k v | none => False
    | _ => False
  | .slice ty x lo hi mx =>
    match P.underlying ty with
    | some .string =>
      match ev t x with
      | .string s =>
        match mx with
        | none => boundsPT s.size s.size (lo.map (ev t)) (hi.map (ev t)) none fun l h _ => k (.string (s.extract l h))
        | some _ => False
      | _ => False
    | some (.slice e) =>
      match ev t x with
      | .slice a len cap =>
        match szOf P e with
        | some s => boundsPT len cap (lo.map (ev t)) (hi.map (ev t)) (mx.map (ev t)) fun l h m => k (sliceRes a l h m s)
        | none => False
      | _ => False
    | some (.array n e) =>
      match ev t x with
      | .pointer p => ptrSome p fun a =>
        match szOf P e with
        | some s => boundsPT n n (lo.map (ev t)) (hi.map (ev t)) (mx.map (ev t)) fun l h m => k (sliceRes (some a) l h m s)
        | none => False
      | _ => False
    | _ => False
  | .call c =>
    match c.callee with
    | .builtin b =>
      match b with
      | .len =>
        match c.argTypes.toList, c.args.toList with
        | [ty], [x] =>
          match P.underlying ty, ev t x with
          | some (.slice _), .slice _ n _ => k (.int .i64 n)
          | some .string, .string s => k (.int .i64 s.size)
          | _, _ => False
        | _, _ => False
      | .cap =>
        match c.argTypes.toList, c.args.toList with
        | [ty], [x] =>
          match P.underlying ty, ev t x with
          | some (.slice _), .slice _ _ n => k (.int .i64 n)
          | _, _ => False
        | _, _ => False
      | .min =>
        match c.args.toList with
        | [x, y] =>
          match ev t x, ev t y with
          | .int κ a, .int _ b => k (.int κ (if b < a then b else a))
          | _, _ => False
        | _ => False
      | .max =>
        match c.args.toList with
        | [x, y] =>
          match ev t x, ev t y with
          | .int κ a, .int _ b => k (.int κ (if b > a then b else a))
          | _, _ => False
        | [x, y, z] =>
          match ev t x, ev t y, ev t z with
          | .int κ a, .int _ b, .int _ c => k (.int κ (if c > (if b > a then b else a) then c else (if b > a then b else a)))
          | _, _, _ => False
        | _ => False
      | _ => False
    | _ => False
  | _ => False
end Go.Wk

/-! ### WkLc -/
namespace Go.Wk
open Go

theorem optmap_ev (t : List Value) (x : Option Operand) : (x.map (ev t)) = x.map (ev t) := rfl

theorem lcPT_run {P : Program} {o : Oper} {t : List Value} {k : Value → Prop} (h : lcPT P o.op t k) :
    ∃ v, (∀ w, (execOp (ev t) o).run P w = .ok (.value v) w) ∧ k v := by
  obtain ⟨dst, op, type, pos, after, guard⟩ := o
  simp only at h
  unfold lcPT at h
  split at h
  · exact ⟨_, fun w => rfl, h⟩
  · exact ⟨_, fun w => rfl, h⟩
  · -- pick
    split at h
    · rename_i c hc
      cases c with
      | true => exact ⟨_, fun w => by simp [execOp, hc, asBool], h⟩
      | false => exact ⟨_, fun w => by simp [execOp, hc, asBool], h⟩
    · exact h.elim
  · -- binOp
    rename_i op ty x y yt
    obtain ⟨v, hr, hk⟩ := binLc_run (xo := x) (yo := y) h
    refine ⟨v, fun w => ?_, hk⟩
    have := hr w
    simp only [execOp]
    rw [Sem.run_bind, this]
    rfl
  · -- unOp
    obtain ⟨v, hr, hk⟩ := unPT_run (P := P) h
    exact ⟨v, fun w => by simp [execOp, hr w], hk⟩
  · obtain ⟨v, hr, hk⟩ := cvLc_run h
    exact ⟨v, fun w => by simp [execOp, hr w], hk⟩
  · -- makeFunc
    refine ⟨_, fun w => ?_, h⟩
    simp [execOp, Instr.makeFunc]
    constructor <;> (apply Array.ext'; simp)
  · -- makeInterface
    rename_i ty x
    cases hc : P.concrete ty with
    | false => rw [hc] at h; exact h.elim
    | true =>
      rw [hc] at h
      exact ⟨_, fun w => by simp [execOp, run_makeInterface w ty _ hc], h⟩
  · -- build
    rename_i ty parts
    split at h
    · rename_i cs hb
      refine ⟨_, fun w => ?_, h⟩
      have hb' := built_of hb
      have : (parts.map fun (i, x) => (i, ev t x)).toList = parts.toList.map fun p => (p.1, ev t p.2) := by simp
      rw [← this] at hb'
      simp only [execOp, Sem.run_bind, run_build w ty _ _ hb']
      rfl
    · exact h.elim
  · -- nilCheck
    rename_i x
    split at h
    · rename_i p hp
      obtain ⟨a, rfl, hk⟩ := ptrSome_elim h
      exact ⟨_, fun w => by simp [execOp, hp], hk⟩
    · rename_i f fi ca hp
      exact ⟨_, fun w => by simp [execOp, hp], h⟩
    · exact h.elim
  · -- fieldAddr
    rename_i s x f
    split at h
    · rename_i p hp
      obtain ⟨a, rfl, hk⟩ := ptrSome_elim h
      split at hk
      · rename_i fd hfd
        obtain ⟨fs, hu, hf⟩ := fieldOf_run hfd
        split at hk
        · rename_i n hn
          refine ⟨_, fun w => ?_, hk⟩
          simp [execOp, hp, Instr.fieldAt, run_underlying hu, hf, Instr.sureAddr, fieldPlace, run_sizeOf' hn]
        · exact hk.elim
      · exact hk.elim
    · exact h.elim
  · -- field
    rename_i s x f
    split at h
    · rename_i cs hc
      split at h
      · rename_i fd hfd
        obtain ⟨fs, hu, hf⟩ := fieldOf_run hfd
        obtain ⟨v, hr, hk⟩ := partPT_run h
        exact ⟨v, fun w => by simp [execOp, hc, Instr.field, run_underlying hu, hf, asAgg, hr w], hk⟩
      · exact h.elim
    · exact h.elim
  · -- indexAddr
    rename_i ty x i
    split at h
    · rename_i κ n hi
      split at h
      · rename_i e hu
        split at h
        · rename_i p len cap hx
          obtain ⟨a, rfl, h⟩ := ptrSome_elim h
          split at h
          · rename_i s hs
            obtain ⟨h1, h2, hk⟩ := h
            rw [idxPT_eq] at hk
            exact ⟨_, fun w => by simp [execOp, hi, hx, Instr.indexAt, asIntOf, run_underlying hu, h1, h2, run_sizeOf' hs], hk⟩
          · exact h.elim
        · exact h.elim
      · rename_i m e hu
        split at h
        · rename_i p hx
          obtain ⟨a, rfl, h⟩ := ptrSome_elim h
          split at h
          · rename_i s hs
            obtain ⟨h1, h2, hk⟩ := h
            rw [idxPT_eq] at hk
            exact ⟨_, fun w => by simp [execOp, hi, hx, Instr.indexAt, asIntOf, run_underlying hu, h1, h2, run_sizeOf' hs, Instr.sureAddr], hk⟩
          · exact h.elim
        · exact h.elim
      · exact h.elim
    · exact h.elim
  · -- index
    rename_i ty x i
    split at h
    · rename_i κ n hi
      split at h
      · rename_i hu
        split at h
        · rename_i s hx
          obtain ⟨h1, b, hb, hk⟩ := h
          have hb' : s[n.toNat]? = some b := by
            have hlt : n.toNat < s.data.toList.length := (List.getElem?_eq_some_iff.1 hb).1
            have hlt' : n.toNat < s.size := by simpa using hlt
            rw [getElem?_pos s n.toNat hlt']
            have := (List.getElem?_eq_some_iff.1 hb).2
            rw [← this]; simp; rfl
          exact ⟨_, fun w => by simp [execOp, hi, hx, Instr.index, asIntOf, run_underlying hu, h1, hb'], hk⟩
        · exact h.elim
      · rename_i m e hu
        split at h
        · rename_i cs hx
          split at h
          · rename_i s hs
            obtain ⟨h1, h2, hk⟩ := h
            rw [szMul_eq] at hk
            obtain ⟨v, hr, hk⟩ := partPT_run hk
            exact ⟨v, fun w => by simp [execOp, hi, hx, Instr.index, asIntOf, run_underlying hu, h1, h2, run_sizeOf' hs, hr w], hk⟩
          · exact h.elim
        · exact h.elim
      · exact h.elim
    · exact h.elim
  · -- extract
    rename_i x i
    split at h
    · rename_i vs hx
      split at h
      · rename_i v hv
        exact ⟨_, fun w => by simp [execOp, hx, Instr.extract, hv], h⟩
      · exact h.elim
    · exact h.elim
  · -- slice
    rename_i ty x lo hi mx
    split at h
    · rename_i hu
      split at h
      · rename_i s hx
        split at h
        · obtain ⟨l, hh, m, hr, hk⟩ := boundsPT_run h P
          refine ⟨_, fun w => ?_, hk⟩
          simp [execOp, hx, Instr.sliceAt, Instr.slice, run_underlying hu, hr]
        · exact h.elim
      · exact h.elim
    · rename_i e hu
      split at h
      · rename_i a len cap hx
        split at h
        · rename_i s hs
          obtain ⟨l, hh, m, hr, hk⟩ := boundsPT_run h P
          refine ⟨_, fun w => ?_, hk⟩
          simp [execOp, hx, Instr.sliceAt, Instr.slice, run_underlying hu, hr, run_sizeOf' hs, sliceRes]
        · exact h.elim
      · exact h.elim
    · rename_i n e hu
      split at h
      · rename_i p hx
        obtain ⟨a, rfl, h⟩ := ptrSome_elim h
        split at h
        · rename_i s hs
          obtain ⟨l, hh, m, hr, hk⟩ := boundsPT_run h P
          refine ⟨_, fun w => ?_, hk⟩
          simp [execOp, hx, Instr.sliceAt, run_underlying hu, hr, run_sizeOf' hs, sliceRes, Instr.sureAddr]
          split <;> simp
        · exact h.elim
      · exact h.elim
    · exact h.elim
  · -- call
    rename_i c
    obtain ⟨callee, args, argTypes⟩ := c
    simp only at h
    have harr : ∀ (xs : List Operand), args.toList = xs → args = ⟨xs⟩ := fun xs hx => by rw [← hx]
    have htyp : ∀ (xs : List TypeId), argTypes.toList = xs → argTypes = ⟨xs⟩ := fun xs hx => by rw [← hx]
    split at h
    · rename_i b
      split at h
      · split at h
        · rename_i ty x h1 h2
          obtain rfl := harr _ h2
          obtain rfl := htyp _ h1
          split at h
          · rename_i e a n c hu hx
            exact ⟨_, fun w => by simp [execOp, resolve, invoke, builtin, hx, Builtin.len_, run_underlying hu, goInt], h⟩
          · rename_i s hu hx
            exact ⟨_, fun w => by simp [execOp, resolve, invoke, builtin, hx, Builtin.len_, run_underlying hu, goInt], h⟩
          · exact h.elim
        · exact h.elim
      · split at h
        · rename_i ty x h1 h2
          obtain rfl := harr _ h2
          obtain rfl := htyp _ h1
          split at h
          · rename_i e a n c hu hx
            exact ⟨_, fun w => by simp [execOp, resolve, invoke, builtin, hx, Builtin.cap_, run_underlying hu, goInt], h⟩
          · exact h.elim
        · exact h.elim
      · split at h
        · rename_i x y h2
          obtain rfl := harr _ h2
          split at h
          · rename_i κ a κ' b hx hy
            exact ⟨_, fun w => by simp [execOp, resolve, invoke, builtin, hx, hy, Builtin.min_, Builtin.min2], h⟩
          · exact h.elim
        · exact h.elim
      · split at h
        · rename_i x y h2
          obtain rfl := harr _ h2
          split at h
          · rename_i κ a κ' b hx hy
            exact ⟨_, fun w => by simp [execOp, resolve, invoke, builtin, hx, hy, Builtin.max_, Builtin.max2], h⟩
          · exact h.elim
        · rename_i x y z h2
          obtain rfl := harr _ h2
          split at h
          · rename_i κ a κ' b κ'' c hx hy hz
            exact ⟨_, fun w => by simp [execOp, resolve, invoke, builtin, hx, hy, hz, Builtin.max_, Builtin.max2], h⟩
          · exact h.elim
        · exact h.elim
      · exact h.elim
    · exact h.elim
  · exact h.elim
end Go.Wk

/-! ### WkWo -/
namespace Go.Wk
open Go

/-- Is it an operation that looks at nothing but the frame? -/
def isLoc (P : Program) (o : Op) (t : List Value) : Bool :=
  match o with
  | .alloc _ | .box _ _ | .buildSlice .. | .load _ _ | .store .. | .makeSlice .. => false
  | .binOp op _ x _ _ =>
    match ev t x with
    | .int _ _ | .string _ | .bool _ => true
    | .float _ _ => !isArith op
    | _ => false
  | .convert _ d x =>
    match P.underlying d with
    | some (.int _) | some (.float _) => true
    | some .string => match ev t x with | .string _ => true | _ => false
    | _ => false
  | .call c =>
    match c.callee with
    | .builtin b =>
      match b with
      | .len | .cap => true
      | .min | .max =>
        match c.args.toList with
        | x :: _ => match ev t x with | .int _ _ => true | _ => false
        | _ => false
      | _ => false
    | _ => false
  | _ => true

def mkPT (P : Program) (ty : TypeId) (l c : Value) (w : World) (k : Value → World → Prop) : Prop :=
  match P.underlying ty with
  | some (.slice e) =>
    match P.info? e with
    | some i =>
      match i.zero.map cellsL with
      | some z =>
        match l with
        | .int _ n =>
          match c with
          | .int _ m => 0 ≤ n ∧ n ≤ m ∧ ((i.bytes : Nat) : Int) * m ≤ 281474976710656 ∧ m ≤ 9223372036854775807 ∧
              newB ((List.range (szMul m.toNat i.size)).map fun j => z.getD (j % z.length) default) e w fun a w' => k (.slice (some a) n.toNat m.toNat) w'
          | _ => False
        | _ => False
      | none => False
    | none => False
  | _ => False

def callPT (P : Program) (ty : TypeId) (f : Value) (args : List Value) (w : World) (k : Value → World → Prop) : Prop :=
  match f with
  | .func (.func g) fi ca => CallF P g (fi.toList ++ args ++ ca.toList) w fun v w' => shV P ty v fun v' => k v' w'
  | _ => False

def woPT (P : Program) (o : Oper) (t : List Value) (w : World) (k : Value → World → Prop) : Prop :=
  match o.op with
  | .alloc e =>
    match zeroOf P e with
    | some cs => newB cs e w fun a w' => k (.pointer (some a)) w'
    | none => False
  | .box e x => newB (cellsL (ev t x)) e w fun a w' => k (.pointer (some a)) w'
  | .buildSlice ty n parts =>
    match P.underlying ty with
    | some (.slice e) =>
      match szOf P e with
      | some s =>
        match zeroOf P e with
        | some z =>
          match litL z s n (parts.toList.map fun p => (p.1, ev t p.2)) with
          | some cs => br (decide (szMul n s ≤ 16777216)) (newB cs e w fun a w' => k (.slice (some a) n n) w') False
          | none => False
        | none => False
      | none => False
    | _ => False
  | .load ty a =>
    match ev t a with
    | .pointer p => ptrSome p fun a => ldPT P ty a w k
    | _ => False
  | .store ty a v =>
    match ev t a with
    | .pointer p => ptrSome p fun a => br (sizeIs P ty (cellsL (ev t v)).length) (stPT a 0 (cellsL (ev t v)) w fun w' => k undef w') False
    | _ => False
  | .makeSlice ty l c => mkPT P ty (ev t l) (ev t c) w k
  | .binOp op ty x y _ =>
    match ev t x with
    | .float κ a =>
      match ev t y with
      | .float κ' b =>
        match isArith op with
        | true => br (decide (κ = κ')) (fop op κ a b w fun r w' => k (.float κ r) w') False
        | false => False
      | _ => False
    | vx => Raw P (do eqGuard op ty x y vx (ev t y); binOp op ty vx (ev t y)) w fun v w' => ∃ b, v = .bool b ∧ k (.bool b) w'
  | .convert s d x => Raw P (convert s d (ev t x)) w fun v w' => shV P o.type v fun v' => k v' w'
  | .call c =>
    match c.callee with
    | .value f => callPT P o.type (ev t f) (c.args.toList.map (ev t)) w k
    | .builtin b =>
      match b with
      | .append => Raw P (Builtin.append_ c.argTypes o.type ⟨c.args.toList.map (ev t)⟩) w fun v w' => ∃ a n m, v = .slice a n m ∧ k (.slice a n m) w'
      | .copy => Raw P (Builtin.copy_ c.argTypes o.type ⟨c.args.toList.map (ev t)⟩) w fun v w' => ∃ i, v = .int .i64 i ∧ k (.int .i64 i) w'
      | .min => Raw P (Builtin.min_ c.argTypes o.type ⟨c.args.toList.map (ev t)⟩) w fun v w' => shV P o.type v fun v' => k v' w'
      | .max => Raw P (Builtin.max_ c.argTypes o.type ⟨c.args.toList.map (ev t)⟩) w fun v w' => shV P o.type v fun v' => k v' w'
      | _ => False
    | _ => False
  | _ => False

theorem Raw_elim {P : Program} {s : Sem Value} {w : World} {k : Value → World → Prop} (h : Raw P s w k) : ∃ v w', s.run P w = .ok v w' ∧ k v w' := by
  unfold Raw at h
  split at h
  · rename_i v w' e; exact ⟨v, w', e, h⟩
  · exact h.elim

theorem args_map (args : Array Operand) (t : List Value) : args.map (ev t) = ⟨args.toList.map (ev t)⟩ := by
  apply Array.ext'; simp

theorem woPT_sound {P : Program} {o : Oper} {t : List Value} {w : World} {k : Value → World → Prop} (h : woPT P o t w k) :
    upon P k ((execOp (ev t) o).run P w) := by
  have val : ∀ {v w'}, (execOp (ev t) o).run P w = .ok (.value v) w' → k v w' → upon P k ((execOp (ev t) o).run P w) := by
    intro v w' e hk; rw [e]; exact hk
  obtain ⟨dst, op, type, pos, after, guard⟩ := o
  simp only [woPT] at h
  split at h
  · -- alloc
    rename_i e
    split at h
    · rename_i cs hz
      obtain ⟨v, hv, rfl⟩ := zeroOf_run hz w
      refine val (w' := w.alloc (.cells ⟨cellsL v⟩ e)) ?_ h
      simp [execOp, Instr.alloc, hv, newVar, newRow, cells_eq]
    · exact h.elim
  · -- box
    rename_i e x
    refine val (w' := w.alloc (.cells ⟨cellsL (ev t x)⟩ e)) ?_ h
    simp [execOp, Instr.box, newVar, newRow, cells_eq]
  · -- buildSlice
    rename_i ty n parts
    split at h
    · rename_i e hu
      split at h
      · rename_i s hs
        split at h
        · rename_i z hz
          split at h
          · rename_i cs hl
            obtain ⟨hb, h⟩ := br_dec h
            have hp : (parts.map fun (i, x) => (i, ev t x)).toList = parts.toList.map fun p => (p.1, ev t p.2) := by simp
            rw [← hp] at hl
            refine val (w' := w.alloc (.cells ⟨cs⟩ e)) ?_ h
            simp only [execOp, Sem.run_bind, run_buildSlice hu hs hz hb hl w, Result.andThen_ok]
            rfl
          · exact h.elim
        · exact h.elim
      · exact h.elim
    · exact h.elim
  · -- load
    rename_i ty a
    split at h
    · rename_i p hp
      obtain ⟨a, rfl, h⟩ := ptrSome_elim h
      obtain ⟨v, hr, hk, _⟩ := ldPT_sound h
      exact val (by simp [execOp, hp, Instr.loadAt, Instr.sureAddr, hr]) hk
    · exact h.elim
  · -- store
    rename_i ty ao v
    split at h
    · rename_i p hp
      obtain ⟨a, rfl, h⟩ := ptrSome_elim h
      cases hs : sizeIs P ty (cellsL (ev t v)).length with
      | false => rw [hs] at h; exact h.elim
      | true =>
        rw [hs] at h
        obtain ⟨w', hr, hk⟩ := stPT_sound (P := P) h
        have hr' := run_storeVar hs hr
        have : (execOp (ev t) { dst, op := .store ty ao v, type, pos, after, guard }).run P w = .ok .skip w' := by
          simp [execOp, hp, Instr.storeAt, Instr.sureAddr, hr']
        rw [this]
        exact hk
    · exact h.elim
  · -- makeSlice
    rename_i ty l c
    unfold mkPT at h
    split at h
    · rename_i e hu
      split at h
      · rename_i i hi
        split at h
        · rename_i z hz
          split at h
          · rename_i κ n hl
            split at h
            · rename_i κ' m hc
              obtain ⟨h1, h2, h3, h4, h⟩ := h
              cases hzz : i.zero with
              | none => simp [hzz] at hz
              | some zv =>
                simp [hzz] at hz
                have hr := run_make (P := P) w ty e i zv hu hi hzz κ κ' n m h1 h2 h3 h4
                have harr : madeCells zv.cells (m.toNat * i.size) = ⟨(List.range (szMul m.toNat i.size)).map fun j => z.getD (j % z.length) default⟩ := by
                  unfold madeCells
                  rw [szMul_eq]
                  apply Array.ext'
                  simp only [Array.toList_map, Array.toList_range]
                  apply List.map_congr_left
                  intro j _
                  rw [cells_eq, hz]
                  simp [getElem!_def, List.getD]
                  cases z[j % z.length]? <;> rfl
                rw [harr] at hr
                refine val (w' := _) ?_ h
                simp [execOp, hl, hc, hr]
            · exact h.elim
          · exact h.elim
        · exact h.elim
      · exact h.elim
    · exact h.elim
  · -- binOp
    rename_i op ty x y yt
    split at h
    · rename_i κ a hx
      split at h
      · rename_i κ' b hy
        split at h
        · rename_i ha
          obtain ⟨rfl, h'⟩ := br_dec h
          have hop : op = .add ∨ op = .sub ∨ op = .mul ∨ op = .quo := by
            cases op <;> simp [isArith] at ha <;> simp
          obtain ⟨r, w', hr, hk⟩ := fop_sound (P := P) (t := ty) hop h'
          have hg : eqGuard op ty x y (.float κ a) (.float κ b) = pure () := eqGuard_at_float ..
          exact val (v := .float κ r) (w' := w') (by simp [execOp, hx, hy, hg, hr]) hk
        · exact h.elim
      · exact h.elim
    · rename_i hx
      obtain ⟨v, w', hr, b, rfl, hk⟩ := Raw_elim h
      refine val (v := .bool b) (w' := w') ?_ hk
      simp only [execOp]
      rw [Sem.run_bind, hr]
      rfl
  · obtain ⟨v, w', hr, hk⟩ := Raw_elim h
    exact val (by simp [execOp, hr]) (shV_elim hk)
  · -- call
    rename_i c
    obtain ⟨callee, args, argTypes⟩ := c
    simp only at h
    split at h
    · rename_i f
      unfold callPT at h
      split at h
      · rename_i g fi ca hf
        unfold CallF at h
        have : (execOp (ev t) { dst, op := .call { callee := .value f, args, argTypes }, type, pos, after, guard }).run P w =
            (callFunc g ⟨fi.toList ++ args.toList.map (ev t) ++ ca.toList⟩).run P w := by
          simp only [execOp, resolve, args_map, hf, Deferred.ofValue]
          simp [invoke]
          congr 2
          apply Array.ext'
          simp
        rw [this]
        exact upon_mono (fun v w' hk => shV_elim hk) h
      · exact h.elim
    · rename_i b
      split at h
      · obtain ⟨v, w', hr, a, n, m, rfl, hk⟩ := Raw_elim h
        exact val (by simp [execOp, resolve, args_map, invoke, builtin, hr]) hk
      · obtain ⟨v, w', hr, i, rfl, hk⟩ := Raw_elim h
        exact val (by simp [execOp, resolve, args_map, invoke, builtin, hr]) hk
      · obtain ⟨v, w', hr, hk⟩ := Raw_elim h
        exact val (by simp [execOp, resolve, args_map, invoke, builtin, hr]) (shV_elim hk)
      · obtain ⟨v, w', hr, hk⟩ := Raw_elim h
        exact val (by simp [execOp, resolve, args_map, invoke, builtin, hr]) (shV_elim hk)
      · exact h.elim
    · exact h.elim
  · exact h.elim

/-- One operation. -/
def opPT (P : Program) (o : Oper) (t : List Value) (w : World) (k : Value → World → Prop) : Prop :=
  match isLoc P o.op t with
  | true => lcPT P o.op t fun v => k v w
  | false => woPT P o t w k

theorem opPT_sound {P : Program} {o : Oper} {t : List Value} {w : World} {k : Value → World → Prop} (h : opPT P o t w k) :
    upon P k ((execOp (ev t) o).run P w) := by
  unfold opPT at h
  split at h
  · obtain ⟨v, hr, hk⟩ := lcPT_run h
    rw [hr w]; exact hk
  · exact woPT_sound h

theorem opWp {P : Program} {o : Oper} {t : List Value} {w : World} {k : Value → World → Prop} {next : Act → World → Prop} {Q : Exit → Act → World → Prop}
    (h : upon P k ((execOp (ev t) o).run P w)) (hn : ∀ v w', k v w' → next (act (put t o.dst v)) w') : o.wp P (act t) w next Q := by
  unfold Oper.wp
  rw [act_eval']
  generalize (execOp (ev t) o).run P w = r at *
  cases r with
  | ok n w' =>
    cases n <;> simp only [upon] at h <;> simp only [Oper.upon] <;> first
      | exact h.elim
      | (rw [act_put]; exact hn _ _ h)
      | skip
    refine h.mono fun e w'' he => ?_
    cases e <;> simp only [Ret] at he
    · show next ((act t).put o.dst _) w''
      rw [act_put]; exact hn _ _ he
  | halt x w' => exact h.elim
end Go.Wk

/-! ### WkReg -/
namespace Go.Wk
open Go

/-! ### guards -/
def guardPT (ops : List Oper) (o : Oper) (t : List Value) (run skip : List Value → Prop) : Prop :=
  match o.guard with
  | none => run t
  | some (g, want) =>
    match (ops[g]?).bind (·.dst) with
    | some d =>
      match t[d]? with
      | some (.bool b) =>
        br b (match want with | true => run (t.set d (.bool true)) | false => skip (t.set d (.bool true)))
          (match want with | true => skip (t.set d (.bool false)) | false => run (t.set d (.bool false)))
      | _ => skip t
    | none => skip t

theorem set_self {α : Type} {t : List α} {d : Nat} {v : α} (h : t[d]? = some v) : t.set d v = t := by
  apply List.ext_getElem?
  intro i
  by_cases hi : d = i
  · subst hi
    have hlt : d < t.length := (List.getElem?_eq_some_iff.1 h).1
    rw [List.getElem?_set_self hlt, h]
  · rw [List.getElem?_set_ne hi]

theorem guardPT_elim {ops : List Oper} {o : Oper} {t : List Value} {run skip : List Value → Prop} (h : guardPT ops o t run skip) :
    (Region.wanted o (yielded ⟨ops⟩ (act t).tmps) = true ∧ run t) ∨ (Region.wanted o (yielded ⟨ops⟩ (act t).tmps) = false ∧ skip t) := by
  unfold guardPT at h
  unfold Region.wanted
  cases hg : o.guard with
  | none => rw [hg] at h; exact .inl ⟨rfl, h⟩
  | some gw =>
    obtain ⟨g, want⟩ := gw
    rw [hg] at h
    simp only at h ⊢
    have hops : (⟨ops⟩ : Array Oper)[g]? = ops[g]? := by simp
    cases hd : (ops[g]?).bind (·.dst) with
    | none =>
      rw [hd] at h
      have hy : yielded ⟨ops⟩ (act t).tmps g = none := by unfold yielded; rw [hops, hd]; rfl
      exact .inr ⟨by rw [hy]; rfl, h⟩
    | some d =>
      rw [hd] at h
      simp only at h
      have hy : yielded ⟨ops⟩ (act t).tmps g = match t[d]? with | some (.bool b) => some b | _ => none := by
        unfold yielded; rw [hops, hd]; simp [act]
        cases t[d]? with
        | none => rfl
        | some v => cases v <;> rfl
      rw [hy]
      split at h
      · rename_i b hb
        have hs := set_self hb
        clear hy hg
        cases b with
        | true =>
          rw [hs] at h
          cases want with
          | true => exact .inl ⟨rfl, h⟩
          | false => exact .inr ⟨rfl, h⟩
        | false =>
          rw [hs] at h
          cases want with
          | true => exact .inr ⟨rfl, h⟩
          | false => exact .inl ⟨rfl, h⟩
      · rename_i hnb
        refine .inr ⟨?_, h⟩
        cases ht : t[d]? with
        | none => rfl
        | some v =>
          cases v <;> first | rfl | exact (hnb _ ht).elim

theorem put_length (t : List Value) (d : Option Tmp) (v : Value) : (put t d v).length = t.length := by
  cases d <;> simp [put]

/-! ### a region in the order of its text -/
def opsPT (P : Program) (all : List Oper) : List Oper → List Value → World → (List Value → World → Prop) → Prop
  | [], t, w, k => k t w
  | o :: r, t, w, k =>
    guardPT all o t (fun t' => opPT P o t' w fun v w' => opsPT P all r (put t' o.dst v) w' k) (fun t' => opsPT P all r (put t' o.dst undef) w k)

theorem opsPT_sound {P : Program} {all : List Oper} {Q : Exit → Act → World → Prop} {N : Nat} {k : List Value → World → Prop}
    (hk : ∀ t w, t.length = N → k t w → Q .normal (act t) w) :
    ∀ (l : List Oper) (t : List Value) (w : World), t.length = N → opsPT P all l t w k → wpList P ⟨all⟩ Q l (act t) w
  | [], t, w, hl, h => hk t w hl h
  | o :: r, t, w, hl, h => by
    unfold wpList
    rcases guardPT_elim h with ⟨hw, h⟩ | ⟨hw, h⟩
    · rw [if_pos hw]
      refine .inl (opWp (opPT_sound h) fun v w' h' => ?_)
      exact opsPT_sound hk r _ _ (by rw [put_length, hl]) h'
    · rw [if_neg (by simp [hw]), act_put]
      exact opsPT_sound hk r _ _ (by rw [put_length, hl]) h

/-! ### a region in any order -/
def isLoad (o : Oper) : Bool := match o.op with | .load _ _ => true | _ => false

/-- Does 'j' wait for 'i'? -/
def waits (ops : Array Oper) : Nat → Nat → Nat → Bool
  | 0, _, _ => false
  | n + 1, j, i =>
    match ops[j]? with
    | some o => o.after.toList.any fun e => Region.binds .any e && (e.on == i || waits ops n e.on i)
    | none => false

def Closed (ops : Array Oper) (L : Array Bool) : Prop :=
  ∀ k o, ops[k]? = some o → L.getD k false = true → ∀ e ∈ o.after, Region.binds .any e = true → L.getD e.on false = true

theorem waits_listed {ops : Array Oper} {L : Array Bool} (hc : Closed ops L) : ∀ (n j i : Nat) (o : Oper), ops[j]? = some o →
    (∀ e ∈ o.after, Region.binds .any e = true → L.getD e.on false = true) → waits ops n j i = true → L.getD i false = true
  | 0, _, _, _, _, _, h => by simp [waits] at h
  | n + 1, j, i, o, ho, hall, h => by
    unfold waits at h
    rw [ho] at h
    simp only [List.any_eq_true, Bool.and_eq_true, Bool.or_eq_true, beq_iff_eq] at h
    obtain ⟨e, he, hb, h⟩ := h
    have hon := hall e (by simpa using he) hb
    rcases h with h | h
    · rw [← h]; exact hon
    · cases ho' : ops[e.on]? with
      | none => cases n <;> simp [waits, ho'] at h
      | some o' => exact waits_listed hc n e.on i o' ho' (hc _ _ ho' hon) h

theorem Closed.set {ops : Array Oper} {L : Array Bool} (hc : Closed ops L) {j : Nat} (hj : j ∈ Region.ready .any ops L) : Closed ops (L.setIfInBounds j true) := by
  intro k o ho hk e he hb
  obtain ⟨_, oj, hoj, hall⟩ := mem_ready.1 hj
  refine getD_set_true ?_
  by_cases hkj : j = k
  · subst hkj
    rw [hoj] at ho
    cases ho
    exact hall e he hb
  · rw [getD_set_ne false hkj] at hk
    exact hc k o ho hk e he hb

/-- Is there a load that may come behind 'j'? -/
def needs (ops : Array Oper) (j : Nat) : Bool :=
  (List.range ops.size).any fun i => match ops[i]? with | some o => isLoad o && !(waits ops ops.size j i) | none => false

/-- The cells of 'w' are in 'w'' what they were. -/
def Kept (w w' : World) : Prop := ∀ b v, w.cell? b = some v → w'.cell? b = some v
theorem Kept.refl (w : World) : Kept w w := fun _ _ h => h
theorem Kept.trans {a b c : World} (h : Kept a b) (h' : Kept b c) : Kept a c := fun _ _ hv => h' _ _ (h _ _ hv)
/-- The cells of the blocks in 'S' are what they were. -/
def KeptS (S : Nat → Prop) (w w' : World) : Prop := ∀ b v, S b.block → w.cell? b = some v → w'.cell? b = some v
theorem KeptS.refl (S : Nat → Prop) (w : World) : KeptS S w w := fun _ _ _ h => h
theorem KeptS.trans {S : Nat → Prop} {a b c : World} (h : KeptS S a b) (h' : KeptS S b c) : KeptS S a c := fun _ _ hs hv => h' _ _ hs (h _ _ hs hv)
/-- A relation of worlds that a region's operations keep. -/
structure Pre (R : World → World → Prop) : Prop where
  refl : ∀ w, R w w
  trans : ∀ {a b c}, R a b → R b c → R a c
theorem Kept.pre : Pre Kept := ⟨Kept.refl, Kept.trans⟩
theorem KeptS.pre (S : Nat → Prop) : Pre (KeptS S) := ⟨KeptS.refl S, KeptS.trans⟩

def wpJ (P : Program) (R : World → World → Prop) (ops : Array Oper) (Q : Exit → Act → World → Prop) : Nat → Array Bool → Act → World → Prop
  | 0, L, a, w => Region.ready .any ops L = [] ∧ Q .normal a w
  | f + 1, L, a, w =>
    (Region.ready .any ops L = [] → Q .normal a w) ∧
    ∀ i ∈ Region.ready .any ops L, wpOp P ops Q i (fun a' w' => (needs ops i = true → R w w') ∧ wpJ P R ops Q f (L.setIfInBounds i true) a' w') a w

theorem wpAny_of_J {P : Program} {R : World → World → Prop} {ops : Array Oper} {Q : Exit → Act → World → Prop} :
    ∀ (f : Nat) (L : Array Bool) (a : Act) (w : World), wpJ P R ops Q f L a w → wpAny P .any ops Q f L a w
  | 0, _, _, _, h => h
  | f + 1, _, _, _, h => ⟨h.1, fun i hi => wpOp_mono (fun a' w' h' => wpAny_of_J f _ a' w' h'.2) (h.2 i hi)⟩

section
variable {P : Program} {ops : Array Oper} {Q : Exit → Act → World → Prop} {SI : World → Prop} {R : World → World → Prop}

/-- Operation 'i' may be taken first, if it yields its value in every world in which it may come up, and those that come up ahead of it keep that. -/
theorem wpJ_first (hR : Pre R) {i : Nat} {oi : Oper} {v : Value} (hi : ops[i]? = some oi) (hsel : ∀ (j : Nat) (o : Oper) cs b, ops[j]? = some o → o.op ≠ .select cs b)
    (hQ : ∀ c a w, Q (.panic c) (a.put oi.dst v) w → Q (.panic c) a w)
    (hSI : ∀ (j : Nat) (L : Array Bool) w w', Closed ops L → j ∈ Region.ready .any ops L → L.getD i true = false → j ≠ i → (needs ops j = true → R w w') → SI w → SI w') :
    ∀ (fuel : Nat) (L : Array Bool) (a : Act) (w : World), Closed ops L →
      (∀ j oj, ops[j]? = some oj → j ≠ i → L.getD j true = false → (∀ e ∈ oj.after, Region.binds .any e = true → e.on ≠ i) → oi.apart ops oj = true) →
      i ∈ Region.ready .any ops L → YieldsIf P ops SI oi v a → SI w →
      wpJ P R ops Q fuel (L.setIfInBounds i true) (a.put oi.dst v) w → wpJ P R ops Q (fuel + 1) L a w := by
  intro fuel
  induction fuel with
  | zero =>
    intro L a w _ _ hr hy hS H
    refine ⟨fun h => (by rw [h] at hr; cases hr), fun j hj => ?_⟩
    by_cases hji : j = i
    · subst hji; exact hy.wpOp hi hS ⟨fun _ => hR.refl w, H⟩
    · have := ready_mono hj hji
      rw [H.1] at this
      cases this
  | succ fuel ih =>
    intro L a w hcl hfree hr hy hS H
    refine ⟨fun h => (by rw [h] at hr; cases hr), fun j hj => ?_⟩
    by_cases hji : j = i
    · subst hji; exact hy.wpOp hi hS ⟨fun _ => hR.refl w, H⟩
    · have h1 := H.2 j (ready_mono hj hji)
      obtain ⟨hjun, oj, hoj, hall⟩ := mem_ready.1 hj
      have hnot : ∀ e ∈ oj.after, Region.binds .any e = true → e.on ≠ i := fun e he hb heq => by
        have h1 := hall e he hb
        have h0 := (mem_ready.1 hr).1
        rw [heq] at h1
        rcases Nat.lt_or_ge i L.size with h' | h'
        · simp [h'] at h0 h1; rw [h0] at h1; cases h1
        · simp [Array.getElem?_eq_none h'] at h1
      have h2 := wpOp_putIf hoj (hfree j oj hoj hji hjun hnot) (fun cs b => hsel i oi cs b hi) (fun cs b => hsel j oj cs b hoj) hQ hy h1
      have hfree' : ∀ k ok, ops[k]? = some ok → k ≠ i → (L.setIfInBounds j true).getD k true = false →
          (∀ e ∈ ok.after, Region.binds .any e = true → e.on ≠ i) → oi.apart ops ok = true := fun k ok hk hki hun hno => by
        refine hfree k ok hk hki ?_ hno
        by_cases hjk : j = k
        · subst hjk; exact hjun
        · rw [getD_set_ne true hjk] at hun; exact hun
      refine wpOp_mono (fun a' w' h3 => ⟨h3.2.1, ih (L.setIfInBounds j true) a' w' (hcl.set hj) hfree' (ready_mono hr (Ne.symm hji)) h3.1 ?_ ?_⟩) h2
      · exact hSI j L w w' hcl hj (mem_ready.1 hr).1 hji h3.2.1 hS
      · rw [Array.setIfInBounds_comm _ _ hji]
        exact h3.2.2

theorem getD_false_of_true {L : Array Bool} {i : Nat} (h : L.getD i true = false) : L.getD i false = false := by
  rcases Nat.lt_or_ge i L.size with h' | h'
  · simp [h'] at h ⊢; exact h
  · simp [Array.getElem?_eq_none h'] at h

/-- A load that has not come up yet: whoever may come up ahead of it does not wait for it. -/
theorem needs_of_unlisted {L : Array Bool} {i j : Nat} {oi : Oper} (hi : ops[i]? = some oi) (hl : isLoad oi = true) (hcl : Closed ops L)
    (hj : j ∈ Region.ready .any ops L) (hun : L.getD i true = false) : needs ops j = true := by
  obtain ⟨_, oj, hoj, hall⟩ := mem_ready.1 hj
  unfold needs
  rw [List.any_eq_true]
  refine ⟨i, List.mem_range.2 (Array.getElem?_eq_some_iff.1 hi).1, ?_⟩
  rw [hi]
  simp only [hl, Bool.true_and, Bool.not_eq_true']
  cases hw : waits ops ops.size j i with
  | false => rfl
  | true =>
    have := waits_listed hcl ops.size j i oj hoj hall hw
    rw [getD_false_of_true hun] at this
    cases this
end
end Go.Wk

/-! ### WkDr -/
namespace Go.Wk
open Go

def allP (f : Nat → Prop) : List Nat → Prop
  | [] => True
  | i :: r => match r with | [] => f i | r => f i ∧ allP f r
theorem allP_elim {f : Nat → Prop} : ∀ {l : List Nat}, allP f l → ∀ i ∈ l, f i
  | [], _, i, hi => by simp at hi
  | [j], h, i, hi => by simp at hi; subst hi; exact h
  | j :: j' :: r, h, i, hi => by
    obtain ⟨h1, h2⟩ := h
    rcases List.mem_cons.1 hi with rfl | hi
    · exact h1
    · exact allP_elim h2 i hi

/-- The first operation that may be taken first. -/
def takeAt (P : Program) (ops : List Oper) (L : Array Bool) (t : List Value) : List Nat → Option Nat
  | [] => none
  | i :: r =>
    match ops[i]? with
    | some o =>
      match (isLoad o || isLoc P o.op t) && Region.free .any ⟨ops⟩ L i with
      | true => some i
      | false => takeAt P ops L t r
    | none => takeAt P ops L t r

theorem takeAt_spec {P : Program} {ops : List Oper} {L : Array Bool} {t : List Value} : ∀ {rs : List Nat} {i : Nat}, takeAt P ops L t rs = some i →
    i ∈ rs ∧ ∃ o, ops[i]? = some o ∧ (isLoad o = true ∨ isLoc P o.op t = true) ∧ Region.free .any ⟨ops⟩ L i = true
  | [], _, h => by simp [takeAt] at h
  | j :: r, i, h => by
    unfold takeAt at h
    split at h
    · rename_i o ho
      split at h
      · rename_i hc
        cases h
        simp only [Bool.and_eq_true, Bool.or_eq_true] at hc
        exact ⟨by simp, o, ho, hc.1, hc.2⟩
      · obtain ⟨h1, h2⟩ := takeAt_spec h
        exact ⟨List.mem_cons_of_mem _ h1, h2⟩
    · obtain ⟨h1, h2⟩ := takeAt_spec h
      exact ⟨List.mem_cons_of_mem _ h1, h2⟩

def takePT (P : Program) (o : Oper) (t : List Value) (wE : World) (k : Value → Prop) : Prop :=
  match o.op with
  | .load ty a =>
    match ev t a with
    | .pointer p => ptrSome p fun a => ldPT P ty a wE fun v _ => k v
    | _ => False
  | _ => lcPT P o.op t k

theorem takePT_run {P : Program} {o : Oper} {t : List Value} {wE : World} {k : Value → Prop} (h : takePT P o t wE k) :
    ∃ v, (∀ w, (isLoad o = true → Kept wE w) → (execOp (ev t) o).run P w = .ok (.value v) w) ∧ k v := by
  unfold takePT at h
  split at h
  · rename_i ty a hop
    split at h
    · rename_i p hp
      obtain ⟨a, rfl, h⟩ := ptrSome_elim h
      obtain ⟨v, _, hk, hr⟩ := ldPT_sound (show ldPT P ty a wE (fun v _ => k v) from h)
      refine ⟨v, fun w hw => ?_, hk⟩
      obtain ⟨dst, op, type, pos, after, guard⟩ := o
      simp only at hop
      subst hop
      have := hr w (fun b v _ hv => hw rfl b v hv)
      simp [execOp, hp, Instr.loadAt, Instr.sureAddr, this]
    · exact h.elim
  · obtain ⟨v, hr, hk⟩ := lcPT_run h
    exact ⟨v, fun w _ => hr w, hk⟩

def drPT (P : Program) (ops : List Oper) (wE : World) (k : List Value → World → Prop) : Nat → Array Bool → List Value → World → Prop
  | 0, L, t, w =>
    match Region.ready .any ⟨ops⟩ L with
    | [] => k t w
    | _ => False
  | n + 1, L, t, w =>
    match Region.ready .any ⟨ops⟩ L with
    | [] => k t w
    | r :: rs =>
      match takeAt P ops L t (r :: rs) with
      | some i =>
        match ops[i]? with
        | some o => guardPT ops o t (fun t' => takePT P o t' wE fun v => drPT P ops wE k n (L.setIfInBounds i true) (put t' o.dst v) w)
            (fun t' => drPT P ops wE k n (L.setIfInBounds i true) (put t' o.dst undef) w)
        | none => False
      | none => allP (fun i =>
          match ops[i]? with
          | some o => guardPT ops o t
              (fun t' => opPT P o t' w fun v w' =>
                match needs ⟨ops⟩ i with
                | true => Kept w w' ∧ drPT P ops wE k n (L.setIfInBounds i true) (put t' o.dst v) w'
                | false => drPT P ops wE k n (L.setIfInBounds i true) (put t' o.dst v) w')
              (fun t' => drPT P ops wE k n (L.setIfInBounds i true) (put t' o.dst undef) w)
          | none => False) (r :: rs)

/-- While a load has not come up yet, the cells are as they were. -/
def Fresh (R : World → World → Prop) (ops : Array Oper) (wE : World) (L : Array Bool) (w : World) : Prop :=
  (∃ i o, ops[i]? = some o ∧ isLoad o = true ∧ L.getD i true = false) → R wE w

theorem Fresh.set {R : World → World → Prop} {ops : Array Oper} {wE w : World} {L : Array Bool} (h : Fresh R ops wE L w) (j : Nat) : Fresh R ops wE (L.setIfInBounds j true) w := by
  rintro ⟨i, o, ho, hl, hun⟩
  refine h ⟨i, o, ho, hl, ?_⟩
  by_cases hji : j = i
  · subst hji
    have hlt : j < L.size := by
      rcases Nat.lt_or_ge j L.size with h' | h'
      · exact h'
      · simp at hun
    simp [hlt] at hun
  · rw [getD_set_ne true hji] at hun; exact hun

theorem Fresh.step {R : World → World → Prop} (hR : Pre R) {ops : Array Oper} {wE w w' : World} {L : Array Bool} (h : Fresh R ops wE L w) {j : Nat} (hcl : Closed ops L) (hj : j ∈ Region.ready .any ops L)
    (hk : needs ops j = true → R w w') : Fresh R ops wE (L.setIfInBounds j true) w' := by
  intro hex
  have h1 := h.set j hex
  obtain ⟨i, o, ho, hl, hun⟩ := hex
  have hun' : L.getD i true = false := by
    by_cases hji : j = i
    · subst hji
      have hlt : j < L.size := by
        rcases Nat.lt_or_ge j L.size with h' | h'
        · exact h'
        · simp at hun
      simp [hlt] at hun
    · rw [getD_set_ne true hji] at hun; exact hun
  exact hR.trans h1 (hk (needs_of_unlisted ho hl hcl hj hun'))

theorem drPT_sound {P : Program} {ops : List Oper} {wE : World} {k : List Value → World → Prop} {Q : Exit → Act → World → Prop} {N : Nat}
    (hk : ∀ t w, t.length = N → k t w → Q .normal (act t) w) (hsel : Region.noSelect ⟨ops⟩ = true) (hQ : ∀ c a w, ¬ Q (.panic c) a w) :
    ∀ (n : Nat) (L : Array Bool) (t : List Value) (w : World), t.length = N → Closed ⟨ops⟩ L → Fresh Kept ⟨ops⟩ wE L w → drPT P ops wE k n L t w →
      wpJ P Kept ⟨ops⟩ Q n L (act t) w := by
  intro n
  induction n with
  | zero =>
    intro L t w hl _ _ h
    unfold drPT at h
    split at h
    · rename_i hr; exact ⟨hr, hk t w hl h⟩
    · exact h.elim
  | succ n ih =>
    intro L t w hl hcl hfr h
    unfold drPT at h
    split at h
    · rename_i hr
      exact ⟨fun _ => hk t w hl h, by rw [hr]; simp⟩
    · rename_i r rs hr
      split at h
      · rename_i i hti
        obtain ⟨hmem, o, ho, hkind, hfree⟩ := takeAt_spec hti
        rw [ho] at h
        simp only at h
        have ho' : (⟨ops⟩ : Array Oper)[i]? = some o := by simpa using ho
        have hready : i ∈ Region.ready .any ⟨ops⟩ L := by rw [hr]; exact hmem
        have hun : L.getD i true = false := (mem_ready.1 hready).1
        -- the value, and in which worlds
        have main : ∀ v, YieldsIf P ⟨ops⟩ (fun w' => isLoad o = true → Kept wE w') o v (act t) →
            drPT P ops wE k n (L.setIfInBounds i true) (put t o.dst v) w → wpJ P Kept ⟨ops⟩ Q (n + 1) L (act t) w := by
          intro v hy hrest
          refine wpJ_first Kept.pre (SI := fun w' => isLoad o = true → Kept wE w') ho' (Region.noSelect_spec hsel) (fun c a w h => (hQ _ _ _ h).elim) ?_ n L (act t) w hcl
            (Region.free_spec ho' hfree) hready hy (fun hld => hfr ⟨i, o, ho', hld, hun⟩) ?_
          · intro j L' w1 w2 hcl' hj' hun' _ hkept hSI hld
            exact (hSI hld).trans (hkept (needs_of_unlisted ho' hld hcl' hj' hun'))
          · rw [act_put]
            exact ih _ _ _ (by rw [put_length, hl]) (hcl.set hready) (hfr.set i) hrest
        rcases guardPT_elim h with ⟨hw, h⟩ | ⟨hw, h⟩
        · obtain ⟨v, hrun, hrest⟩ := takePT_run h
          refine main v (.inl ⟨hw, fun w' hw' => ?_⟩) hrest
          rw [act_eval']
          exact hrun w' hw'
        · exact main undef (.inr ⟨hw, rfl⟩) h
      · have hall := allP_elim h
        rw [← hr] at hall
        refine ⟨fun h0 => (by rw [hr] at h0; cases h0), fun i hi => ?_⟩
        have h1 := hall i hi
        unfold wpOp
        cases ho : ops[i]? with
        | none => rw [ho] at h1; exact h1.elim
        | some o =>
          rw [ho] at h1
          simp only at h1
          have ho' : (⟨ops⟩ : Array Oper)[i]? = some o := by simpa using ho
          rw [ho']
          simp only
          rcases guardPT_elim h1 with ⟨hw, h1⟩ | ⟨hw, h1⟩
          · rw [if_pos hw]
            refine .inl (opWp (opPT_sound h1) fun v w' h2 => ?_)
            split at h2
            · exact ⟨fun _ => h2.1, ih _ _ _ (by rw [put_length, hl]) (hcl.set hi) (hfr.step Kept.pre hcl hi fun _ => h2.1) h2.2⟩
            · rename_i hnn
              have hf : ∀ {p : Prop}, needs ⟨ops⟩ i = true → p := fun hn => by rw [hn] at hnn; cases hnn
              exact ⟨fun hn => hf hn, ih _ _ _ (by rw [put_length, hl]) (hcl.set hi) (hfr.step Kept.pre hcl hi fun hn => hf hn) h2⟩
          · rw [if_neg (by simp [hw]), act_put]
            exact ⟨fun _ => Kept.refl w, ih _ _ _ (by rw [put_length, hl]) (hcl.set hi) (hfr.set i) h1⟩

theorem closed_start (ops : Array Oper) (n : Nat) : Closed ops (Array.replicate n false) := by
  intro k o _ hk
  simp [Array.getElem?_replicate] at hk
  split at hk <;> simp at hk

theorem drPT_region {P : Program} {id : Nat} {ops : List Oper} {k : List Value → World → Prop} {Q : Exit → Act → World → Prop} {t : List Value} {w : World}
    (hm : P.follows .mixedOrders = true) (hsel : Region.noSelect ⟨ops⟩ = true) (hQ : ∀ c a w, ¬ Q (.panic c) a w)
    (hk : ∀ t' w, t'.length = t.length → k t' w → Q .normal (act t') w)
    (h : drPT P ops w.drew k ops.length (Array.replicate ops.length false) t w.drew) :
    (Code.region id ⟨ops⟩ true).wp P Q (act t) w := by
  refine wp_region_any hm (wpAny_of_J (R := Kept) _ _ _ _ ?_)
  exact drPT_sound (N := t.length) hk hsel hQ ops.length _ t w.drew rfl (closed_start _ _) (fun _ => Kept.refl _) h

/-! ### the same, where cells are written that none of the loads reads -/
def takePTS (P : Program) (S : Nat → Prop) (o : Oper) (t : List Value) (wE : World) (k : Value → Prop) : Prop :=
  match o.op with
  | .load ty a =>
    match ev t a with
    | .pointer p => ptrSome p fun a => S a.block ∧ ldPT P ty a wE fun v _ => k v
    | _ => False
  | _ => lcPT P o.op t k

theorem takePTS_run {P : Program} {S : Nat → Prop} {o : Oper} {t : List Value} {wE : World} {k : Value → Prop} (h : takePTS P S o t wE k) :
    ∃ v, (∀ w, (isLoad o = true → KeptS S wE w) → (execOp (ev t) o).run P w = .ok (.value v) w) ∧ k v := by
  unfold takePTS at h
  split at h
  · rename_i ty a hop
    split at h
    · rename_i p hp
      obtain ⟨a, rfl, h⟩ := ptrSome_elim h
      obtain ⟨hS, h⟩ := h
      obtain ⟨v, _, hk, hr⟩ := ldPT_sound (show ldPT P ty a wE (fun v _ => k v) from h)
      refine ⟨v, fun w hw => ?_, hk⟩
      obtain ⟨dst, op, type, pos, after, guard⟩ := o
      simp only at hop
      subst hop
      have := hr w (fun b v hb hv => hw rfl b v (by rw [hb]; exact hS) hv)
      simp [execOp, hp, Instr.loadAt, Instr.sureAddr, this]
    · exact h.elim
  · obtain ⟨v, hr, hk⟩ := lcPT_run h
    exact ⟨v, fun w _ => hr w, hk⟩

def drPTS (P : Program) (S : Nat → Prop) (ops : List Oper) (wE : World) (k : List Value → World → Prop) : Nat → Array Bool → List Value → World → Prop
  | 0, L, t, w =>
    match Region.ready .any ⟨ops⟩ L with
    | [] => k t w
    | _ => False
  | n + 1, L, t, w =>
    match Region.ready .any ⟨ops⟩ L with
    | [] => k t w
    | r :: rs =>
      match takeAt P ops L t (r :: rs) with
      | some i =>
        match ops[i]? with
        | some o => guardPT ops o t (fun t' => takePTS P S o t' wE fun v => drPTS P S ops wE k n (L.setIfInBounds i true) (put t' o.dst v) w)
            (fun t' => drPTS P S ops wE k n (L.setIfInBounds i true) (put t' o.dst undef) w)
        | none => False
      | none => allP (fun i =>
          match ops[i]? with
          | some o => guardPT ops o t
              (fun t' => opPT P o t' w fun v w' =>
                match needs ⟨ops⟩ i with
                | true => KeptS S w w' ∧ drPTS P S ops wE k n (L.setIfInBounds i true) (put t' o.dst v) w'
                | false => drPTS P S ops wE k n (L.setIfInBounds i true) (put t' o.dst v) w')
              (fun t' => drPTS P S ops wE k n (L.setIfInBounds i true) (put t' o.dst undef) w)
          | none => False) (r :: rs)

theorem drPTS_sound {P : Program} {S : Nat → Prop} {ops : List Oper} {wE : World} {k : List Value → World → Prop} {Q : Exit → Act → World → Prop} {N : Nat}
    (hk : ∀ t w, t.length = N → k t w → Q .normal (act t) w) (hsel : Region.noSelect ⟨ops⟩ = true) (hQ : ∀ c a w, ¬ Q (.panic c) a w) :
    ∀ (n : Nat) (L : Array Bool) (t : List Value) (w : World), t.length = N → Closed ⟨ops⟩ L → Fresh (KeptS S) ⟨ops⟩ wE L w → drPTS P S ops wE k n L t w →
      wpJ P (KeptS S) ⟨ops⟩ Q n L (act t) w := by
  intro n
  induction n with
  | zero =>
    intro L t w hl _ _ h
    unfold drPTS at h
    split at h
    · rename_i hr; exact ⟨hr, hk t w hl h⟩
    · exact h.elim
  | succ n ih =>
    intro L t w hl hcl hfr h
    unfold drPTS at h
    split at h
    · rename_i hr
      exact ⟨fun _ => hk t w hl h, by rw [hr]; simp⟩
    · rename_i r rs hr
      split at h
      · rename_i i hti
        obtain ⟨hmem, o, ho, hkind, hfree⟩ := takeAt_spec hti
        rw [ho] at h
        simp only at h
        have ho' : (⟨ops⟩ : Array Oper)[i]? = some o := by simpa using ho
        have hready : i ∈ Region.ready .any ⟨ops⟩ L := by rw [hr]; exact hmem
        have hun : L.getD i true = false := (mem_ready.1 hready).1
        -- the value, and in which worlds
        have main : ∀ v, YieldsIf P ⟨ops⟩ (fun w' => isLoad o = true → KeptS S wE w') o v (act t) →
            drPTS P S ops wE k n (L.setIfInBounds i true) (put t o.dst v) w → wpJ P (KeptS S) ⟨ops⟩ Q (n + 1) L (act t) w := by
          intro v hy hrest
          refine wpJ_first (KeptS.pre S) (SI := fun w' => isLoad o = true → KeptS S wE w') ho' (Region.noSelect_spec hsel) (fun c a w h => (hQ _ _ _ h).elim) ?_ n L (act t) w hcl
            (Region.free_spec ho' hfree) hready hy (fun hld => hfr ⟨i, o, ho', hld, hun⟩) ?_
          · intro j L' w1 w2 hcl' hj' hun' _ hkept hSI hld
            exact KeptS.trans (hSI hld) (hkept (needs_of_unlisted ho' hld hcl' hj' hun'))
          · rw [act_put]
            exact ih _ _ _ (by rw [put_length, hl]) (hcl.set hready) (hfr.set i) hrest
        rcases guardPT_elim h with ⟨hw, h⟩ | ⟨hw, h⟩
        · obtain ⟨v, hrun, hrest⟩ := takePTS_run h
          refine main v (.inl ⟨hw, fun w' hw' => ?_⟩) hrest
          rw [act_eval']
          exact hrun w' hw'
        · exact main undef (.inr ⟨hw, rfl⟩) h
      · have hall := allP_elim h
        rw [← hr] at hall
        refine ⟨fun h0 => (by rw [hr] at h0; cases h0), fun i hi => ?_⟩
        have h1 := hall i hi
        unfold wpOp
        cases ho : ops[i]? with
        | none => rw [ho] at h1; exact h1.elim
        | some o =>
          rw [ho] at h1
          simp only at h1
          have ho' : (⟨ops⟩ : Array Oper)[i]? = some o := by simpa using ho
          rw [ho']
          simp only
          rcases guardPT_elim h1 with ⟨hw, h1⟩ | ⟨hw, h1⟩
          · rw [if_pos hw]
            refine .inl (opWp (opPT_sound h1) fun v w' h2 => ?_)
            split at h2
            · exact ⟨fun _ => h2.1, ih _ _ _ (by rw [put_length, hl]) (hcl.set hi) (hfr.step (KeptS.pre S) hcl hi fun _ => h2.1) h2.2⟩
            · rename_i hnn
              have hf : ∀ {p : Prop}, needs ⟨ops⟩ i = true → p := fun hn => by rw [hn] at hnn; cases hnn
              exact ⟨fun hn => hf hn, ih _ _ _ (by rw [put_length, hl]) (hcl.set hi) (hfr.step (KeptS.pre S) hcl hi fun hn => hf hn) h2⟩
          · rw [if_neg (by simp [hw]), act_put]
            exact ⟨fun _ => KeptS.refl S w, ih _ _ _ (by rw [put_length, hl]) (hcl.set hi) (hfr.set i) h1⟩

theorem drPTS_region {P : Program} {S : Nat → Prop} {id : Nat} {ops : List Oper} {k : List Value → World → Prop} {Q : Exit → Act → World → Prop} {t : List Value} {w : World}
    (hm : P.follows .mixedOrders = true) (hsel : Region.noSelect ⟨ops⟩ = true) (hQ : ∀ c a w, ¬ Q (.panic c) a w)
    (hk : ∀ t' w, t'.length = t.length → k t' w → Q .normal (act t') w)
    (h : drPTS P S ops w.drew k ops.length (Array.replicate ops.length false) t w.drew) :
    (Code.region id ⟨ops⟩ true).wp P Q (act t) w := by
  refine wp_region_any hm (wpAny_of_J (R := KeptS S) _ _ _ _ ?_)
  exact drPTS_sound (N := t.length) hk hsel hQ ops.length _ t w.drew rfl (closed_start _ _) (fun _ => KeptS.refl S _) h

/-- Is there a store that a load may come behind? -/
def storesB (ops : List Oper) : Bool := (List.range ops.length).any fun i => match ops[i]? with | some o => (match o.op with | .store .. => true | _ => false) && needs ⟨ops⟩ i | none => false
end Go.Wk

/-! ### WkRun -/
namespace Go.Wk
open Go

/-! ### a function's body -/
/-- From the code 'todo' on, with these temporaries, the call ends, and 'K' holds of what it hands back. -/
def Run (P : Program) (fn : FuncId) (K : Value → World → Prop) (todo : List Item) (t : List Value) (w : World) : Prop :=
  ∀ (b : Frame) (cs : List Frame), b.fn = fn → b.kind = .normal →
    ∃ v w' fr, K v w' ∧ Steps P (lone (b.at (act t) todo) cs w) (lone fr cs w') ∧ fr.fn = fn ∧ fr.leaving P w' (.returned v)

theorem Run.step {P : Program} {fn : FuncId} {K : Value → World → Prop} {todo todo' : List Item} {t : List Value} {w : World}
    (h : Run P fn K todo' t w) (hs : ∀ (b : Frame) (cs : List Frame), step P (lone (b.at (act t) todo) cs w) = .next (lone (b.at (act t) todo') cs w)) :
    Run P fn K todo t w := by
  intro b cs h1 h2
  obtain ⟨v, w', fr, hK, hst, h3, h4⟩ := h b cs h1 h2
  exact ⟨v, w', fr, hK, .head (hs b cs) hst, h3, h4⟩

theorem Run.region {P : Program} {fn : FuncId} {K : Value → World → Prop} {id : Nat} {ops : List Oper} {draw : Bool} {k : List Item} {t : List Value} {w : World}
    (h : (Code.region id ⟨ops⟩ draw).wp P (fun e a w => e = .normal ∧ ∃ t', a = act t' ∧ Run P fn K k t' w) (act t) w) :
    Run P fn K (.code (.region id ⟨ops⟩ draw) :: k) t w := by
  intro b cs h1 h2
  obtain ⟨e, a', w', ⟨rfl, t', rfl, hr⟩, harr⟩ := h b k cs
  obtain ⟨v, w'', fr, hK, hst, h3, h4⟩ := hr b cs h1 h2
  exact ⟨v, w'', fr, hK, Steps.trans harr hst, h3, h4⟩

/-- What a function hands back. -/
def resPT (P : Program) (w : World) : List ResultVar → List Value → (List Value → Prop) → Prop
  | [], _, k => k []
  | r :: rs, t, k =>
    match r with
    | .tmp i => resPT P w rs t fun vs => k (t.getD i undef :: vs)
    | .cell i ty =>
      match t.getD i undef with
      | .pointer p => ptrSome p fun a => ldPT P ty a w fun v _ => resPT P w rs t fun vs => k (v :: vs)
      | _ => False

def resV : List Value → Value
  | [v] => v
  | vs => .tuple ⟨vs⟩

def retPT (P : Program) (rs : List ResultVar) (K : Value → World → Prop) (t : List Value) (w : World) : Prop :=
  resPT P w rs t fun vs => K (resV vs) w

def resG (tm : Array Value) : ResultVar → Sem Value
  | .tmp i => pure (tm.getD i undef)
  | .cell a ty => do loadVar ty (← asAddr (tm.getD a undef))

theorem resPT_run {P : Program} {w : World} {t : List Value} : ∀ {rs : List ResultVar} {k : List Value → Prop}, resPT P w rs t k →
    ∃ vs, (rs.mapM (resG (act t).tmps)).run P w = .ok vs w ∧ k vs
  | [], k, h => ⟨[], rfl, h⟩
  | r :: rs, k, h => by
    unfold resPT at h
    have hg : ∀ i, (act t).tmps.getD i undef = t.getD i undef := fun i => by simp [act, List.getD]
    split at h
    · rename_i i
      obtain ⟨vs, hr, hk⟩ := resPT_run h
      refine ⟨_, ?_, hk⟩
      have h1 : (resG (act t).tmps (.tmp i)).run P w = .ok (t.getD i undef) w := by rw [← hg]; rfl
      rw [List.mapM_cons]
      simp only [Sem.run_bind, h1, Result.andThen_ok, hr, Sem.run_pure]
    · rename_i i ty
      split at h
      · rename_i p hp
        obtain ⟨a, rfl, h⟩ := ptrSome_elim h
        obtain ⟨v, hv, hk, _⟩ := ldPT_sound (show ldPT P ty a w (fun v _ => resPT P w rs t fun vs => k (v :: vs)) from h)
        obtain ⟨vs, hr, hk⟩ := resPT_run hk
        refine ⟨_, ?_, hk⟩
        have h1 : (resG (act t).tmps (.cell i ty)).run P w = .ok v w := by
          have h2 : resG (act t).tmps (.cell i ty) = (do loadVar ty (← asAddr (.pointer (some a)))) := by rw [← hp, ← hg]; rfl
          rw [h2]
          simp [asAddr, hv]
        rw [List.mapM_cons]
        simp only [Sem.run_bind, h1, Result.andThen_ok, hr, Sem.run_pure]
      · exact h.elim

theorem results_eq (fn : Func) (tm : Array Value) : results fn tm = (do
    let vs ← fn.results.mapM (resG tm)
    pure (if h : vs.size = 1 then vs[0] else .tuple vs)) := by
  rfl

theorem retPT_run {P : Program} {fn : Func} {K : Value → World → Prop} {t : List Value} {w : World} (h : retPT P fn.results.toList K t w) :
    ∃ v, (results fn (act t).tmps).run P w = .ok v w ∧ K v w := by
  obtain ⟨vs, hr, hk⟩ := resPT_run h
  refine ⟨resV vs, ?_, hk⟩
  rw [results_eq, Array.mapM_eq_mapM_toList]
  simp only [Sem.run_bind, Sem.run_map, hr, Result.andThen_ok, Sem.run_pure]
  congr 1
  match vs with
  | [] => rfl
  | [v] => rfl
  | _ :: _ :: _ => simp [resV]

/-- What the code 'todo' asks: at the region 'id' of 'cuts' it asks 'H id'. -/
def execPT (P : Program) (cuts : List Nat) (H : Nat → List Value → World → Prop) (R : List Value → World → Prop) :
    Nat → Bool → List Item → List Value → World → Prop
  | 0, _, _, _, _ => False
  | n + 1, first, todo, t, w =>
    match todo with
    | [] => R t w
    | i :: k =>
      match i with
      | .code c =>
        match c with
        | .skip => execPT P cuts H R n first k t w
        | .label _ => execPT P cuts H R n first k t w
        | .seq a b => execPT P cuts H R n first (.code a :: .code b :: k) t w
        | .region id ops draw =>
          match !first && cuts.contains id with
          | true => H id t w
          | false =>
            match draw with
            | false => opsPT P ops.toList ops.toList t w fun t' w' => execPT P cuts H R n false k t' w'
            | true =>
              match Region.noSelect ops with
              | true =>
                match storesB ops.toList with
                | false => drPT P ops.toList w.drew (fun t' w' => execPT P cuts H R n false k t' w') ops.toList.length (Array.replicate ops.toList.length false) t w.drew
                | true => ∃ S : Nat → Prop, drPTS P S ops.toList w.drew (fun t' w' => execPT P cuts H R n false k t' w') ops.toList.length (Array.replicate ops.toList.length false) t w.drew
              | false => False
        | .cond c x y =>
          match ev t c with
          | .bool b => br b (execPT P cuts H R n first (.code x :: k) t w) (execPT P cuts H R n first (.code y :: k) t w)
          | _ => False
        | .block id c => execPT P cuts H R n first (.code c :: .inBlock id :: k) t w
        | .loop c => execPT P cuts H R n first (.code c :: .inLoop c :: k) t w
        | .scope c => execPT P cuts H R n first (.code c :: .inScope c :: k) t w
        | .exit id => match exitTo id k with | some k' => execPT P cuts H R n first k' t w | none => False
        | .ret => R t w
        | _ => False
      | .inBlock _ => execPT P cuts H R n first k t w
      | .inScope _ => execPT P cuts H R n first k t w
      | .inLoop c => execPT P cuts H R n first (.code c :: .inLoop c :: k) t w
      | _ => False

def stacks : Code → List Item → List (List Item)
  | c, k => (.code c :: k) :: match c with
    | .seq a b => stacks a (.code b :: k) ++ stacks b k
    | .cond _ x y => stacks x k ++ stacks y k
    | .block id c => stacks c (.inBlock id :: k)
    | .loop c => stacks c (.inLoop c :: k)
    | .scope c => stacks c (.inScope c :: k)
    | _ => []

def Val (S : List (List Item)) : List Item → Prop
  | [] => True
  | i :: k => Val S k ∧ match i with
    | .code c => ∀ s ∈ stacks c k, s ∈ S
    | .inLoop c => ∀ s ∈ stacks c (.inLoop c :: k), s ∈ S
    | _ => True

theorem exitTo_val {S : List (List Item)} {id : Nat} : ∀ {k k' : List Item}, exitTo id k = some k' → Val S k → Val S k'
  | [], k', h, _ => by simp [exitTo] at h
  | i :: k, k', h, hv => by
    cases i <;> simp only [exitTo] at h <;> first
      | exact exitTo_val h hv.1
      | skip
    all_goals
      split at h <;> first
        | (cases h; exact hv.1)
        | exact exitTo_val h hv.1

def headIs (id : Nat) : List Item → Bool
  | .code (.region i _ _) :: _ => i == id
  | _ => false

theorem exec_sound {P : Program} {fn : FuncId} {f : Func} {K : Value → World → Prop} {cuts : List Nat} {H : Nat → List Value → World → Prop} {S : List (List Item)} {N : Nat}
    (hf : P.funcs[fn]? = some f) (hm : P.follows .mixedOrders = true)
    (hcut : ∀ id ∈ cuts, ∀ s ∈ S, headIs id s = true → ∀ t w, t.length = N → H id t w → Run P fn K s t w) :
    ∀ (n : Nat) (first : Bool) (todo : List Item) (t : List Value) (w : World), t.length = N → Val S todo →
      execPT P cuts H (retPT P f.results.toList K) n first todo t w → Run P fn K todo t w := by
  intro n
  induction n with
  | zero => intro _ _ _ _ _ _ h; exact h.elim
  | succ n ih =>
    intro first todo t w hl hv h
    have hret : ∀ {todo : List Item}, retPT P f.results.toList K t w →
        (∀ (b : Frame) (cs : List Frame), step P (lone (b.at (act t) todo) cs w) = .next (lone { b.at (act t) todo with mode := .returning } cs w)) →
        Run P fn K todo t w := by
      intro todo hR hst b cs h1 h2
      obtain ⟨v, hr, hk⟩ := retPT_run hR
      refine ⟨v, w, _, hk, .one (hst b cs), h1, rfl, rfl, h2, f, ?_, hr⟩
      show P.funcs[b.fn]? = some f
      rw [h1]; exact hf
    unfold execPT at h
    split at h
    · exact hret h fun _ _ => step_end
    · rename_i i k
      split at h
      · rename_i c
        obtain ⟨hv1, hv2⟩ := hv
        simp only at hv2
        have hmem : (.code c :: k) ∈ S := hv2 _ (by unfold stacks; simp)
        split at h
        · exact (ih _ _ _ _ hl hv1 h).step fun _ _ => step_skip
        · exact (ih _ _ _ _ hl hv1 h).step fun _ _ => step_label
        · rename_i a b
          have hvv : Val S (.code a :: .code b :: k) := ⟨⟨hv1, fun s hs => hv2 s (by unfold stacks; simp [hs])⟩, fun s hs => hv2 s (by unfold stacks; simp [hs])⟩
          exact (ih _ _ _ _ hl hvv h).step fun _ _ => step_seq
        · rename_i id ops draw
          split at h
          · rename_i hc
            simp only [Bool.and_eq_true] at hc
            exact hcut id (by simpa using hc.2) _ hmem (by simp [headIs]) t w hl h
          · obtain ⟨ops⟩ := ops
            refine Run.region ?_
            split at h
            · refine wp_region_list (opsPT_sound (N := N) ?_ _ t w hl h)
              intro t' w' hl' h'
              exact ⟨rfl, t', rfl, ih _ _ _ _ hl' hv1 h'⟩
            · split at h
              · rename_i hsel
                split at h
                · refine drPT_region hm hsel (fun c a w hq => by cases hq.1) ?_ h
                  intro t' w' hl' h'
                  exact ⟨rfl, t', rfl, ih _ _ _ _ (by rw [hl', hl]) hv1 h'⟩
                · obtain ⟨S, h⟩ := h
                  refine drPTS_region (S := S) hm hsel (fun c a w hq => by cases hq.1) ?_ h
                  intro t' w' hl' h'
                  exact ⟨rfl, t', rfl, ih _ _ _ _ (by rw [hl', hl]) hv1 h'⟩
              · exact h.elim
        · rename_i c x y
          split at h
          · rename_i b hb
            have hb' : (act t).eval c = .bool b := by rw [act_eval, hb]
            have hx : Val S (.code x :: k) := ⟨hv1, fun s hs => hv2 s (by unfold stacks; simp [hs])⟩
            have hy : Val S (.code y :: k) := ⟨hv1, fun s hs => hv2 s (by unfold stacks; simp [hs])⟩
            cases b with
            | true => exact (ih _ _ _ _ hl hx h).step fun _ _ => step_cond hb'
            | false => exact (ih _ _ _ _ hl hy h).step fun _ _ => step_cond hb'
          · exact h.elim
        · rename_i id c
          have hvv : Val S (.code c :: .inBlock id :: k) := ⟨⟨hv1, trivial⟩, fun s hs => hv2 s (by unfold stacks; simp [hs])⟩
          exact (ih _ _ _ _ hl hvv h).step fun _ _ => step_block
        · rename_i c
          have hvl : ∀ s ∈ stacks c (.inLoop c :: k), s ∈ S := fun s hs => hv2 s (by unfold stacks; simp [hs])
          have hvv : Val S (.code c :: .inLoop c :: k) := ⟨⟨hv1, hvl⟩, hvl⟩
          exact (ih _ _ _ _ hl hvv h).step fun _ _ => step_loop
        · rename_i c
          have hvv : Val S (.code c :: .inScope c :: k) := ⟨⟨hv1, trivial⟩, fun s hs => hv2 s (by unfold stacks; simp [hs])⟩
          exact (ih _ _ _ _ hl hvv h).step fun _ _ => step_scope
        · rename_i id
          split at h
          · rename_i k' hk'
            exact (ih _ _ _ _ hl (exitTo_val hk' hv1) h).step fun _ _ => step_exit hk'
          · exact h.elim
        · exact hret h fun _ _ => step_ret
        · exact h.elim
      · exact (ih _ _ _ _ hl hv.1 h).step fun _ _ => step_inBlock
      · exact (ih _ _ _ _ hl hv.1 h).step fun _ _ => step_inScope
      · rename_i c
        have hvv : Val S (.code c :: .inLoop c :: k) := ⟨hv, hv.2⟩
        exact (ih _ _ _ _ hl hvv h).step fun _ _ => step_inLoop
      · exact h.elim
/-- A stack among those of a body is lexical throughout. -/
theorem val_of_mem {S : List (List Item)} : ∀ (c : Code) (k : List Item), Val S k → (∀ s ∈ stacks c k, s ∈ S) → ∀ s ∈ stacks c k, Val S s := by
  intro c
  induction c with
  | seq a b iha ihb =>
    intro k hk hsub s hs
    unfold stacks at hs
    have hb : Val S (.code b :: k) := ⟨hk, fun s hs => hsub s (by unfold stacks; simp [hs])⟩
    rcases List.mem_cons.1 hs with rfl | hs
    · exact ⟨hk, hsub⟩
    · rcases List.mem_append.1 hs with hs | hs
      · exact iha (.code b :: k) hb (fun s hs => hsub s (by unfold stacks; simp [hs])) s hs
      · exact ihb k hk (fun s hs => hsub s (by unfold stacks; simp [hs])) s hs
  | cond o x y ihx ihy =>
    intro k hk hsub s hs
    unfold stacks at hs
    rcases List.mem_cons.1 hs with rfl | hs
    · exact ⟨hk, hsub⟩
    · rcases List.mem_append.1 hs with hs | hs
      · exact ihx k hk (fun s hs => hsub s (by unfold stacks; simp [hs])) s hs
      · exact ihy k hk (fun s hs => hsub s (by unfold stacks; simp [hs])) s hs
  | block id c ih =>
    intro k hk hsub s hs
    unfold stacks at hs
    rcases List.mem_cons.1 hs with rfl | hs
    · exact ⟨hk, hsub⟩
    · exact ih (.inBlock id :: k) ⟨hk, trivial⟩ (fun s hs => hsub s (by unfold stacks; simp [hs])) s hs
  | scope c ih =>
    intro k hk hsub s hs
    unfold stacks at hs
    rcases List.mem_cons.1 hs with rfl | hs
    · exact ⟨hk, hsub⟩
    · exact ih (.inScope c :: k) ⟨hk, trivial⟩ (fun s hs => hsub s (by unfold stacks; simp [hs])) s hs
  | loop c ih =>
    intro k hk hsub s hs
    have hl : ∀ s ∈ stacks c (.inLoop c :: k), s ∈ S := fun s hs => hsub s (by unfold stacks; simp [hs])
    unfold stacks at hs
    rcases List.mem_cons.1 hs with rfl | hs
    · exact ⟨hk, hsub⟩
    · exact ih (.inLoop c :: k) ⟨hk, hl⟩ hl s hs
  | _ =>
    intro k hk hsub s hs
    unfold stacks at hs
    simp only [List.mem_cons, List.not_mem_nil, or_false] at hs
    subst hs
    exact ⟨hk, hsub⟩

/-- The stack at the region 'id'. -/
def at_ (body : Code) (id : Nat) : List Item := ((stacks body []).filter (headIs id)).headD []

theorem run_cuts {P : Program} {fn : FuncId} {f : Func} {body : Code} {K : Value → World → Prop} {cuts : List Nat} {H : Nat → Nat → List Value → World → Prop} {N fuel : Nat}
    (hf : P.funcs[fn]? = some f) (hm : P.follows .mixedOrders = true)
    (hT : ∀ id ∈ cuts, (stacks body []).filter (headIs id) = [at_ body id])
    (h0 : ∀ id t w, ¬ H 0 id t w)
    (hs : ∀ n, ∀ id ∈ cuts, ∀ t w, t.length = N → H (n + 1) id t w → execPT P cuts (H n) (retPT P f.results.toList K) fuel true (at_ body id) t w) :
    ∀ n, ∀ id ∈ cuts, ∀ t w, t.length = N → H n id t w → Run P fn K (at_ body id) t w := by
  have hsub : ∀ s ∈ stacks body [], s ∈ stacks body [] := fun s h => h
  have hval := val_of_mem (S := stacks body []) body [] trivial hsub
  intro n
  induction n with
  | zero => intro id _ t w _ h; exact (h0 _ _ _ h).elim
  | succ n ih =>
    intro id hid t w hl h
    have hmem : at_ body id ∈ stacks body [] := by
      have : at_ body id ∈ (stacks body []).filter (headIs id) := by rw [hT id hid]; simp
      exact (List.mem_filter.1 this).1
    refine exec_sound (N := N) (S := stacks body []) hf hm ?_ fuel true _ t w hl (hval _ hmem) (hs n id hid t w hl h)
    intro id' hid' s hsm hhd t' w' hl' h'
    have : s ∈ (stacks body []).filter (headIs id') := List.mem_filter.2 ⟨hsm, hhd⟩
    rw [hT id' hid'] at this
    obtain rfl : s = at_ body id' := by simpa using this
    exact ih id' hid' t' w' hl' h'

theorem calls_of_exec {P : Program} {fn : FuncId} {f : Func} {body : Code} {args : List Value} {K : Value → World → Prop} {cuts : List Nat}
    {H : Nat → Nat → List Value → World → Prop} {N fuel fuel' : Nat} {w : World}
    (hf : P.funcs[fn]? = some f) (hb : f.body = some body) (hm : P.follows .mixedOrders = true)
    (hT : ∀ id ∈ cuts, (stacks body []).filter (headIs id) = [at_ body id])
    (h0 : ∀ id t w, ¬ H 0 id t w)
    (hs : ∀ n, ∀ id ∈ cuts, ∀ t w, t.length = N → H (n + 1) id t w → execPT P cuts (H n) (retPT P f.results.toList K) fuel true (at_ body id) t w)
    (hN : args.length + (f.ntmps - args.length) = N) {n : Nat}
    (h : execPT P cuts (H n) (retPT P f.results.toList K) fuel' true [.code body] (args ++ List.replicate (f.ntmps - args.length) undef) w) :
    Calls P fn ⟨args⟩ w (Ret K) := by
  have hrun := run_cuts hf hm hT h0 hs
  have hval : Val (stacks body []) [.code body] := ⟨trivial, fun s h => h⟩
  have hall := exec_sound (N := N) (S := stacks body []) hf hm (fun id' hid' s hsm hhd t' w' hl' h' => by
    have : s ∈ (stacks body []).filter (headIs id') := List.mem_filter.2 ⟨hsm, hhd⟩
    rw [hT id' hid'] at this
    obtain rfl : s = at_ body id' := by simpa using this
    exact hrun n id' hid' t' w' hl' h') fuel' true [.code body] _ w (by simp [hN]) hval h
  intro cs
  let b : Frame := { (default : Frame) with fn, kind := .normal }
  have henter : Frame.enter P fn ⟨args⟩ .normal = b.at (act (args ++ List.replicate (f.ntmps - args.length) undef)) [.code body] := by
    have harr : (⟨args⟩ : Array Value) ++ Array.replicate (f.ntmps - args.length) undef = ⟨args ++ List.replicate (f.ntmps - args.length) undef⟩ := by
      apply Array.ext'; simp
    simp [Frame.enter, Frame.at, hf, hb, b, act, harr]
  obtain ⟨v, w', fr, hK, hst, h3, h4⟩ := hall b cs rfl rfl
  rw [← henter] at hst
  exact ⟨.returned v, w', fr, hK, hst, h3, h4⟩
end Go.Wk

/-! ### WkCut -/
namespace Go.Wk
open Go

def bodyOf (f : Func) : Code := f.body.getD .skip

/-! ### taking a frame's slots apart -/
def asB (v : Value) (k : Bool → Prop) : Prop := match v with | .bool b => k b | _ => False
def asI (κ : IntKind) (v : Value) (k : Int → Prop) : Prop := match v with | .int κ' i => br (decide (κ = κ')) (k i) False | _ => False
def asF (κ : FloatKind) (v : Value) (k : Nat → Prop) : Prop := match v with | .float κ' i => br (decide (κ = κ')) (k i) False | _ => False
def asS (v : Value) (k : ByteArray → Prop) : Prop := match v with | .string b => k b | _ => False
def asP (v : Value) (k : Option Addr → Prop) : Prop := match v with | .pointer b => k b | _ => False
def asL (v : Value) (k : Option Addr → Nat → Nat → Prop) : Prop := match v with | .slice a n c => k a n c | _ => False
def asV (v : Value) (k : FuncId → List Value → List Value → Prop) : Prop := match v with | .func (.func g) ⟨fi⟩ ⟨ca⟩ => k g fi ca | _ => False

theorem asB_elim {v : Value} {k : Bool → Prop} (h : asB v k) : ∃ b, v = .bool b ∧ k b := by
  unfold asB at h; split at h <;> first | exact ⟨_, rfl, h⟩ | exact h.elim
theorem asI_elim {κ : IntKind} {v : Value} {k : Int → Prop} (h : asI κ v k) : ∃ b, v = .int κ b ∧ k b := by
  unfold asI at h
  split at h
  · obtain ⟨rfl, h'⟩ := br_dec h; exact ⟨_, rfl, h'⟩
  · exact h.elim
theorem asF_elim {κ : FloatKind} {v : Value} {k : Nat → Prop} (h : asF κ v k) : ∃ b, v = .float κ b ∧ k b := by
  unfold asF at h
  split at h
  · obtain ⟨rfl, h'⟩ := br_dec h; exact ⟨_, rfl, h'⟩
  · exact h.elim
theorem asS_elim {v : Value} {k : ByteArray → Prop} (h : asS v k) : ∃ b, v = .string b ∧ k b := by
  unfold asS at h; split at h <;> first | exact ⟨_, rfl, h⟩ | exact h.elim
theorem asP_elim {v : Value} {k : Option Addr → Prop} (h : asP v k) : ∃ b, v = .pointer b ∧ k b := by
  unfold asP at h; split at h <;> first | exact ⟨_, rfl, h⟩ | exact h.elim
theorem asL_elim {v : Value} {k : Option Addr → Nat → Nat → Prop} (h : asL v k) : ∃ a n c, v = .slice a n c ∧ k a n c := by
  unfold asL at h; split at h <;> first | exact ⟨_, _, _, rfl, h⟩ | exact h.elim
theorem asV_elim {v : Value} {k : FuncId → List Value → List Value → Prop} (h : asV v k) : ∃ g fi ca, v = .func (.func g) ⟨fi⟩ ⟨ca⟩ ∧ k g fi ca := by
  unfold asV at h; split at h <;> first | exact ⟨_, _, _, rfl, h⟩ | exact h.elim

def ovr : List (Nat × Value) → (Nat → Value) → Nat → Value
  | [], u, j => u j
  | (i, v) :: r, u, j => match j == i with | true => v | false => ovr r u j
def mk (N : Nat) (u : Nat → Value) : List Value := (List.range N).map u

theorem ovr_eq {l : List (Nat × Value)} {u : Nat → Value} (h : ∀ p ∈ l, u p.1 = p.2) (j : Nat) : ovr l u j = u j := by
  induction l with
  | nil => rfl
  | cons p r ih =>
    obtain ⟨i, v⟩ := p
    unfold ovr
    cases hj : j == i with
    | true =>
      have : j = i := by simpa using hj
      subst this
      exact (h (j, v) (by simp)).symm
    | false => exact ih fun p hp => h p (List.mem_cons_of_mem _ hp)

theorem mk_of {N : Nat} {t : List Value} (hl : t.length = N) (l : List (Nat × Value)) (h : ∀ p ∈ l, t.getD p.1 undef = p.2) :
    t = mk N (ovr l fun j => t.getD j undef) := by
  unfold mk
  apply List.ext_getElem?
  intro i
  simp only [List.getElem?_map]
  by_cases hi : i < N
  · rw [List.getElem?_range hi, Option.map_some, ovr_eq h]
    have : i < t.length := by omega
    simp [List.getD, this]
  · rw [List.getElem?_eq_none (by omega), List.getElem?_eq_none (by simp; omega)]
    rfl

/-- What a function's body asks at its entry. -/
def exE (P : Program) (cuts : List Nat) (H : Nat → List Value → World → Prop) (f : Func) (args : List Value) (w : World) (K : Value → World → Prop) : Prop :=
  execPT P cuts H (retPT P f.results.toList K) 4000 true [.code (bodyOf f)] (args ++ List.replicate (f.ntmps - args.length) undef) w
/-- What it asks at the cut 'r'. -/
def exT (P : Program) (cuts : List Nat) (H : Nat → List Value → World → Prop) (f : Func) (r N : Nat) (l : List (Nat × Value)) (u : Nat → Value) (w : World)
    (K : Value → World → Prop) : Prop :=
  execPT P cuts H (retPT P f.results.toList K) 4000 true (at_ (bodyOf f) r) (mk N (ovr l u)) w

theorem callF_of_ex {P : Program} {fn : FuncId} {f : Func} {args : List Value} {K : Value → World → Prop} {cuts : List Nat}
    {H : Nat → Nat → List Value → World → Prop} {N : Nat} {w : World}
    (hf : P.funcs[fn]? = some f) (hb : f.body = some (bodyOf f)) (hm : P.follows .mixedOrders = true)
    (hc : (callFunc fn ⟨args⟩).run P w = .ok (.enter fn ⟨args⟩) w)
    (hT : ∀ id ∈ cuts, (stacks (bodyOf f) []).filter (headIs id) = [at_ (bodyOf f) id])
    (h0 : ∀ id t w, ¬ H 0 id t w)
    (hs : ∀ n, ∀ id ∈ cuts, ∀ t w, t.length = N → H (n + 1) id t w → execPT P cuts (H n) (retPT P f.results.toList K) 4000 true (at_ (bodyOf f) id) t w)
    (hN : args.length + (f.ntmps - args.length) = N) {n : Nat} (h : exE P cuts (H n) f args w K) : CallF P fn args w K :=
  CallF_of_calls hc (calls_of_exec hf hb hm hT h0 hs hN h)

theorem callF_of_ex0 {P : Program} {fn : FuncId} {f : Func} {args : List Value} {K : Value → World → Prop} {w : World}
    (hf : P.funcs[fn]? = some f) (hb : f.body = some (bodyOf f)) (hm : P.follows .mixedOrders = true)
    (hc : (callFunc fn ⟨args⟩).run P w = .ok (.enter fn ⟨args⟩) w) (h : exE P [] (fun _ _ _ => False) f args w K) : CallF P fn args w K :=
  callF_of_ex (cuts := []) (H := fun _ _ _ _ => False) (n := 0) hf hb hm hc (fun _ h => by cases h) (fun _ _ _ h => h) (fun _ _ h => by cases h) rfl h
end Go.Wk

/-! ### WkMem -/
namespace Go.Wk
open Go Go.RowKit

/-! ### worlds that only grew -/
/-- All that was there is as it was. -/
abbrev Ext (w w' : World) : Prop := Below w.heap.size w w'
theorem Ext.refl (w : World) : Ext w w := Below.refl _ _
theorem Ext.trans {a b c : World} (h : Ext a b) (k : Ext b c) : Ext a c := Below.trans h (k.mono h.size)
theorem Ext.cell {w w' : World} (h : Ext w w') {a : Addr} (ha : a.block < w.heap.size) : w'.cell? a = w.cell? a := Below.cell h ha
theorem Ext.frozen {w w' : World} (h : Ext w w') {a : Addr} (ha : a.block < w.heap.size) : w'.frozen? a = w.frozen? a := Below.frozen h ha
theorem Ext.cell_of {w w' : World} (h : Ext w w') {a : Addr} {v : Value} (hv : w.cell? a = some v) : w'.cell? a = some v := by
  rw [h.cell (World.block_lt_of_cell? _ _ hv), hv]
theorem Ext.kept {w w' : World} (h : Ext w w') : Kept w w' := fun _ _ hv => h.cell_of hv
theorem Ext.drew (w : World) : Ext w w.drew := Below.drew (Below.refl _ _)
theorem Ext.alloc (w : World) (o : Obj) : Ext w (w.alloc o) := Below.alloc (Below.refl _ _) (Nat.le_refl _) o

theorem add_block (a : Addr) (n : Nat) : (a.add n).block = a.block := by unfold Addr.add; split <;> rfl
theorem add_off (a : Addr) (n : Nat) : (a.add n).off = a.off + n := by
  unfold Addr.add; split
  · omega
  · rfl
theorem add_spot {a : Addr} (h : a.spot = none) (n : Nat) : (a.add n).spot = none := by
  unfold Addr.add; split
  · exact h
  · rfl
theorem add_add {a : Addr} (m n : Nat) : (a.add m).add n = a.add (m + n) := by
  unfold Addr.add
  by_cases hn : n = 0
  · simp [hn]
  · by_cases hm : m = 0
    · simp [hm, hn]
    · simp [hm, hn, Nat.add_assoc]
theorem add_zero (a : Addr) : a.add 0 = a := rfl

/-- 'cs' stands at 'a', and may be written. -/
structure Row (w : World) (a : Addr) (cs : List Value) : Prop where
  cell : ∀ j v, cs[j]? = some v → w.cell? (a.add j) = some v
  free : ∀ j, j < cs.length → w.frozen? (a.add j) = false
  lt : a.block < w.heap.size
  spot : a.spot = none

theorem Row.ext {w w' : World} {a : Addr} {cs : List Value} (h : Row w a cs) (e : Ext w w') : Row w' a cs where
  cell j v hv := e.cell_of (h.cell j v hv)
  free j hj := by rw [e.frozen (by rw [add_block]; exact h.lt)]; exact h.free j hj
  lt := Nat.lt_of_lt_of_le h.lt e.size
  spot := h.spot

theorem Row.get {w : World} {a : Addr} {cs : List Value} (h : Row w a cs) (j : Nat) {v : Value} (hv : cs[j]? = some v) : w.cell? (a.add j) = some v := h.cell j v hv
theorem Row.get0 {w : World} {a : Addr} {cs : List Value} (h : Row w a cs) {v : Value} (hv : cs[0]? = some v) : w.cell? a = some v := h.cell 0 v hv

/-- A new block: where it is, what it holds; all else is as it was. -/
theorem newB_intro {cs : List Value} {ty : TypeId} {w : World} {k : Addr → World → Prop}
    (h : ∀ q w', q.block = w.heap.size → q.off = 0 → Ext w w' → Row w' q cs → w'.heap.size = w.heap.size + 1 → w'.heap[q.block]? = some (.cells ⟨cs⟩ ty) → k q w') :
    newB cs ty w k := by
  refine h ⟨w.heap.size, 0, none⟩ _ rfl rfl (Ext.alloc w _) ⟨fun j v hv => ?_, fun j hj => ?_, by simp, rfl⟩ (by simp) (by show (w.heap.push _)[w.heap.size]? = _; simp)
  · have : (⟨w.heap.size, 0, none⟩ : Addr).add j = ⟨w.heap.size, j, none⟩ := by
      unfold Addr.add; split <;> simp_all
    rw [this, World.cell?_alloc_new]
    simpa using hv
  · have : (⟨w.heap.size, 0, none⟩ : Addr).add j = ⟨w.heap.size, j, none⟩ := by
      unfold Addr.add; split <;> simp_all
    rw [this, World.frozen?_alloc_new]

/-- A call of a function without a Go body. -/
theorem CallF_of_value {P : Program} {f : FuncId} {args : List Value} {w w' : World} {k : Value → World → Prop} {v : Value}
    (hf : (callFunc f ⟨args⟩).run P w = .ok (.value v) w') (h : k v w') : CallF P f args w k := by
  unfold CallF
  rw [hf]
  exact h
end Go.Wk

/-! ### WkFl -/
namespace Go.Wk
open Go Ieee

/-! ### a float64's bits -/
def sgn (x : Nat) : Bool := x / 9223372036854775808 % 2 == 1
def rung (x : Nat) : Nat := x % 9223372036854775808
def infR : Nat := 9218868437227405312
def nan (x : Nat) : Prop := infR < rung x
def fin (x : Nat) : Prop := rung x < infR
instance (x : Nat) : Decidable (nan x) := inferInstanceAs (Decidable (_ < _))
instance (x : Nat) : Decidable (fin x) := inferInstanceAs (Decidable (_ < _))

def magR (r : Nat) : Nat := if r < 4503599627370496 then r else 4503599627370496 + r % 4503599627370496
def shR (r : Nat) : Nat := if r < 4503599627370496 then 0 else r / 4503599627370496 - 1
/-- The magnitude of a rung, in units of 2^-1074. -/
def valR (r : Nat) : Nat := magR r * 2 ^ shR r

theorem double_sw : double.signWeight = 9223372036854775808 := by decide
theorem double_inf : double.infRung = 9218868437227405312 := by decide
theorem double_bin : double.binade = 4503599627370496 := by decide
theorem double_lp : double.leastPlace = -1074 := by decide

theorem read_fin {x : Nat} (h : fin x) : double.read x = .number (sgn x) (magR (rung x)) (-1074 + shR (rung x)) := by
  unfold fin infR at h
  unfold Format.read
  simp only [double_sw, double_bin, double_inf, double_lp]
  show (if rung x < _ then _ else _) = _
  unfold magR shR
  by_cases h1 : rung x < 4503599627370496
  · simp only [h1, if_true]
    show Datum.number (sgn x) (rung x) (-1074) = _
    simp
  · simp only [h1, if_false]
    rw [if_pos (show x % 9223372036854775808 < 9218868437227405312 from h)]
    rfl

theorem read_inf {x : Nat} (h : rung x = infR) : double.read x = .infinity (sgn x) := by
  unfold infR at h
  unfold Format.read
  simp only [double_sw, double_bin, double_inf, double_lp]
  show (if rung x < _ then _ else if rung x < _ then _ else if rung x = _ then _ else _) = _
  rw [h]
  rfl

theorem read_nan {x : Nat} (h : nan x) : ∃ f, double.read x = .nan (sgn x) f := by
  unfold nan infR at h
  unfold Format.read
  simp only [double_sw, double_bin, double_inf, double_lp]
  have h1 : ¬ x % 9223372036854775808 < 4503599627370496 := by unfold rung at h; omega
  have h2 : ¬ x % 9223372036854775808 < 9218868437227405312 := by unfold rung at h; omega
  have h3 : ¬ x % 9223372036854775808 = 9218868437227405312 := by unfold rung at h; omega
  rw [if_neg h1, if_neg h2, if_neg h3]
  exact ⟨_, rfl⟩

theorem tri (x : Nat) : fin x ∨ rung x = infR ∨ nan x := by unfold fin nan; omega

theorem valR_lt {r s : Nat} (h : r < s) : valR r < valR s := by
  unfold valR magR shR
  by_cases hs : s < 4503599627370496
  · have hr : r < 4503599627370496 := by omega
    simp only [hs, hr, if_true, Nat.pow_zero, Nat.mul_one]
    exact h
  · simp only [hs, if_false]
    have hp : 0 < 2 ^ (s / 4503599627370496 - 1) := Nat.two_pow_pos _
    by_cases hr : r < 4503599627370496
    · simp only [hr, if_true, Nat.pow_zero, Nat.mul_one]
      calc r < 4503599627370496 * 1 := by omega
        _ ≤ (4503599627370496 + s % 4503599627370496) * 2 ^ (s / 4503599627370496 - 1) := Nat.mul_le_mul (by omega) hp
    · simp only [hr, if_false]
      by_cases hq : r / 4503599627370496 = s / 4503599627370496
      · rw [hq]
        exact Nat.mul_lt_mul_of_pos_right (by omega) hp
      · have hlt : r / 4503599627370496 < s / 4503599627370496 := by omega
        have h1 : 2 ^ (s / 4503599627370496 - 1) = 2 ^ (r / 4503599627370496 - 1) * 2 ^ (s / 4503599627370496 - r / 4503599627370496) := by
          rw [← Nat.pow_add]; congr 1; omega
        have h2 : 2 ≤ 2 ^ (s / 4503599627370496 - r / 4503599627370496) := by
          calc 2 = 2 ^ 1 := rfl
            _ ≤ _ := Nat.pow_le_pow_right (by omega) (by omega)
        have h3 : 0 < 2 ^ (r / 4503599627370496 - 1) := Nat.two_pow_pos _
        have h4 : r % 4503599627370496 < 4503599627370496 := Nat.mod_lt _ (by decide)
        calc (4503599627370496 + r % 4503599627370496) * 2 ^ (r / 4503599627370496 - 1)
            < (2 * 4503599627370496) * 2 ^ (r / 4503599627370496 - 1) := Nat.mul_lt_mul_of_pos_right (by omega) h3
          _ = 4503599627370496 * (2 ^ (r / 4503599627370496 - 1) * 2) := by rw [Nat.mul_comm 2, Nat.mul_assoc, Nat.mul_comm 2]
          _ ≤ (4503599627370496 + s % 4503599627370496) * (2 ^ (r / 4503599627370496 - 1) * 2 ^ (s / 4503599627370496 - r / 4503599627370496)) :=
              Nat.mul_le_mul (by omega) (Nat.mul_le_mul_left _ h2)
          _ = _ := by rw [← h1]

theorem valR_le {r s : Nat} : valR r ≤ valR s ↔ r ≤ s := by
  constructor
  · intro h
    rcases Nat.lt_or_ge s r with h' | h'
    · have := valR_lt h'; omega
    · exact h'
  · intro h
    rcases Nat.lt_or_eq_of_le h with h' | h'
    · exact Nat.le_of_lt (valR_lt h')
    · rw [h']; exact Nat.le_refl _

theorem valR_zero : valR 0 = 0 := by decide

/-- The place of a number among all. -/
def key (x : Nat) : Int := if sgn x then -(rung x : Int) else rung x
/-- The worth of a finite one, in units of 2^-1074. -/
def wth (x : Nat) : Int := if sgn x then -(valR (rung x) : Int) else valR (rung x)

theorem cmp_val (s t : Bool) (a b : Nat) :
    compare (if s then -(valR a : Int) else valR a) (if t then -(valR b : Int) else valR b) = compare (if s then -(a : Int) else a) (if t then -(b : Int) else b) := by
  have h1 := @valR_le a b
  have h2 := @valR_le b a
  have h3 := @valR_le a 0
  have h4 := @valR_le b 0
  have h5 := @valR_le 0 a
  have h6 := @valR_le 0 b
  rw [valR_zero] at h3 h4 h5 h6
  have key : ∀ x y u v : Int, (x < y ↔ u < v) → (x = y ↔ u = v) → compare x y = compare u v := by
    intro x y u v h h'
    simp only [compare, compareOfLessAndEq]
    by_cases c : x < y
    · rw [if_pos c, if_pos (h.1 c)]
    · rw [if_neg c, if_neg (fun c' => c (h.2 c'))]
      by_cases e : x = y
      · rw [if_pos e, if_pos (h'.1 e)]
      · rw [if_neg e, if_neg (fun e' => e (h'.2 e'))]
  apply key
  · cases s <;> cases t <;> simp only [if_true, if_false, Bool.false_eq_true] <;> omega
  · cases s <;> cases t <;> simp only [if_true, if_false, Bool.false_eq_true] <;> omega

theorem compare_mul (x y : Int) (p : Nat) (hp : 0 < p) : compare (x * p) (y * p) = compare x y := by
  have hp' : (0 : Int) < p := by omega
  simp only [compare, compareOfLessAndEq]
  by_cases c : x < y
  · rw [if_pos c, if_pos ((Int.mul_lt_mul_right hp').2 c)]
  · rw [if_neg c, if_neg (fun c' => c ((Int.mul_lt_mul_right hp').1 c'))]
    by_cases e : x = y
    · rw [if_pos e, if_pos (by rw [e])]
    · rw [if_neg e, if_neg (fun e' => e (Int.eq_of_mul_eq_mul_right (by omega) e'))]

theorem signed_eq (s : Bool) (m u : Nat) : signed s m u = (if s then -(m * 2 ^ u : Nat) else (m * 2 ^ u : Nat) : Int) := by
  unfold signed
  rw [Nat.shiftLeft_eq]

theorem order_num (s t : Bool) (a b : Nat) :
    Datum.order (.number s (magR a) (-1074 + shR a)) (.number t (magR b) (-1074 + shR b)) = some (compare (if s then -(a : Int) else a) (if t then -(b : Int) else b)) := by
  simp only [Datum.order]
  congr 1
  rw [← cmp_val]
  have e1 : ((-1074 + (shR a : Int)) - min (-1074 + (shR a : Int)) (-1074 + (shR b : Int))).toNat = shR a - min (shR a) (shR b) := by omega
  have e2 : ((-1074 + (shR b : Int)) - min (-1074 + (shR a : Int)) (-1074 + (shR b : Int))).toNat = shR b - min (shR a) (shR b) := by omega
  rw [e1, e2, signed_eq, signed_eq]
  have hp : 0 < 2 ^ min (shR a) (shR b) := Nat.two_pow_pos _
  rw [← compare_mul _ _ _ hp]
  have f1 : magR a * 2 ^ (shR a - min (shR a) (shR b)) * 2 ^ min (shR a) (shR b) = valR a := by
    rw [Nat.mul_assoc, ← Nat.pow_add, Nat.sub_add_cancel (Nat.min_le_left ..)]; rfl
  have f2 : magR b * 2 ^ (shR b - min (shR a) (shR b)) * 2 ^ min (shR a) (shR b) = valR b := by
    rw [Nat.mul_assoc, ← Nat.pow_add, Nat.sub_add_cancel (Nat.min_le_right ..)]; rfl
  congr 1
  · cases s
    · simp only [Bool.false_eq_true, if_false]; rw [← Int.natCast_mul, f1]
    · simp only [if_true]; rw [Int.neg_mul, ← Int.natCast_mul, f1]
  · cases t
    · simp only [Bool.false_eq_true, if_false]; rw [← Int.natCast_mul, f2]
    · simp only [if_true]; rw [Int.neg_mul, ← Int.natCast_mul, f2]

theorem rung_lt (x : Nat) : rung x < 9223372036854775808 := Nat.mod_lt _ (by decide)

theorem order_key {x y : Nat} (hx : ¬ nan x) (hy : ¬ nan y) : double.order x y = some (compare (key x) (key y)) := by
  unfold Format.order key
  have hcmp : ∀ u v : Int, u < v → compare u v = .lt := fun u v h => by simp [compare, compareOfLessAndEq, h]
  have hcmp' : ∀ u v : Int, v < u → compare u v = .gt := fun u v h => by
    have h1 : ¬ u < v := by omega
    have h2 : ¬ u = v := by omega
    simp [compare, compareOfLessAndEq, h1, h2]
  have heq : ∀ u : Int, compare u u = .eq := fun u => by simp [compare, compareOfLessAndEq]
  rcases tri x with h | h | h
  · rcases tri y with h' | h' | h'
    · rw [read_fin h, read_fin h', order_num]
    · rw [read_fin h, read_inf h']
      unfold fin infR at h
      unfold infR at h'
      simp only [Datum.order]
      cases hs : sgn y
      · simp only [Bool.false_eq_true, if_false]
        rw [hcmp]
        split <;> omega
      · simp only [if_true]
        rw [hcmp']
        split <;> omega
    · exact absurd h' hy
  · rcases tri y with h' | h' | h'
    · rw [read_inf h, read_fin h']
      unfold fin infR at h'
      unfold infR at h
      simp only [Datum.order]
      cases hs : sgn x
      · simp only [Bool.false_eq_true, if_false]
        rw [hcmp']
        split <;> omega
      · simp only [if_true]
        rw [hcmp]
        split <;> omega
    · rw [read_inf h, read_inf h', h, h']
      simp only [Datum.order]
      cases sgn x <;> cases sgn y <;> simp only [if_true, if_false, Bool.false_eq_true] <;> rfl
    · exact absurd h' hy
  · exact absurd h hx

theorem order_nan {x y : Nat} (h : nan x ∨ nan y) : double.order x y = none := by
  unfold Format.order
  rcases h with h | h
  · obtain ⟨f, hf⟩ := read_nan h
    rw [hf]; rfl
  · obtain ⟨f, hf⟩ := read_nan h
    rw [hf]
    cases double.read x <;> rfl

theorem feq_eq (x y : Nat) : feq .f64 x y = decide (¬ nan x ∧ ¬ nan y ∧ key x = key y) := by
  unfold feq
  show (double.order x y == some .eq) = _
  by_cases h : nan x ∨ nan y
  · rw [order_nan h]
    rw [eq_comm, decide_eq_false_iff_not.2 (by rcases h with h | h <;> simp [h])]
    rfl
  · have hx : ¬ nan x := fun h' => h (.inl h')
    have hy : ¬ nan y := fun h' => h (.inr h')
    rw [order_key hx hy]
    simp only [hx, hy, not_false_eq_true, true_and, compare, compareOfLessAndEq]
    by_cases c : key x < key y
    · rw [if_pos c]
      have : ¬ key x = key y := by omega
      simp [this]
    · rw [if_neg c]
      by_cases e : key x = key y
      · simp [e]
      · simp [e]

theorem fne_eq (x y : Nat) : fne .f64 x y = !feq .f64 x y := rfl

theorem flt_eq (x y : Nat) : flt .f64 x y = decide (¬ nan x ∧ ¬ nan y ∧ key x < key y) := by
  unfold flt
  show (double.order x y == some .lt) = _
  by_cases h : nan x ∨ nan y
  · rw [order_nan h]
    rw [eq_comm, decide_eq_false_iff_not.2 (by rcases h with h | h <;> simp [h])]
    rfl
  · have hx : ¬ nan x := fun h' => h (.inl h')
    have hy : ¬ nan y := fun h' => h (.inr h')
    rw [order_key hx hy]
    simp only [hx, hy, not_false_eq_true, true_and, compare, compareOfLessAndEq]
    by_cases c : key x < key y
    · simp [c]
    · rw [if_neg c]
      by_cases e : key x = key y
      · simp [e]
      · simp [e, c]

theorem fgt_eq (x y : Nat) : fgt .f64 x y = decide (¬ nan x ∧ ¬ nan y ∧ key y < key x) := by
  unfold fgt
  show (double.order x y == some .gt) = _
  by_cases h : nan x ∨ nan y
  · rw [order_nan h]
    rw [eq_comm, decide_eq_false_iff_not.2 (by rcases h with h | h <;> simp [h])]
    rfl
  · have hx : ¬ nan x := fun h' => h (.inl h')
    have hy : ¬ nan y := fun h' => h (.inr h')
    rw [order_key hx hy]
    simp only [hx, hy, not_false_eq_true, true_and, compare, compareOfLessAndEq]
    by_cases c : key x < key y
    · have : ¬ key y < key x := by omega
      simp [c, this]
    · rw [if_neg c]
      by_cases e : key x = key y
      · simp [e]
      · have : key y < key x := by omega
        simp [e, this]

theorem fle_eq (x y : Nat) : fle .f64 x y = decide (¬ nan x ∧ ¬ nan y ∧ key x ≤ key y) := by
  have h : fle .f64 x y = (flt .f64 x y || feq .f64 x y) := rfl
  rw [h, flt_eq, feq_eq, ← Bool.decide_or]
  congr 1
  apply propext
  constructor
  · rintro (⟨a, b, c⟩ | ⟨a, b, c⟩) <;> exact ⟨a, b, by omega⟩
  · rintro ⟨a, b, c⟩
    by_cases e : key x = key y
    · exact .inr ⟨a, b, e⟩
    · exact .inl ⟨a, b, by omega⟩
end Go.Wk

/-! ### WkRnd -/
namespace Go.Wk
open Go Ieee

/-! ### rounding -/
/-- To the nearest whole number of 2^d, ties to even. -/
def rne (n d : Nat) : Nat :=
  let q := n / 2 ^ d
  let r := n % 2 ^ d
  q + (if 2 ^ d < 2 * r ∨ (2 ^ d = 2 * r ∧ q % 2 = 1) then 1 else 0)

theorem log2_lt (n : Nat) : n < 2 ^ (n.log2 + 1) := Nat.lt_log2_self

theorem cut_eq (s : Bool) (n d : Nat) : Toward.even.cut s n d = rne n d := by
  unfold Toward.cut rne
  simp only [Nat.shiftLeft_eq, Nat.one_mul]
  have hb : ∀ (g q r : Nat), (decide (g < 2 * r) || (g == 2 * r && q % 2 == 1)).toNat = if g < 2 * r ∨ (g = 2 * r ∧ q % 2 = 1) then 1 else 0 := by
    intro g q r
    by_cases h1 : g < 2 * r
    · simp [h1]
    · by_cases h2 : g = 2 * r
      · by_cases h3 : q % 2 = 1
        · simp [h2, h3]
        · simp [h2, h3]
      · simp [h1, h2]
  by_cases h : d ≤ n.log2 + 2
  · rw [Nat.min_eq_left h, hb]
  · have hm : min d (n.log2 + 2) = n.log2 + 2 := by omega
    rw [hm, hb]
    have h1 := log2_lt n
    have h2 : 2 * 2 ^ (n.log2 + 1) = 2 ^ (n.log2 + 2) := by rw [Nat.pow_succ 2 (n.log2 + 1), Nat.mul_comm]
    have h3 : 2 ^ (n.log2 + 2) ≤ 2 ^ d := Nat.pow_le_pow_right (by omega) (by omega)
    have q1 : n / 2 ^ (n.log2 + 2) = 0 := Nat.div_eq_of_lt (by omega)
    have q2 : n / 2 ^ d = 0 := Nat.div_eq_of_lt (by omega)
    have r1 : n % 2 ^ (n.log2 + 2) = n := Nat.mod_eq_of_lt (by omega)
    have r2 : n % 2 ^ d = n := Nat.mod_eq_of_lt (by omega)
    rw [q1, q2, r1, r2]
    rw [if_neg (by omega), if_neg (by omega)]

theorem rne_zero (n : Nat) : rne n 0 = n := by
  unfold rne
  simp [Nat.mod_one]

theorem rne_exact (n d : Nat) : rne (n * 2 ^ d) d = n := by
  unfold rne
  have hp : 0 < 2 ^ d := Nat.two_pow_pos _
  simp only [Nat.mul_div_cancel _ hp, Nat.mul_mod_left]
  rw [if_neg (by omega)]
  rfl

/-- How far it is. -/
theorem rne_far (n d : Nat) : 2 * n ≤ 2 * (rne n d * 2 ^ d) + 2 ^ d ∧ 2 * (rne n d * 2 ^ d) ≤ 2 * n + 2 ^ d := by
  unfold rne
  have hp : 0 < 2 ^ d := Nat.two_pow_pos _
  have h1 := Nat.div_add_mod n (2 ^ d)
  have h2 := Nat.mod_lt n hp
  simp only
  generalize n / 2 ^ d = q at *
  generalize n % 2 ^ d = r at *
  have h3 : q * 2 ^ d = 2 ^ d * q := Nat.mul_comm _ _
  generalize hg : 2 ^ d = g at *
  split
  · rw [Nat.add_mul, Nat.one_mul]; omega
  · rw [Nat.add_zero]; omega

theorem rne_mono {m n : Nat} (d : Nat) (h : m ≤ n) : rne m d ≤ rne n d := by
  unfold rne
  have hp : 0 < 2 ^ d := Nat.two_pow_pos _
  have a1 := Nat.div_add_mod m (2 ^ d)
  have a2 := Nat.mod_lt m hp
  have b1 := Nat.div_add_mod n (2 ^ d)
  have b2 := Nat.mod_lt n hp
  have hq : m / 2 ^ d ≤ n / 2 ^ d := Nat.div_le_div_right h
  simp only
  generalize m / 2 ^ d = q at *
  generalize m % 2 ^ d = r at *
  generalize n / 2 ^ d = q' at *
  generalize n % 2 ^ d = r' at *
  generalize hg : 2 ^ d = g at *
  by_cases e : q = q'
  · subst e
    split <;> split <;> omega
  · split <;> split <;> omega

/-- The last place that is kept. -/
def lastP (mag : Nat) (place : Int) : Int := max (place + mag.log2 - 52) (-1074)
/-- The rung of 'mag * 2 ^ place'. -/
def nearR (mag : Nat) (place : Int) : Nat :=
  (lastP mag place + 1074).toNat * 4503599627370496 + rne (mag <<< (place - lastP mag place).toNat) (lastP mag place - place).toNat
def wordD (s : Bool) (r : Nat) : Nat := if s then 9223372036854775808 + r else r

theorem nearest_eq (s : Bool) (mag : Nat) (place : Int) (h : mag ≠ 0) :
    double.nearest s mag place = wordD s (min (nearR mag place) infR) := by
  unfold Format.nearest
  rw [if_neg h]
  simp only [cut_eq, double_lp, double_bin, double_inf]
  have : (-(-1074 : Int)) = 1074 := rfl
  unfold Format.word wordD nearR lastP infR
  rw [double_sw]
  have e : ∀ z : Int, z - -1074 = z + 1074 := fun z => by omega
  show (if s then _ + min _ _ else min _ _) = _
  simp only [e]
  rfl

theorem nearest_zero (s : Bool) (place : Int) : double.nearest s 0 place = wordD s 0 := by
  unfold Format.nearest Format.word wordD
  rw [if_pos rfl, double_sw]

theorem sgn_word (s : Bool) {r : Nat} (h : r < 9223372036854775808) : sgn (wordD s r) = s := by
  unfold sgn wordD
  cases s
  · simp; omega
  · simp; omega
theorem rung_word (s : Bool) {r : Nat} (h : r < 9223372036854775808) : rung (wordD s r) = r := by
  unfold rung wordD
  cases s <;> simp <;> omega
theorem word_of {x : Nat} (h : x < 18446744073709551616) : wordD (sgn x) (rung x) = x := by
  unfold wordD sgn rung
  split
  · rename_i hs; simp at hs; omega
  · rename_i hs; simp at hs; omega

/-- The magnitude of a rung out of its two parts. -/
theorem valR_parts {a k : Nat} (hk : k ≤ 9007199254740992) (ha : a = 0 ∨ 4503599627370496 ≤ k) : valR (a * 4503599627370496 + k) = k * 2 ^ a := by
  unfold valR magR shR
  by_cases h0 : a = 0
  · subst h0
    simp only [Nat.zero_mul, Nat.zero_add, Nat.pow_zero, Nat.mul_one]
    by_cases h1 : k < 4503599627370496
    · simp [h1]
    · simp only [h1, if_false]
      by_cases h2 : k < 9007199254740992
      · have hd : k / 4503599627370496 = 1 := by omega
        rw [hd]; simp; omega
      · have : k = 9007199254740992 := by omega
        subst this; rfl
  · have hk1 : 4503599627370496 ≤ k := by omega
    have h1 : ¬ a * 4503599627370496 + k < 4503599627370496 := by omega
    simp only [h1, if_false]
    by_cases h2 : k < 9007199254740992
    · have hd : (a * 4503599627370496 + k) / 4503599627370496 = a + 1 := by omega
      have hm : (a * 4503599627370496 + k) % 4503599627370496 = k - 4503599627370496 := by omega
      rw [hd, hm]
      have : 4503599627370496 + (k - 4503599627370496) = k := by omega
      rw [this]; rfl
    · have : k = 9007199254740992 := by omega
      subst this
      have hd : (a * 4503599627370496 + 9007199254740992) / 4503599627370496 = a + 2 := by omega
      have hm : (a * 4503599627370496 + 9007199254740992) % 4503599627370496 = 0 := by omega
      rw [hd, hm]
      have : a + 2 - 1 = a + 1 := by omega
      rw [this, Nat.pow_succ]
      omega
end Go.Wk

/-! ### WkRnd2 -/
namespace Go.Wk
open Go Ieee

theorem rne_mul (n d j : Nat) : rne (n * 2 ^ j) (d + j) = rne n d := by
  unfold rne
  have hp : 0 < 2 ^ j := Nat.two_pow_pos _
  have h1 : n * 2 ^ j / 2 ^ (d + j) = n / 2 ^ d := by rw [Nat.pow_add]; exact Nat.mul_div_mul_right _ _ hp
  have h2 : n * 2 ^ j % 2 ^ (d + j) = n % 2 ^ d * 2 ^ j := by rw [Nat.pow_add]; exact Nat.mul_mod_mul_right _ _ _
  simp only [h1, h2]
  have h3 : (2 ^ (d + j) < 2 * (n % 2 ^ d * 2 ^ j)) ↔ (2 ^ d < 2 * (n % 2 ^ d)) := by
    rw [Nat.pow_add, ← Nat.mul_assoc]
    exact Nat.mul_lt_mul_right hp
  have h4 : (2 ^ (d + j) = 2 * (n % 2 ^ d * 2 ^ j)) ↔ (2 ^ d = 2 * (n % 2 ^ d)) := by
    rw [Nat.pow_add, ← Nat.mul_assoc]
    constructor
    · intro h; exact Nat.eq_of_mul_eq_mul_right hp h
    · intro h; exact congrArg (fun z => z * 2 ^ j) h
  simp only [h3, h4]

theorem log2_mul_pow (m k : Nat) (h : m ≠ 0) : (m * 2 ^ k).log2 = m.log2 + k := by
  have hm := Nat.log2_self_le h
  have hl := log2_lt m
  have h0 : m * 2 ^ k ≠ 0 := by
    have : 0 < m * 2 ^ k := Nat.mul_pos (by omega) (Nat.two_pow_pos _)
    omega
  rw [Nat.log2_eq_iff h0]
  constructor
  · rw [Nat.pow_add]; exact Nat.mul_le_mul_right _ hm
  · rw [show m.log2 + k + 1 = (m.log2 + 1) + k by omega, Nat.pow_add]
    exact Nat.mul_lt_mul_of_pos_right hl (Nat.two_pow_pos _)

theorem lastP_shift (m : Nat) (p : Int) (k : Nat) (h : m ≠ 0) : lastP (m * 2 ^ k) (p - k) = lastP m p := by
  unfold lastP
  rw [log2_mul_pow m k h]
  congr 1
  push_cast
  omega

theorem nearR_shift (m : Nat) (p : Int) (k : Nat) (h : m ≠ 0) : nearR (m * 2 ^ k) (p - k) = nearR m p := by
  unfold nearR
  rw [lastP_shift m p k h]
  congr 1
  generalize lastP m p = l
  simp only [Nat.shiftLeft_eq]
  by_cases hpl : l ≤ p
  · -- exact
    have e1 : (l - p).toNat = 0 := by omega
    rw [e1, rne_zero]
    by_cases hk : l ≤ p - k
    · have e2 : (l - (p - k)).toNat = 0 := by omega
      rw [e2, rne_zero, Nat.mul_assoc, ← Nat.pow_add]
      congr 2
      omega
    · have e3 : (p - (k : Int) - l).toNat = 0 := by omega
      rw [e3, Nat.pow_zero, Nat.mul_one]
      have e4 : (k : Nat) = (p - l).toNat + (l - (p - k)).toNat := by omega
      have e5 : m * 2 ^ k = m * 2 ^ (p - l).toNat * 2 ^ (l - (p - k)).toNat := by
        rw [Nat.mul_assoc, ← Nat.pow_add, ← e4]
      rw [e5, rne_exact]
  · have e1 : (p - l).toNat = 0 := by omega
    have e2 : (p - (k : Int) - l).toNat = 0 := by omega
    rw [e1, e2, Nat.pow_zero, Nat.mul_one, Nat.mul_one]
    have e3 : (l - (p - k)).toNat = (l - p).toNat + k := by omega
    rw [e3, rne_mul]

/-- A number that the format has. -/
theorem nearR_val (r : Nat) (h0 : r ≠ 0) (k : Nat) : nearR (magR r * 2 ^ k) (-1074 + shR r - k) = r := by
  have hm : magR r ≠ 0 := by
    unfold magR
    split <;> omega
  rw [nearR_shift _ _ _ hm]
  unfold nearR lastP magR shR
  by_cases h1 : r < 4503599627370496
  · simp only [h1, if_true]
    have hl : r.log2 < 52 := (Nat.log2_lt h0).2 h1
    have e : max (-1074 + ((0 : Nat) : Int) + (r.log2 : Int) - 52) (-1074) = -1074 := by omega
    rw [e]
    simp [rne_zero]
  · simp only [h1, if_false]
    have hlt : r % 4503599627370496 < 4503599627370496 := Nat.mod_lt _ (by decide)
    have hl : (4503599627370496 + r % 4503599627370496).log2 = 52 := by
      rw [Nat.log2_eq_iff (by omega)]
      constructor <;> omega
    rw [hl]
    have e : max (-1074 + ((r / 4503599627370496 - 1 : Nat) : Int) + ((52 : Nat) : Int) - 52) (-1074) = -1074 + ((r / 4503599627370496 - 1 : Nat) : Int) := by omega
    rw [e]
    have e2 : (-1074 + ((r / 4503599627370496 - 1 : Nat) : Int) - (-1074 + ((r / 4503599627370496 - 1 : Nat) : Int))).toNat = 0 := by omega
    rw [e2, rne_zero]
    have e3 : (-1074 + ((r / 4503599627370496 - 1 : Nat) : Int) + 1074).toNat = r / 4503599627370496 - 1 := by omega
    rw [e3]
    have hq : 1 ≤ r / 4503599627370496 := by omega
    simp
    omega

/-- What is kept: its bounds. -/
def keptR (mag : Nat) (place : Int) : Nat := rne (mag <<< (place - lastP mag place).toNat) (lastP mag place - place).toNat

theorem rne_le {n d b : Nat} (h : n ≤ b * 2 ^ d) : rne n d ≤ b := by
  have := rne_mono d h
  rwa [rne_exact] at this
theorem le_rne {n d b : Nat} (h : b * 2 ^ d ≤ n) : b ≤ rne n d := by
  have := rne_mono d h
  rwa [rne_exact] at this

theorem keptR_le (m : Nat) (p : Int) : keptR m p ≤ 9007199254740992 := by
  unfold keptR
  have hl := log2_lt m
  have hlast : p + m.log2 - 52 ≤ lastP m p := by unfold lastP; omega
  generalize lastP m p = l at *
  simp only [Nat.shiftLeft_eq]
  apply rne_le
  by_cases h : l ≤ p
  · have e : (l - p).toNat = 0 := by omega
    rw [e, Nat.pow_zero, Nat.mul_one]
    have h2 : m.log2 + 1 + (p - l).toNat ≤ 53 := by omega
    calc m * 2 ^ (p - l).toNat ≤ 2 ^ (m.log2 + 1) * 2 ^ (p - l).toNat := Nat.mul_le_mul_right _ (Nat.le_of_lt hl)
      _ = 2 ^ (m.log2 + 1 + (p - l).toNat) := by rw [← Nat.pow_add]
      _ ≤ 2 ^ 53 := Nat.pow_le_pow_right (by omega) h2
  · have e : (p - l).toNat = 0 := by omega
    rw [e, Nat.pow_zero, Nat.mul_one]
    have h2 : m.log2 + 1 ≤ 53 + (l - p).toNat := by omega
    calc m ≤ 2 ^ (m.log2 + 1) := Nat.le_of_lt hl
      _ ≤ 2 ^ (53 + (l - p).toNat) := Nat.pow_le_pow_right (by omega) h2
      _ = 9007199254740992 * 2 ^ (l - p).toNat := by rw [Nat.pow_add]

theorem le_keptR {m : Nat} {p : Int} (hm : m ≠ 0) (h : -1074 < lastP m p) : 4503599627370496 ≤ keptR m p := by
  unfold keptR
  have hl := Nat.log2_self_le hm
  have hlast : lastP m p = p + m.log2 - 52 := by unfold lastP at *; omega
  generalize lastP m p = l at *
  simp only [Nat.shiftLeft_eq]
  apply le_rne
  by_cases h' : l ≤ p
  · have e : (l - p).toNat = 0 := by omega
    rw [e, Nat.pow_zero, Nat.mul_one]
    have h2 : 52 = m.log2 + (p - l).toNat := by omega
    calc 4503599627370496 = 2 ^ 52 := rfl
      _ = 2 ^ m.log2 * 2 ^ (p - l).toNat := by rw [← Nat.pow_add, ← h2]
      _ ≤ m * 2 ^ (p - l).toNat := Nat.mul_le_mul_right _ hl
  · have e : (p - l).toNat = 0 := by omega
    rw [e, Nat.pow_zero, Nat.mul_one]
    have h2 : 52 + (l - p).toNat = m.log2 := by omega
    calc 4503599627370496 * 2 ^ (l - p).toNat = 2 ^ 52 * 2 ^ (l - p).toNat := rfl
      _ = 2 ^ (52 + (l - p).toNat) := by rw [← Nat.pow_add]
      _ = 2 ^ m.log2 := by rw [h2]
      _ ≤ m := hl

theorem lastP_ge (m : Nat) (p : Int) : -1074 ≤ lastP m p := by unfold lastP; omega

theorem nearR_eq (m : Nat) (p : Int) : nearR m p = (lastP m p + 1074).toNat * 4503599627370496 + keptR m p := rfl

/-- The magnitude of what is rounded. -/
theorem valR_near {m : Nat} {p : Int} (hm : m ≠ 0) : valR (nearR m p) = keptR m p * 2 ^ (lastP m p + 1074).toNat := by
  rw [nearR_eq]
  refine valR_parts (keptR_le m p) ?_
  by_cases h : lastP m p = -1074
  · left; rw [h]; rfl
  · right; exact le_keptR hm (by have := lastP_ge m p; omega)

theorem nearR_mono {m m' : Nat} (p : Int) (hm : m ≠ 0) (h : m ≤ m') : nearR m p ≤ nearR m' p := by
  have hm' : m' ≠ 0 := by omega
  have hlog : m.log2 ≤ m'.log2 := by
    have h1 := Nat.log2_self_le hm
    have h2 := log2_lt m'
    have h3 : 2 ^ m.log2 < 2 ^ (m'.log2 + 1) := by omega
    have := (Nat.pow_lt_pow_iff_right (by omega : 1 < 2)).1 h3
    omega
  have hl : lastP m p ≤ lastP m' p := by unfold lastP; omega
  rw [nearR_eq, nearR_eq]
  by_cases e : lastP m p = lastP m' p
  · unfold keptR
    rw [e]
    apply Nat.add_le_add_left
    apply rne_mono
    simp only [Nat.shiftLeft_eq]
    exact Nat.mul_le_mul_right _ h
  · have h1 := keptR_le m p
    have h2 := lastP_ge m p
    have h3 := le_keptR (p := p) hm' (by omega)
    have h4 : (lastP m p + 1074).toNat + 1 ≤ (lastP m' p + 1074).toNat := by omega
    have h5 := Nat.mul_le_mul_right 4503599627370496 h4
    omega
end Go.Wk

/-! ### WkBits -/
namespace Go.Wk
open Go Ieee

/-! ### bits of whole numbers -/
theorem wrap_u64 (n : Nat) (h : n < 18446744073709551616) : IntKind.u64.wrap (n : Int) = n := by
  unfold IntKind.wrap
  simp [IntKind.bits, IntKind.signed]
  omega

theorem ofInt_nat (n : Nat) : BitVec.ofInt 64 (n : Int) = BitVec.ofNat 64 n := by
  exact BitVec.ofInt_natCast 64 n

theorem bits_and_nat {x y : Nat} (hx : x < 18446744073709551616) (hy : y < 18446744073709551616) : bits .and .u64 (x : Int) (y : Int) = ((x &&& y : Nat) : Int) := by
  show IntKind.u64.wrap ((BitVec.ofInt 64 (x : Int) &&& BitVec.ofInt 64 (y : Int)).toNat : Int) = _
  rw [ofInt_nat, ofInt_nat]
  have h : (BitVec.ofNat 64 x &&& BitVec.ofNat 64 y).toNat = x &&& y := by
    rw [BitVec.toNat_and, BitVec.toNat_ofNat, BitVec.toNat_ofNat, Nat.mod_eq_of_lt hx, Nat.mod_eq_of_lt hy]
  rw [h]
  apply wrap_u64
  exact Nat.lt_of_le_of_lt Nat.and_le_left hx

theorem bits_or_nat {x y : Nat} (hx : x < 18446744073709551616) (hy : y < 18446744073709551616) : bits .or .u64 (x : Int) (y : Int) = ((x ||| y : Nat) : Int) := by
  show IntKind.u64.wrap ((BitVec.ofInt 64 (x : Int) ||| BitVec.ofInt 64 (y : Int)).toNat : Int) = _
  rw [ofInt_nat, ofInt_nat]
  have h : (BitVec.ofNat 64 x ||| BitVec.ofNat 64 y).toNat = x ||| y := by
    rw [BitVec.toNat_or, BitVec.toNat_ofNat, BitVec.toNat_ofNat, Nat.mod_eq_of_lt hx, Nat.mod_eq_of_lt hy]
  rw [h]
  apply wrap_u64
  exact Nat.or_lt_two_pow (n := 64) hx hy

theorem bits_andNot_nat {x y : Nat} (hx : x < 18446744073709551616) (hy : y < 18446744073709551616) :
    bits .andNot .u64 (x : Int) (y : Int) = ((x &&& (18446744073709551615 - y) : Nat) : Int) := by
  show IntKind.u64.wrap ((BitVec.ofInt 64 (x : Int) &&& ~~~ BitVec.ofInt 64 (y : Int)).toNat : Int) = _
  rw [ofInt_nat, ofInt_nat]
  have h : (BitVec.ofNat 64 x &&& ~~~ BitVec.ofNat 64 y).toNat = x &&& (18446744073709551615 - y) := by
    rw [BitVec.toNat_and, BitVec.toNat_not, BitVec.toNat_ofNat, BitVec.toNat_ofNat, Nat.mod_eq_of_lt hx, Nat.mod_eq_of_lt hy]
  rw [h]
  apply wrap_u64
  exact Nat.lt_of_le_of_lt Nat.and_le_left hx

theorem and_low (x n : Nat) : x &&& (2 ^ n - 1) = x % 2 ^ n := Nat.and_two_pow_sub_one_eq_mod x n

/-- The sign bit struck. -/
theorem and_sign {x : Nat} : x &&& 9223372036854775807 = rung x := and_low x 63

theorem split_word {x : Nat} (h : x < 18446744073709551616) : x = (x / 9223372036854775808) * 9223372036854775808 + rung x := by
  unfold rung; omega

/-- 'a' above place n, 'b' below it. -/
theorem or_parts (a b n : Nat) (h : b < 2 ^ n) : 2 ^ n * a ||| b = 2 ^ n * a + b := (Nat.two_pow_add_eq_or_of_lt h a).symm

theorem and_parts (a b c d n : Nat) (hb : b < 2 ^ n) (hd : d < 2 ^ n) : (2 ^ n * a + b) &&& (2 ^ n * c + d) = 2 ^ n * (a &&& c) + (b &&& d) := by
  have hbd : b &&& d < 2 ^ n := Nat.lt_of_le_of_lt Nat.and_le_left hb
  apply Nat.eq_of_testBit_eq
  intro i
  rw [Nat.testBit_and, Nat.testBit_two_pow_mul_add _ hb, Nat.testBit_two_pow_mul_add _ hd, Nat.testBit_two_pow_mul_add _ hbd]
  split <;> simp

theorem or_parts2 (a b c d n : Nat) (hb : b < 2 ^ n) (hd : d < 2 ^ n) : (2 ^ n * a + b) ||| (2 ^ n * c + d) = 2 ^ n * (a ||| c) + (b ||| d) := by
  have hbd : b ||| d < 2 ^ n := Nat.or_lt_two_pow hb hd
  apply Nat.eq_of_testBit_eq
  intro i
  rw [Nat.testBit_or, Nat.testBit_two_pow_mul_add _ hb, Nat.testBit_two_pow_mul_add _ hd, Nat.testBit_two_pow_mul_add _ hbd]
  split <;> simp
end Go.Wk

/-! ### WkArr -/
namespace Go.Wk
open Go Ieee

theorem wrap_i64 {z : Int} (h1 : -9223372036854775808 ≤ z) (h2 : z < 9223372036854775808) : IntKind.i64.wrap z = z := by
  unfold IntKind.wrap
  simp [IntKind.bits, IntKind.signed]
  omega
theorem wrap_u64' {z : Int} (h1 : 0 ≤ z) (h2 : z < 18446744073709551616) : IntKind.u64.wrap z = z := by
  unfold IntKind.wrap
  simp [IntKind.bits, IntKind.signed]
  omega
theorem wrap_u64_mod (z : Int) : IntKind.u64.wrap z = z % 18446744073709551616 := by
  unfold IntKind.wrap
  simp [IntKind.bits, IntKind.signed]

/-- A slice of floats that reads as 'xs'. -/
structure Fls (w : World) (p : Option Addr) (n : Nat) (xs : List Nat) : Prop where
  len : xs.length = n
  at_ : ∀ i x, xs[i]? = some x → ∃ a, p = some a ∧ w.cell? (a.add i) = some (.float .f64 x)

theorem Fls.ext {w w' : World} {p : Option Addr} {n : Nat} {xs : List Nat} (h : Fls w p n xs) (e : Ext w w') : Fls w' p n xs :=
  ⟨h.len, fun i x hx => let ⟨a, ha, hc⟩ := h.at_ i x hx; ⟨a, ha, e.cell_of hc⟩⟩

theorem Fls.of_row {w : World} {q : Addr} {xs : List Nat} (h : Row w q (xs.map fun x => .float .f64 x)) : Fls w (some q) xs.length xs :=
  ⟨rfl, fun i x hx => ⟨q, rfl, h.get i (by simp [hx])⟩⟩

theorem Fls.nil {w : World} {p : Option Addr} : Fls w p 0 [] := ⟨rfl, fun i x hx => by simp at hx⟩

theorem ptrSome_intro {p : Option Addr} {k : Addr → Prop} {a : Addr} (hp : p = some a) (h : k a) : ptrSome p k := by
  subst hp; exact h

/-- A bounded loop's rounds: 'd' rounds are left. -/
theorem br_true {b : Bool} {x y : Prop} (hb : b = true) (h : x) : br b x y := by rw [hb]; exact h
theorem br_false {b : Bool} {x y : Prop} (hb : b = false) (h : y) : br b x y := by rw [hb]; exact h
theorem dec_true {c : Prop} [Decidable c] {x y : Prop} (hc : c) (h : x) : br (decide c) x y := br_true (decide_eq_true hc) h
theorem dec_false {c : Prop} [Decidable c] {x y : Prop} (hc : ¬ c) (h : y) : br (decide c) x y := br_false (decide_eq_false hc) h
end Go.Wk

/-! ### WkAr -/
namespace Go.Wk
open Go Ieee

theorem rne_eq (n d : Nat) : rne n d = n / 2 ^ d + (if 2 ^ d < 2 * (n % 2 ^ d) ∨ (2 ^ d = 2 * (n % 2 ^ d) ∧ n / 2 ^ d % 2 = 1) then 1 else 0) := rfl

/-! ### sums and products of finite numbers -/
theorem near_shift (s : Bool) (m : Nat) (p : Int) (k : Nat) : double.nearest s (m * 2 ^ k) (p - k) = double.nearest s m p := by
  by_cases h : m = 0
  · subst h; rw [Nat.zero_mul, nearest_zero, nearest_zero]
  · have h' : m * 2 ^ k ≠ 0 := by
      have : 0 < m * 2 ^ k := Nat.mul_pos (by omega) (Nat.two_pow_pos _)
      omega
    rw [nearest_eq _ _ _ h', nearest_eq _ _ _ h, nearR_shift _ _ _ h]

theorem near_shift' (s : Bool) (m : Nat) (p : Int) (k : Nat) : double.nearest s (m * 2 ^ k) p = double.nearest s m (p + k) := by
  rw [← near_shift s m (p + k) k]
  congr 1
  omega

theorem near_eq_of_val {s : Bool} {m n : Nat} {p q : Int} (i j : Nat) (hp : p - i = q - j) (h : m * 2 ^ i = n * 2 ^ j) :
    double.nearest s m p = double.nearest s n q := by
  rw [← near_shift s m p i, ← near_shift s n q j, hp, h]

theorem mul_fin {x y : Nat} (hx : fin x) (hy : fin y) : floatBits .mul .f64 x y =
    some (double.nearest (sgn x ^^ sgn y) (magR (rung x) * magR (rung y)) ((-1074 + shR (rung x)) + (-1074 + shR (rung y)))) := by
  show double.mul x y = _
  unfold Format.mul
  rw [read_fin hx, read_fin hy]
  rfl

theorem signed_wth (x : Nat) (b : Int) (h : b ≤ -1074 + shR (rung x)) (hb : -1074 ≤ b) :
    signed (sgn x) (magR (rung x)) ((-1074 + (shR (rung x) : Int)) - b).toNat * 2 ^ (b + 1074).toNat = wth x := by
  have e : magR (rung x) * 2 ^ ((-1074 + (shR (rung x) : Int)) - b).toNat * 2 ^ (b + 1074).toNat = valR (rung x) := by
    rw [Nat.mul_assoc, ← Nat.pow_add]
    unfold valR
    congr 2
    omega
  rw [signed_eq]
  unfold wth
  rw [← e]
  cases sgn x
  · simp
  · simp [Int.neg_mul]

/-- A number of units, rounded. -/
def roundZ (s0 : Bool) (z : Int) : Nat := double.nearest (if z = 0 then s0 else decide (z < 0)) z.natAbs (-1074)

theorem sum_fin (s t : Bool) (x y : Nat) (i j : Int) (m n : Nat) (X Y : Int) (hi : -1074 ≤ i) (hj : -1074 ≤ j)
    (hX : ∀ b : Int, -1074 ≤ b → b ≤ i → signed s m (i - b).toNat * 2 ^ (b + 1074).toNat = X)
    (hY : ∀ b : Int, -1074 ≤ b → b ≤ j → signed t n (j - b).toNat * 2 ^ (b + 1074).toNat = Y) :
    ((Datum.sum (.number s m i) (.number t n j)).map double.write) = some (roundZ (s && t) (X + Y)) := by
  have h1 := hX (min i j) (by omega) (by omega)
  have h2 := hY (min i j) (by omega) (by omega)
  simp only [Datum.sum, Option.map]
  congr 1
  show double.nearest _ _ _ = _
  unfold roundZ
  generalize signed s m (i - min i j).toNat = a at *
  generalize signed t n (j - min i j).toNat = b at *
  have hp : (0 : Int) < 2 ^ (min i j + 1074).toNat := Int.pow_pos (by omega)
  have hs : X + Y = (a + b) * 2 ^ (min i j + 1074).toNat := by rw [← h1, ← h2, Int.add_mul]
  have hz : (X + Y = 0) ↔ (a + b = 0) := by
    rw [hs, Int.mul_eq_zero]
    constructor
    · rintro (h | h)
      · exact h
      · omega
    · intro h; exact Or.inl h
  have hn : (X + Y < 0) ↔ (a + b < 0) := by
    rw [hs]
    constructor
    · intro h
      rcases Int.lt_or_le (a + b) 0 with h' | h'
      · exact h'
      · have := Int.mul_nonneg h' (Int.le_of_lt hp); omega
    · intro h
      exact Int.mul_neg_of_neg_of_pos h hp
  have hab : (X + Y).natAbs = (a + b).natAbs * 2 ^ (min i j + 1074).toNat := by
    rw [hs, Int.natAbs_mul, Int.natAbs_pow]
    rfl
  have e1 : (if a + b = 0 then (s && t : Bool) else decide (a + b < 0)) = (if X + Y = 0 then (s && t : Bool) else decide (X + Y < 0)) := by
    by_cases h : a + b = 0
    · rw [if_pos h, if_pos (hz.2 h)]
    · rw [if_neg h, if_neg (fun h' => h (hz.1 h'))]
      exact decide_eq_decide.2 hn.symm
  have e2 : (if a + b = 0 then s && t else decide (a + b < 0)) = (if X + Y = 0 then s && t else decide (X + Y < 0)) := e1
  rw [e2, hab, near_shift']
  congr 1
  omega

theorem add_fin {x y : Nat} (hx : fin x) (hy : fin y) : floatBits .add .f64 x y = some (roundZ (sgn x && sgn y) (wth x + wth y)) := by
  show double.add x y = _
  unfold Format.add
  rw [read_fin hx, read_fin hy]
  exact sum_fin _ _ x y _ _ _ _ _ _ (by omega) (by omega) (fun b h h' => signed_wth x b h' h) (fun b h h' => signed_wth y b h' h)

theorem signed_neg (s : Bool) (m u : Nat) : signed (!s) m u = - signed s m u := by
  unfold signed
  cases s <;> simp

theorem sub_fin {x y : Nat} (hx : fin x) (hy : fin y) : floatBits .sub .f64 x y = some (roundZ (sgn x && !sgn y) (wth x - wth y)) := by
  show double.sub x y = _
  unfold Format.sub
  rw [read_fin hx, read_fin hy]
  exact sum_fin _ _ x y _ _ _ _ _ _ (by omega) (by omega) (fun b h h' => signed_wth x b h' h)
    (fun b h h' => by rw [signed_neg, Int.neg_mul, signed_wth y b h' h])

theorem fop_some {op : BinOp} {κ : FloatKind} {a b r : Nat} {w : World} {k : Nat → World → Prop} (h : floatBits op κ a b = some r) (hk : k r w) : fop op κ a b w k :=
  ⟨fun r' h' => by rw [h] at h'; cases h'; exact hk, fun h' => by rw [h] at h'; cases h'⟩

/-- Of 53 digits none is lost. -/
theorem nearR_norm {M : Nat} {p : Int} (h1 : 4503599627370496 ≤ M) (h2 : M < 9007199254740992) (hp : -1074 ≤ p) :
    nearR M p = (p + 1074).toNat * 4503599627370496 + M := by
  have hl : M.log2 = 52 := by
    have a : M.log2 < 53 := (Nat.log2_lt (by omega)).2 (by simpa using h2)
    have b : 52 ≤ M.log2 := (Nat.le_log2 (by omega)).2 (by simpa using h1)
    omega
  have hlast : lastP M p = p := by unfold lastP; rw [hl]; omega
  unfold nearR
  rw [hlast, Int.sub_self]
  show _ + rne (M <<< 0) 0 = _
  rw [rne_zero, Nat.shiftLeft_zero]

theorem magR_norm {r : Nat} (h : 4503599627370496 ≤ r) : 4503599627370496 ≤ magR r ∧ magR r < 9007199254740992 ∧ r = (shR r) * 4503599627370496 + magR r := by
  unfold magR shR
  rw [if_neg (by omega), if_neg (by omega)]
  omega

/-- Below a half of the least one. -/
theorem nearR_small {M : Nat} {p : Int} (h0 : M ≠ 0) (h2 : M < 9007199254740992) (hp : p ≤ -1128) : nearR M p = 0 := by
  have hl : M.log2 ≤ 52 := by
    have a : M.log2 < 53 := (Nat.log2_lt h0).2 (by simpa using h2)
    omega
  have hlast : lastP M p = -1074 := by unfold lastP; omega
  unfold nearR
  rw [hlast]
  have e1 : (p - -1074).toNat = 0 := by omega
  rw [e1, Nat.shiftLeft_zero]
  have : ∃ d, (-1074 - p).toNat = 54 + d := ⟨(-1074 - p).toNat - 54, by omega⟩
  obtain ⟨d, hd⟩ := this
  rw [hd, rne_eq]
  have h3 : 2 ^ 54 ≤ 2 ^ (54 + d) := Nat.pow_le_pow_right (by omega) (by omega)
  have h4 : M < 2 ^ (54 + d) := Nat.lt_of_lt_of_le (by omega) h3
  rw [Nat.div_eq_of_lt h4, Nat.mod_eq_of_lt h4, if_neg (by omega)]
  rfl

theorem rne_sticky {n n' : Nat} (d : Nat) (h1 : n / 4 = n' / 4) (h2 : n % 4 = 0 ↔ n' % 4 = 0) : rne n (d + 3) = rne n' (d + 3) := by
  rw [rne_eq, rne_eq]
  have e : (2 : Nat) ^ (d + 3) = 4 * 2 ^ (d + 1) := by rw [show d + 3 = 2 + (d + 1) by omega, Nat.pow_add]
  have e' : (2 : Nat) ^ (d + 1) = 2 * 2 ^ d := by rw [Nat.pow_succ]; omega
  have hq : n / 2 ^ (d + 3) = n' / 2 ^ (d + 3) := by rw [e, ← Nat.div_div_eq_div_mul, ← Nat.div_div_eq_div_mul, h1]
  have hr : ∀ n, n % 2 ^ (d + 3) = 4 * (n / 4 % 2 ^ (d + 1)) + n % 4 := by
    intro n
    rw [e, Nat.mod_mul]; omega
  rw [hq, hr n, hr n', h1, e, e']
  congr 1
  generalize n' / 4 % (2 * 2 ^ d) = a
  generalize 2 ^ d = g
  have b1 : n % 4 < 4 := Nat.mod_lt _ (by omega)
  have b2 : n' % 4 < 4 := Nat.mod_lt _ (by omega)
  generalize n % 4 = x at *
  generalize n' % 4 = y at *
  have : (4 * (2 * g) < 2 * (4 * a + x) ∨ 4 * (2 * g) = 2 * (4 * a + x) ∧ n' / (4 * (2 * g)) % 2 = 1) ↔
      (4 * (2 * g) < 2 * (4 * a + y) ∨ 4 * (2 * g) = 2 * (4 * a + y) ∧ n' / (4 * (2 * g)) % 2 = 1) := by omega
  by_cases c : (4 * (2 * g) < 2 * (4 * a + y) ∨ 4 * (2 * g) = 2 * (4 * a + y) ∧ n' / (4 * (2 * g)) % 2 = 1)
  · rw [if_pos c, if_pos (this.2 c)]
  · rw [if_neg c, if_neg (fun h => c (this.1 h))]

/-- The rounding that halves one by one. -/
theorem rne_halve (m h l d : Nat) (hh : h < 2) (hl : l < 2) : rne (4 * m + 2 * h + l) (d + 3) = rne (4 * (m / 2) + 2 * (m % 2) + (if h = 0 ∧ l = 0 then 0 else 1)) (d + 2) := by
  rw [← rne_mul (4 * (m / 2) + 2 * (m % 2) + _) _ 1, show d + 2 + 1 = d + 3 by omega]
  apply rne_sticky
  · split <;> omega
  · split <;> omega

theorem rne_two (m h l : Nat) (hh : h < 2) (hl : l < 2) : rne (4 * m + 2 * h + l) 2 = m + (if h = 1 ∧ (l = 1 ∨ m % 2 = 1) then 1 else 0) := by
  rw [rne_eq]
  have h1 : (4 * m + 2 * h + l) / 2 ^ 2 = m := by omega
  have h2 : (4 * m + 2 * h + l) % 2 ^ 2 = 2 * h + l := by omega
  rw [h1, h2]
  congr 1
  by_cases c : h = 1 ∧ (l = 1 ∨ m % 2 = 1)
  · rw [if_pos c, if_pos (by omega)]
  · rw [if_neg c, if_neg (by omega)]
end Go.Wk

/-! ### WkWord -/
namespace Go.Wk
open Go Ieee

/-! ### the fields of a word -/
theorem sh52 : shiftN .u64 52 = 52 := rfl
theorem sh63 : shiftN .u64 63 = 63 := rfl

theorem div52 (x : Nat) : Int.fdiv (x : Int) (2 ^ (shiftN .u64 52)) = ((x / 4503599627370496 : Nat) : Int) := by
  rw [sh52, Int.fdiv_eq_ediv_of_nonneg _ (by decide)]
  rfl
theorem div63 (x : Nat) : Int.fdiv (x : Int) (2 ^ (shiftN .u64 63)) = ((x / 9223372036854775808 : Nat) : Int) := by
  rw [sh63, Int.fdiv_eq_ediv_of_nonneg _ (by decide)]
  rfl

theorem bits_and_i64 {x y : Nat} (hx : x < 9223372036854775808) (hy : y < 9223372036854775808) : bits .and .i64 (x : Int) (y : Int) = ((x &&& y : Nat) : Int) := by
  show IntKind.i64.wrap ((BitVec.ofInt 64 (x : Int) &&& BitVec.ofInt 64 (y : Int)).toNat : Int) = _
  rw [ofInt_nat, ofInt_nat]
  have h : (BitVec.ofNat 64 x &&& BitVec.ofNat 64 y).toNat = x &&& y := by
    rw [BitVec.toNat_and, BitVec.toNat_ofNat, BitVec.toNat_ofNat, Nat.mod_eq_of_lt (by omega), Nat.mod_eq_of_lt (by omega)]
  rw [h]
  have : x &&& y ≤ x := Nat.and_le_left
  rw [wrap_i64 (by omega) (by omega)]

theorem field_u64 {x : Nat} (h : x < 18446744073709551616) : bits .and .u64 (Int.fdiv (x : Int) (2 ^ (shiftN .u64 52))) 2047 = ((rung x / 4503599627370496 : Nat) : Int) := by
  rw [div52]
  have := bits_and_nat (x := x / 4503599627370496) (y := 2047) (by omega) (by omega)
  rw [show ((2047 : Nat) : Int) = 2047 from rfl] at this
  rw [this, show (2047 : Nat) = 2 ^ 11 - 1 from rfl, and_low]
  unfold rung
  omega
theorem field_i64 {x : Nat} (h : x < 18446744073709551616) : bits .and .i64 (IntKind.i64.wrap (Int.fdiv (x : Int) (2 ^ (shiftN .u64 52)))) 2047 = ((rung x / 4503599627370496 : Nat) : Int) := by
  rw [div52, wrap_i64 (by omega) (by omega)]
  have := bits_and_i64 (x := x / 4503599627370496) (y := 2047) (by omega) (by omega)
  rw [show ((2047 : Nat) : Int) = 2047 from rfl] at this
  rw [this, show (2047 : Nat) = 2 ^ 11 - 1 from rfl, and_low]
  unfold rung
  omega

theorem top_bit {x : Nat} (h : x < 18446744073709551616) : x / 9223372036854775808 = if sgn x then 1 else 0 := by
  unfold sgn
  have : x / 9223372036854775808 < 2 := by omega
  generalize x / 9223372036854775808 = t at *
  have : t = 0 ∨ t = 1 := by omega
  rcases this with rfl | rfl <;> rfl

/-- The exponent's field struck. -/
theorem strike {x : Nat} (h : x < 18446744073709551616) :
    bits .andNot .u64 (x : Int) 9218868437227405312 = ((wordD (sgn x) (rung x % 4503599627370496) : Nat) : Int) := by
  have := bits_andNot_nat h (y := 9218868437227405312) (by decide)
  rw [show ((9218868437227405312 : Nat) : Int) = 9218868437227405312 from rfl] at this
  rw [this]
  congr 1
  have hs := split_word h
  rw [Nat.mul_comm] at hs
  have e1 : 18446744073709551615 - 9218868437227405312 = 2 ^ 63 * 1 + (2 ^ 52 - 1) := by decide
  rw [e1]
  have hx : x = 2 ^ 63 * (x / 9223372036854775808) + rung x := hs
  rw [hx, and_parts _ _ _ _ _ (rung_lt x) (by decide), and_low]
  have ht := top_bit h
  have e2 : x / 9223372036854775808 &&& 1 = x / 9223372036854775808 := by
    rw [ht]; cases sgn x <;> rfl
  rw [← hx, e2, ht]
  unfold wordD
  cases sgn x <;> simp

theorem set_field {s : Bool} {f E : Nat} (hf : f < 4503599627370496) (hE : E < 2048) :
    bits .or .u64 ((wordD s f : Nat) : Int) ((E * 4503599627370496 : Nat) : Int) = ((wordD s (E * 4503599627370496 + f) : Nat) : Int) := by
  have hw : wordD s f = 2 ^ 63 * (if s then 1 else 0) + f := by unfold wordD; cases s <;> simp
  have hw' : wordD s (E * 4503599627370496 + f) = 2 ^ 63 * (if s then 1 else 0) + (E * 4503599627370496 + f) := by unfold wordD; cases s <;> simp
  rw [bits_or_nat (by unfold wordD; split <;> omega) (by omega), hw, hw']
  congr 1
  have e : E * 4503599627370496 = 2 ^ 63 * 0 + E * 4503599627370496 := by omega
  have e2 : f ||| E * 4503599627370496 = E * 4503599627370496 + f := by
    have := or_parts E f 52 (by simpa using hf)
    rw [Nat.or_comm, Nat.mul_comm E]
    exact this
  rw [show (2 ^ 63 * (if s = true then 1 else 0) + f ||| E * 4503599627370496) = (2 ^ 63 * (if s = true then 1 else 0) + f ||| 2 ^ 63 * 0 + E * 4503599627370496) by rw [← e],
    or_parts2 _ _ _ _ _ (by omega) (by omega), e2, Nat.or_zero]

theorem sgn_false_of {r : Nat} (h : r < 9223372036854775808) : sgn r = false := by
  unfold sgn; simp; omega
theorem rung_of {r : Nat} (h : r < 9223372036854775808) : rung r = r := Nat.mod_eq_of_lt h
theorem wordD_lt {s : Bool} {r : Nat} (h : r < 9223372036854775808) : wordD s r < 18446744073709551616 := by
  unfold wordD; split <;> omega
theorem word_zero {x : Nat} (h : x < 18446744073709551616) (h0 : rung x = 0) : wordD (sgn x) 0 = x := by
  have := word_of h
  rwa [h0] at this
theorem near_lt (s : Bool) (m : Nat) (p : Int) : double.nearest s m p < 18446744073709551616 := by
  by_cases h : m = 0
  · rw [h, nearest_zero]; exact wordD_lt (by decide)
  · rw [nearest_eq _ _ _ h]
    exact wordD_lt (Nat.lt_of_le_of_lt (Nat.min_le_right _ _) (by decide))

theorem feq_zero (x : Nat) : feq .f64 x 0 = decide (rung x = 0) := by
  rw [feq_eq]
  apply decide_eq_decide.2
  have h0 : ¬ nan 0 := by decide
  have h1 : key 0 = 0 := by decide
  rw [h1]
  unfold nan infR key
  have := rung_lt x
  constructor
  · rintro ⟨h, _, h'⟩
    split at h' <;> omega
  · intro h
    refine ⟨by omega, h0, ?_⟩
    rw [h]; split <;> rfl

/-- 'x' times a power of 2. -/
def ldB (x : Nat) (k : Int) : Nat := if fin x then double.nearest (sgn x) (magR (rung x)) (-1074 + shR (rung x) + k) else x
theorem ldB_lt {x : Nat} (h : x < 18446744073709551616) (k : Int) : ldB x k < 18446744073709551616 := by
  unfold ldB; split
  · exact near_lt _ _ _
  · exact h
end Go.Wk

/-! ### WkRow -/
namespace Go.Wk
open Go Ieee Go.RowKit

theorem add_inj {a : Addr} {i j : Nat} (h : a.add i = a.add j) : i = j := by
  have := congrArg Addr.off h
  rw [add_off, add_off] at this
  omega

theorem Row.set {w : World} {a : Addr} {cs : List Value} (h : Row w a cs) (j : Nat) (v : Value) (hj : j < cs.length) : Row (w.setCell (a.add j) v) a (cs.set j v) where
  cell i u hu := by
    by_cases e : j = i
    · subst e
      rw [List.getElem?_set_self hj] at hu
      cases hu
      exact World.cell?_setCell_same _ _ _ (h.cell j cs[j] (by simp [hj]))
    · rw [List.getElem?_set_ne e] at hu
      rw [World.cell?_setCell_other _ _ _ _ (fun e' => e (add_inj e'))]
      exact h.cell i u hu
  free i hi := by
    rw [World.frozen?_setCell]
    exact h.free i (by simpa using hi)
  lt := by rw [World.size_setCell]; exact h.lt
  spot := h.spot

theorem Ext.set {w0 w : World} (h : Ext w0 w) {a : Addr} (ha : w0.heap.size ≤ a.block) (j : Nat) (v : Value) : Ext w0 (w.setCell (a.add j) v) :=
  Below.setCell h (by rw [add_block]; exact ha) v

/-- Another row stays where one is written. -/
theorem Row.apart {w : World} {a b : Addr} {cs : List Value} (h : Row w b cs) (hab : b.block ≠ a.block) (j : Nat) (v : Value) : Row (w.setCell (a.add j) v) b cs where
  cell i u hu := by
    have : a.add j ≠ b.add i := fun e => hab (by have := congrArg Addr.block e; rw [add_block, add_block] at this; exact this.symm)
    rw [World.cell?_setCell_other _ _ _ _ this]
    exact h.cell i u hu
  free i hi := by rw [World.frozen?_setCell]; exact h.free i hi
  lt := by rw [World.size_setCell]; exact h.lt
  spot := h.spot

def strOf (ns : List Int) : ByteArray := ns.foldl (fun r n => r.push (UInt8.ofNat n.toNat)) ByteArray.empty

theorem bytes_run {P : Program} {w : World} {a : Addr} {ns : List Int} (c : Nat) (h : ∀ j v, ns[j]? = some v → w.cell? (a.add j) = some (.int .u8 v)) :
    (Conv.bytesToString (.slice (some a) ns.length c)).run P w = .ok (.string (strOf ns)) w := by
  refine run_bytesToString w a ns.length c ns ?_
  have := run_loadCells_list (P := P) w a (ns.map (Value.int .u8)) (fun j v hv => by
    simp only [List.getElem?_map, Option.map_eq_some_iff] at hv
    obtain ⟨u, hu, rfl⟩ := hv
    exact h j u hu)
  simpa using this
end Go.Wk

/-! ### WkApp -/
namespace Go.Wk
open Go Go.RowKit

/-! ### slices of whole numbers; slices that the call itself makes -/
structure Ints (w : World) (p : Option Addr) (n : Nat) (xs : List Int) : Prop where
  len : xs.length = n
  at_ : ∀ i x, xs[i]? = some x → ∃ a, p = some a ∧ w.cell? (a.add i) = some (.int .i64 x)

theorem Ints.ext {w w' : World} {p : Option Addr} {n : Nat} {xs : List Int} (h : Ints w p n xs) (e : Ext w w') : Ints w' p n xs :=
  ⟨h.len, fun i x hx => let ⟨a, ha, hc⟩ := h.at_ i x hx; ⟨a, ha, e.cell_of hc⟩⟩
theorem Ints.nil {w : World} {p : Option Addr} : Ints w p 0 [] := ⟨rfl, fun i x hx => by simp at hx⟩
theorem Ints.of_row {w : World} {q : Addr} {xs : List Int} (h : Row w q (xs.map fun x => .int .i64 x)) : Ints w (some q) xs.length xs :=
  ⟨rfl, fun i x hx => ⟨q, rfl, h.get i (by simp [hx])⟩⟩

abbrev Own (w : World) (base : Nat) (e : TypeId) (p : Option Addr) (n c : Nat) (xs : List Value) : Prop := w.ownsRow base e 1 (.slice p n c) n xs
theorem Own.nil (w : World) (base : Nat) (e : TypeId) : Own w base e none 0 0 [] := World.ownsRow_nil w base e 1
theorem Own.len {w : World} {base : Nat} {e : TypeId} {p : Option Addr} {n c : Nat} {xs : List Value} (h : Own w base e p n c xs) : xs.length = n := by simpa using h.1
theorem Own.cap {w : World} {base : Nat} {e : TypeId} {p : Option Addr} {n c : Nat} {xs : List Value} (h : Own w base e p n c xs) : n ≤ c := by
  rcases h.2 with ⟨h1, h2⟩ | ⟨g, cap, cur, hv, _, _, hc, _⟩
  · cases h1; exact Nat.le_refl _
  · cases hv; exact hc
theorem Own.cell {w : World} {base : Nat} {e : TypeId} {p : Option Addr} {n c : Nat} {xs : List Value} (h : Own w base e p n c xs) (i : Nat) (x : Value) (hx : xs[i]? = some x) :
    ∃ a, p = some a ∧ w.cell? (a.add i) = some x := by
  have hb := fun g => World.ownsRow.cells h (g := g)
  rcases h.2 with ⟨h1, h2⟩ | ⟨g, cap, cur, hv, _⟩
  · have := h.len
    rw [h2] at this
    have : xs = [] := List.eq_nil_of_length_eq_zero this
    rw [this] at hx; simp at hx
  · cases hv
    exact ⟨_, rfl, hb g rfl i x hx⟩
theorem Own.ints {w : World} {base : Nat} {e : TypeId} {p : Option Addr} {n c : Nat} {xs : List Int} (h : Own w base e p n c (xs.map fun x => .int .i64 x)) : Ints w p n xs :=
  ⟨by simpa using h.len, fun i x hx => h.cell i _ (by simp [hx])⟩
theorem Own.fls {w : World} {base : Nat} {e : TypeId} {p : Option Addr} {n c : Nat} {xs : List Nat} (h : Own w base e p n c (xs.map fun x => .float .f64 x)) : Fls w p n xs :=
  ⟨by simpa using h.len, fun i x hx => h.cell i _ (by simp [hx])⟩
theorem Own.ext {w w' : World} {base : Nat} {e : TypeId} {p : Option Addr} {n c : Nat} {xs : List Value} (h : Own w base e p n c xs) (he : Ext w w') : Own w' base e p n c xs := by
  refine ⟨h.1, ?_⟩
  rcases h.2 with h1 | ⟨g, cap, cur, hv, hb, hg, r⟩
  · exact Or.inl h1
  · exact Or.inr ⟨g, cap, cur, hv, hb, by rw [he.block g (Array.getElem?_eq_some_iff.1 hg).1]; exact hg, r⟩
theorem Own.drew {w : World} {base : Nat} {e : TypeId} {p : Option Addr} {n c : Nat} {xs : List Value} (h : Own w base e p n c xs) : Own w.drew base e p n c xs := h.ext (Ext.drew w)

/-- One value put behind a slice that the call has made. -/
theorem app_one {P : Program} {t tb e : TypeId} {w0 w : World} {p : Option Addr} {n c : Nat} {xs : List Value} {u : Value} {R : Value → World → Prop} {i : TypeInfo} {z : Value} {bytes : Nat}
    (ht : P.underlying t = some (.slice e)) (hi : P.info? e = some i) (hz : i.zero = some z) (hsize : i.size = 1) (hby : i.bytes = bytes) (hzs : z.cells.size = 1)
    (hown : Own w w0.heap.size e p n c xs) (he : Ext w0 w) (hu : u.oneCell' = true) (hbytes : (n + 1) * bytes ≤ 140737488355328) (hn : n < 4611686018427387904)
    (h : ∀ p' c' w', Ext w0 w' → Own w' w0.heap.size e p' (n + 1) c' (xs ++ [u]) → R (.slice p' (n + 1) c') w') :
    newB [u] tb w fun q w2 => Raw P (Builtin.append_ #[t, t] t ⟨[.slice p n c, .slice (some q) 1 1]⟩) w2 fun v w3 => R v w3 := by
  refine newB_intro fun q w2 hq _ hext hrow hsz _ => ?_
  have hown2 := hown.ext hext
  obtain ⟨v', w', hrun, hown', hgr, _⟩ := run_append_own (P := P) w2 w0.heap.size t t e i z 1 bytes ht hi hz hsize hby hzs (by decide) (.slice p n c) n xs hown2 q 1 1 [u] rfl
    (fun j v hj => hrow.get j hj) (by simpa using hu) (by simp only [maxLen]; omega) hbytes (by rw [hsz]; have := he.size; omega)
  unfold Raw
  rw [hrun]
  have hv : ∃ p' c', v' = .slice p' (n + 1) c' := by
    rcases hown'.2 with ⟨h1, h2⟩ | ⟨g, cap, cur, hv, _⟩
    · omega
    · exact ⟨_, _, hv⟩
  obtain ⟨p', c', rfl⟩ := hv
  refine h p' c' w' ?_ hown'
  refine Below.grown (he.trans hext) hgr (by rw [hsz]; have := he.size; omega) fun k hk => ?_
  exact (World.ownsRow.lt hown2 k hk).1

/-! ### a struct of three cells, as the printed forms hold it -/
theorem put3 {w : World} {q : Addr} {x y z : Value} (hr : Row w q [x, y, z]) (a b c : Value) :
    (w.cell? q).isSome = true ∧ w.frozen? q = false ∧ ((w.setCell q a).cell? (q.add 1)).isSome = true ∧ (w.setCell q a).frozen? (q.add 1) = false ∧
      (((w.setCell q a).setCell (q.add 1) b).cell? (q.add 2)).isSome = true ∧ ((w.setCell q a).setCell (q.add 1) b).frozen? (q.add 2) = false ∧
      Row (((w.setCell q a).setCell (q.add 1) b).setCell (q.add 2) c) q [a, b, c] := by
  have r1 : Row (w.setCell q a) q [a, y, z] := hr.set 0 a (by simp)
  have r2 : Row ((w.setCell q a).setCell (q.add 1) b) q [a, b, z] := r1.set 1 b (by simp)
  have r3 : Row (((w.setCell q a).setCell (q.add 1) b).setCell (q.add 2) c) q [a, b, c] := r2.set 2 c (by simp)
  refine ⟨?_, hr.free 0 (by simp), ?_, r1.free 1 (by simp), ?_, r2.free 2 (by simp), r3⟩
  · rw [hr.get0 (v := x) rfl]; rfl
  · rw [r1.get 1 (v := y) rfl]; rfl
  · rw [r2.get 2 (v := z) rfl]; rfl

/-- The struct is put into its place, read again, handed back. -/
theorem ret3 {w : World} {q : Addr} {x y z : Value} {b : Bool} {p : Option Addr} {n c : Nat} {i : Int} {K : Value → World → Prop} (hr : Row w q [x, y, z])
    (h : K (.agg ⟨[.bool b, .slice p n c, .int .i64 i]⟩) (((w.setCell q (.bool b)).setCell (q.add 1) (.slice p n c)).setCell (q.add 2) (.int .i64 i))) :
    (w.cell? q).isSome = true ∧ w.frozen? q = false ∧ ((w.setCell q (.bool b)).cell? (q.add 1)).isSome = true ∧ (w.setCell q (.bool b)).frozen? (q.add 1) = false ∧
      (((w.setCell q (.bool b)).setCell (q.add 1) (.slice p n c)).cell? (q.add 2)).isSome = true ∧ ((w.setCell q (.bool b)).setCell (q.add 1) (.slice p n c)).frozen? (q.add 2) = false ∧
      ∃ b' : Bool, ∃ (p' : Option Addr) (n' c' : Nat), ∃ i' : Int, (((w.setCell q (.bool b)).setCell (q.add 1) (.slice p n c)).setCell (q.add 2) (.int .i64 i)).cell? q = some (.bool b') ∧
        (((w.setCell q (.bool b)).setCell (q.add 1) (.slice p n c)).setCell (q.add 2) (.int .i64 i)).cell? (q.add 1) = some (.slice p' n' c') ∧
        (((w.setCell q (.bool b)).setCell (q.add 1) (.slice p n c)).setCell (q.add 2) (.int .i64 i)).cell? (q.add 2) = some (.int .i64 i') ∧
        K (.agg ⟨[.bool b', .slice p' n' c', .int .i64 i']⟩) (((w.setCell q (.bool b)).setCell (q.add 1) (.slice p n c)).setCell (q.add 2) (.int .i64 i)) := by
  obtain ⟨a1, a2, a3, a4, a5, a6, r⟩ := put3 hr (.bool b) (.slice p n c) (.int .i64 i)
  exact ⟨a1, a2, a3, a4, a5, a6, b, p, n, c, i, r.get0 rfl, r.get 1 rfl, r.get 2 rfl, h⟩
theorem ret3p {w : World} {q : Addr} {x y z : Value} {b : Bool} {p : Option Addr} {n c : Nat} {i : Int} {K : Value → World → Prop} (hr : Row w q [x, y, z])
    (h : K (.agg ⟨[.bool b, .slice p n c, .int .i64 i]⟩) (((w.setCell q (.bool b)).setCell (q.add 1) (.slice p n c)).setCell (q.add 2) (.int .i64 i))) :
    ptrSome (some q) fun q => (w.cell? q).isSome = true ∧ w.frozen? q = false ∧ ((w.setCell q (.bool b)).cell? (q.add 1)).isSome = true ∧ (w.setCell q (.bool b)).frozen? (q.add 1) = false ∧
      (((w.setCell q (.bool b)).setCell (q.add 1) (.slice p n c)).cell? (q.add 2)).isSome = true ∧ ((w.setCell q (.bool b)).setCell (q.add 1) (.slice p n c)).frozen? (q.add 2) = false ∧
      ptrSome (some q) fun q' => ∃ b' : Bool, ∃ (p' : Option Addr) (n' c' : Nat), ∃ i' : Int, (((w.setCell q (.bool b)).setCell (q.add 1) (.slice p n c)).setCell (q.add 2) (.int .i64 i)).cell? q' = some (.bool b') ∧
        (((w.setCell q (.bool b)).setCell (q.add 1) (.slice p n c)).setCell (q.add 2) (.int .i64 i)).cell? (q'.add 1) = some (.slice p' n' c') ∧
        (((w.setCell q (.bool b)).setCell (q.add 1) (.slice p n c)).setCell (q.add 2) (.int .i64 i)).cell? (q'.add 2) = some (.int .i64 i') ∧
        K (.agg ⟨[.bool b', .slice p' n' c', .int .i64 i']⟩) (((w.setCell q (.bool b)).setCell (q.add 1) (.slice p n c)).setCell (q.add 2) (.int .i64 i)) :=
  ret3 hr h

theorem ext_put3 {w0 w : World} {q : Addr} (h : Ext w0 w) (hq : w0.heap.size ≤ q.block) (a b c : Value) : Ext w0 (((w.setCell q a).setCell (q.add 1) b).setCell (q.add 2) c) :=
  Ext.set (Ext.set (Ext.set (a := q) h hq 0 a) hq 1 b) hq 2 c
end Go.Wk

/-! ### WkDig -/
namespace Go.Wk
open Go Go.RowKit

/-! ### numbers as lists of digits of 16 bits -/
def valL : List Int → Int
  | [] => 0
  | d :: r => d + 65536 * valL r

def Dig (l : List Int) : Prop := ∀ d ∈ l, 0 ≤ d ∧ d < 65536

theorem valL_append : ∀ (l m : List Int), valL (l ++ m) = valL l + 65536 ^ l.length * valL m
  | [], m => by simp [valL]
  | d :: r, m => by
    simp only [List.cons_append, valL, valL_append r m, List.length_cons, Int.pow_succ]
    grind

theorem valL_zeros (n : Nat) : valL (List.replicate n 0) = 0 := by
  induction n with
  | zero => rfl
  | succ n ih => simp [List.replicate_succ, valL, ih]

theorem valL_nonneg {l : List Int} (h : Dig l) : 0 ≤ valL l := by
  induction l with
  | nil => exact Int.le_refl _
  | cons d r ih =>
    have h1 := (h d (by simp)).1
    have h2 := ih (fun x hx => h x (by simp [hx]))
    simp only [valL]; omega

theorem valL_lt {l : List Int} (h : Dig l) : valL l < 65536 ^ l.length := by
  induction l with
  | nil => decide
  | cons d r ih =>
    have h1 := (h d (by simp)).2
    have h2 := ih (fun x hx => h x (by simp [hx]))
    simp only [valL, List.length_cons, Int.pow_succ]; omega

theorem pow_pos16 (n : Nat) : (0 : Int) < 65536 ^ n := Int.pow_pos (by omega)
theorem valL_snoc_pos {l : List Int} {x : Int} (h : Dig l) (hx : 0 < x) : 0 < valL (l ++ [x]) := by
  rw [valL_append]
  have h1 := valL_nonneg h
  have h2 : valL [x] = x := by simp [valL]
  rw [h2]
  have h3 := Int.mul_pos (pow_pos16 l.length) hx
  omega

/-- The number of a sign, digits and a place. -/
def dv (s : Bool) (l : List Int) (e : Int) : Rat := (if s then -1 else 1) * (valL l : Rat) * 2 ^ (16 * e)

theorem two_ne : (2 : Rat) ≠ 0 := by decide
theorem p16 (e : Int) : (2 : Rat) ^ (16 * (e + 1)) = 65536 * 2 ^ (16 * e) := by
  rw [show 16 * (e + 1) = 16 * e + 16 by omega, Rat.zpow_add two_ne]
  have : (2 : Rat) ^ (16 : Int) = 65536 := by decide +kernel
  rw [this]; grind

theorem dv_zero_cons (s : Bool) (l : List Int) (e : Int) : dv s (0 :: l) e = dv s l (e + 1) := by
  unfold dv
  rw [p16]
  simp only [valL]
  rw [show ((0 + 65536 * valL l : Int) : Rat) = 65536 * (valL l : Rat) by rw [Int.zero_add, Rat.intCast_mul]; rfl]
  grind
theorem dv_append_zero (s : Bool) (l : List Int) (e : Int) : dv s (l ++ [0]) e = dv s l e := by
  unfold dv
  rw [valL_append]
  simp [valL]

/-- What a struct of a sign, digits and a place stands for: 'q'; its digits' places lie from -B to B. -/
structure DR (w : World) (s : Bool) (p : Option Addr) (n : Nat) (e : Int) (B : Int) (q : Rat) : Prop where
  out : ∃ l, Ints w p n l ∧ Dig l ∧ q = dv s l e ∧ (l = [] → s = false) ∧ (l ≠ [] → 0 < valL l)
  lo : -B ≤ e
  hi : e + n ≤ B

theorem DR.ext {w w' : World} {s : Bool} {p : Option Addr} {n : Nat} {e B : Int} {q : Rat} (h : DR w s p n e B q) (he : Ext w w') : DR w' s p n e B q :=
  ⟨let ⟨l, h1, h2⟩ := h.out; ⟨l, h1.ext he, h2⟩, h.lo, h.hi⟩
theorem DR.mono {w : World} {s : Bool} {p : Option Addr} {n : Nat} {e B B' : Int} {q : Rat} (h : DR w s p n e B q) (hB : B ≤ B') : DR w s p n e B' q :=
  ⟨h.out, by have := h.lo; omega, by have := h.hi; omega⟩
/-- What is written elsewhere. -/
theorem Ints.apart {w : World} {p : Option Addr} {n : Nat} {xs : List Int} (h : Ints w p n xs) {q : Addr} (hq : ∀ a, p = some a → a.block ≠ q.block) (j : Nat) (v : Value) :
    Ints (w.setCell (q.add j) v) p n xs :=
  ⟨h.len, fun i x hx => by
    obtain ⟨a, ha, hc⟩ := h.at_ i x hx
    refine ⟨a, ha, ?_⟩
    have : q.add j ≠ a.add i := fun e => hq a ha (by have := congrArg Addr.block e; rw [add_block, add_block] at this; exact this.symm)
    rw [World.cell?_setCell_other _ _ _ _ this]
    exact hc⟩
theorem DR.put3 {w : World} {s : Bool} {p : Option Addr} {n : Nat} {e B : Int} {r : Rat} (h : DR w s p n e B r) {q : Addr} (hq : ∀ a, p = some a → a.block ≠ q.block) (a b c : Value) :
    DR (((w.setCell q a).setCell (q.add 1) b).setCell (q.add 2) c) s p n e B r := by
  obtain ⟨⟨l, h1, h2⟩, h3, h4⟩ := h
  refine ⟨⟨l, ?_, h2⟩, h3, h4⟩
  exact Ints.apart (Ints.apart (Ints.apart (q := q) h1 hq 0 a) hq 1 b) hq 2 c
/-- The slice is none, or lies in what has been made since. -/
def Fr (base : Nat) (p : Option Addr) : Prop := ∀ a, p = some a → base ≤ a.block
theorem Fr.none (base : Nat) : Fr base none := fun _ h => by cases h
theorem Fr.mono {b b' : Nat} {p : Option Addr} (h : Fr b p) (hb : b' ≤ b) : Fr b' p := fun a ha => Nat.le_trans hb (h a ha)
theorem Own.fr {w : World} {base : Nat} {e : TypeId} {p : Option Addr} {n c : Nat} {xs : List Value} (h : Own w base e p n c xs) : Fr base p := by
  intro a ha
  subst ha
  exact (World.ownsRow.lt h a.block rfl).1
theorem DR.zero {w : World} {p : Option Addr} {B : Int} (hB : 0 ≤ B) : DR w false p 0 0 B 0 :=
  ⟨⟨[], Ints.nil, (fun _ h => by cases h), by unfold dv; simp [valL], (fun _ => rfl), (fun h => absurd rfl h)⟩, by omega, by omega⟩

/-- What a finite float is worth. -/
def fval (x : Nat) : Rat := (wth x : Rat) * 2 ^ (-1074 : Int)

theorem fval_parts (x : Nat) : ((if sgn x then -1 else 1) * ((magR (rung x) : Nat) : Int) : Rat) * 2 ^ (-1074 + (shR (rung x) : Int)) = fval x := by
  unfold fval wth valR
  rw [Rat.zpow_add two_ne, Rat.zpow_natCast]
  have : ((2 : Rat) ^ shR (rung x)) = ((2 ^ shR (rung x) : Nat) : Int) := by
    rw [Rat.intCast_natCast, Rat.natCast_pow]; rfl
  rw [this]
  cases sgn x
  · simp only [Bool.false_eq_true, if_false]
    rw [Int.natCast_mul, Rat.intCast_mul]
    grind
  · simp only [if_true]
    rw [Rat.intCast_neg, Int.natCast_mul, Rat.intCast_mul]
    grind
end Go.Wk

/-! ### WkMul -/
namespace Go.Wk
open Go

theorem valL_set : ∀ (m : List Int) (j : Nat) (x : Int), j < m.length → valL (m.set j x) = valL m + 65536 ^ j * (x - m.getD j 0)
  | [], j, x, h => by simp at h
  | d :: r, 0, x, _ => by simp [valL]; omega
  | d :: r, j + 1, x, h => by
    have := valL_set r j x (by simpa using h)
    simp only [List.set_cons_succ, valL, this, List.getD_cons_succ, Int.pow_succ]
    generalize r.getD j 0 = y
    generalize (65536 : Int) ^ j = g
    grind

theorem dig_set {m : List Int} (h : Dig m) (j : Nat) {x : Int} (hx : 0 ≤ x ∧ x < 65536) : Dig (m.set j x) := by
  intro d hd
  rcases List.mem_or_eq_of_mem_set hd with hd | hd
  · exact h d hd
  · rw [hd]; exact hx

theorem dig_getD {m : List Int} (h : Dig m) (j : Nat) : 0 ≤ m.getD j 0 ∧ m.getD j 0 < 65536 := by
  rw [List.getD_eq_getElem?_getD]
  by_cases hj : j < m.length
  · rw [List.getElem?_eq_getElem hj]; exact h _ (List.getElem_mem hj)
  · rw [List.getElem?_eq_none (by omega)]; decide

theorem mul_dig {x y : Int} (hx : 0 ≤ x ∧ x < 65536) (hy : 0 ≤ y ∧ y < 65536) : 0 ≤ x * y ∧ x * y ≤ 4294836225 := by
  refine ⟨Int.mul_nonneg hx.1 hy.1, ?_⟩
  have h1 := Int.mul_le_mul_of_nonneg_right (show x ≤ 65535 by omega) hy.1
  have h2 : (65535 : Int) * y ≤ 65535 * 65535 := Int.mul_le_mul_of_nonneg_left (by omega) (by omega)
  omega
theorem mul_step {V A P g gg x y cy z m1 m2 : Int} (hv : V + g * gg * cy = A + g * (x * P)) (e3 : cy + x * y + z = m1 + 65536 * m2) :
    V + g * gg * (m1 - z) + g * gg * 65536 * m2 = A + g * (x * (P + gg * y)) := by grind
end Go.Wk

/-! ### WkBox -/
namespace Go.Wk
open Go Go.RowKit

/-! ### local variables whose contents are known -/
/-- All but block 'k' is as it was. -/
structure Exc (k : Nat) (w w' : World) : Prop where
  os : w'.os = w.os
  tape : w'.tape = w.tape
  output : w'.output = w.output
  size : w.heap.size ≤ w'.heap.size
  block : ∀ j, j < w.heap.size → j ≠ k → w'.heap[j]? = w.heap[j]?

theorem Exc.refl (k : Nat) (w : World) : Exc k w w := ⟨rfl, rfl, rfl, Nat.le_refl _, fun _ _ _ => rfl⟩
theorem Exc.trans {k : Nat} {a b c : World} (h : Exc k a b) (g : Exc k b c) : Exc k a c :=
  ⟨g.os.trans h.os, g.tape.trans h.tape, g.output.trans h.output, Nat.le_trans h.size g.size, fun j hj hk => (g.block j (Nat.lt_of_lt_of_le hj h.size) hk).trans (h.block j hj hk)⟩
theorem Ext.exc {w w' : World} (h : Ext w w') (k : Nat) : Exc k w w' := ⟨h.os, h.tape, h.output, h.size, fun j hj _ => h.block j hj⟩
theorem Exc.set (w : World) (a : Addr) (v : Value) : Exc a.block w (w.setCell a v) :=
  ⟨rfl, rfl, rfl, by simp [World.setCell], fun j _ hk => Below.heap_setCell _ _ _ _ hk⟩
/-- What is written lies behind all that was there at first. -/
theorem Exc.ext {w0 w w' : World} {k : Nat} (e : Exc k w w') (h : Ext w0 w) (hk : w0.heap.size ≤ k) : Ext w0 w' :=
  ⟨e.os.trans h.os, e.tape.trans h.tape, e.output.trans h.output, Nat.le_trans h.size e.size, fun j hj => (e.block j (Nat.lt_of_lt_of_le hj h.size) (by omega)).trans (h.block j hj)⟩
theorem Exc.cell {k : Nat} {w w' : World} (e : Exc k w w') {a : Addr} {v : Value} (hk : a.block ≠ k) (h : w.cell? a = some v) : w'.cell? a = some v := by
  rw [World.cell?_of_block (e.block a.block (World.block_lt_of_cell? _ _ h) hk), h]
theorem Row.exc {k : Nat} {w w' : World} (e : Exc k w w') {q : Addr} {cs : List Value} (h : Row w q cs) (hk : q.block ≠ k) : Row w' q cs where
  cell j v hv := e.cell (by rw [add_block]; exact hk) (h.cell j v hv)
  free j hj := by rw [World.frozen?_of_block (w := w) (by rw [add_block]; exact e.block q.block h.lt hk)]; exact h.free j hj
  lt := Nat.lt_of_lt_of_le h.lt e.size
  spot := h.spot

/-- The blocks 'ks' are as they were. -/
def Keep (ks : List Nat) (w w' : World) : Prop := w.heap.size ≤ w'.heap.size ∧ ∀ k ∈ ks, w'.heap[k]? = w.heap[k]?
def Stay (ks : List Nat) (w w' : World) : Prop := Ext w w' ∨ Keep ks w w'
theorem Ext.stay {w w' : World} (e : Ext w w') {ks : List Nat} : Stay ks w w' := .inl e
theorem Exc.keep {k : Nat} {w w' : World} (e : Exc k w w') {ks : List Nat} (h : ∀ j ∈ ks, j < w.heap.size ∧ j ≠ k) : Keep ks w w' :=
  ⟨e.size, fun j hj => e.block j (h j hj).1 (h j hj).2⟩

theorem Row.kept {w w' : World} {q : Addr} {cs : List Value} (h : Row w q cs) (hs : w.heap.size ≤ w'.heap.size) (hb : w'.heap[q.block]? = w.heap[q.block]?) : Row w' q cs where
  cell j v hv := by rw [World.cell?_of_block (w := w) (by rw [add_block]; exact hb)]; exact h.cell j v hv
  free j hj := by rw [World.frozen?_of_block (w := w) (by rw [add_block]; exact hb)]; exact h.free j hj
  lt := Nat.lt_of_lt_of_le h.lt hs
  spot := h.spot

/-- The variables, each in a block of its own, and what they hold. -/
def St (w : World) : List (Addr × List Value) → Prop
  | [] => True
  | r :: L => Row w r.1 r.2 ∧ (∀ r' ∈ L, r'.1.block ≠ r.1.block) ∧ St w L

theorem St.nil (w : World) : St w [] := trivial
theorem St.mem {w : World} : ∀ {L : List (Addr × List Value)}, St w L → ∀ r ∈ L, Row w r.1 r.2
  | [], _, r, hr => by cases hr
  | x :: L, h, r, hr => by
    rcases List.mem_cons.1 hr with rfl | hr
    · exact h.1
    · exact St.mem h.2.2 r hr
theorem St.row {w : World} {L : List (Addr × List Value)} (st : St w L) {i : Nat} {q : Addr} {vs : List Value} (h : L[i]? = some (q, vs)) : Row w q vs :=
  st.mem (q, vs) (List.mem_of_getElem? h)
theorem St.ext {w w' : World} : ∀ {L : List (Addr × List Value)}, St w L → Ext w w' → St w' L
  | [], _, _ => trivial
  | _ :: _, h, e => ⟨h.1.ext e, h.2.1, St.ext h.2.2 e⟩
theorem St.drew {w : World} {L : List (Addr × List Value)} (st : St w L) : St w.drew L := st.ext (Ext.drew w)
theorem St.keep {w w' : World} : ∀ {L : List (Addr × List Value)}, St w L → Keep (L.map (·.1.block)) w w' → St w' L
  | [], _, _ => trivial
  | _ :: _, h, k => ⟨h.1.kept k.1 (k.2 _ (by simp)), h.2.1, St.keep h.2.2 ⟨k.1, fun j hj => k.2 j (by simp only [List.map_cons, List.mem_cons]; exact .inr hj)⟩⟩
theorem St.stay {w w' : World} {L : List (Addr × List Value)} (st : St w L) (h : Stay (L.map (·.1.block)) w w') : St w' L := by
  rcases h with e | k
  · exact st.ext e
  · exact st.keep k

theorem Exc.keptS {k : Nat} {w w' : World} (e : Exc k w w') {S : Nat → Prop} (h : ∀ b, S b → b ≠ k) : KeptS S w w' := fun b v hs hv => e.cell (h _ hs) hv
theorem Ext.keptS {w w' : World} (e : Ext w w') {S : Nat → Prop} : KeptS S w w' := fun _ _ _ hv => e.cell_of hv

def pickL (L : List (Addr × List Value)) : List Nat → List (Addr × List Value)
  | [] => []
  | i :: r => match L[i]? with | some x => x :: pickL L r | none => pickL L r

theorem pickL_mem {L : List (Addr × List Value)} : ∀ {idx : List Nat} {r : Addr × List Value}, r ∈ pickL L idx → ∃ i ∈ idx, L[i]? = some r
  | [], r, h => by cases h
  | i :: rest, r, h => by
    unfold pickL at h
    split at h
    · rename_i x hx
      rcases List.mem_cons.1 h with rfl | h
      · exact ⟨i, by simp, hx⟩
      · obtain ⟨j, hj, h2⟩ := pickL_mem h; exact ⟨j, by simp [hj], h2⟩
    · obtain ⟨j, hj, h2⟩ := pickL_mem h; exact ⟨j, by simp [hj], h2⟩

theorem St.apart {w : World} : ∀ {L : List (Addr × List Value)}, St w L → ∀ {i j : Nat} {a b : Addr × List Value}, i ≠ j → L[i]? = some a → L[j]? = some b → b.1.block ≠ a.1.block
  | [], _, _, _, _, _, _, h, _ => by simp at h
  | x :: L, st, i, j, a, b, hne, h1, h2 => by
    cases i with
    | zero =>
      cases j with
      | zero => exact absurd rfl hne
      | succ j =>
        simp at h1 h2
        subst h1
        exact st.2.1 b (List.mem_of_getElem? h2)
    | succ i =>
      cases j with
      | zero =>
        simp at h1 h2
        subst h2
        exact (st.2.1 a (List.mem_of_getElem? h1)).symm
      | succ j =>
        simp at h1 h2
        exact St.apart st.2.2 (by omega) h1 h2

theorem St.nb (i j off : Nat) {w : World} {L : List (Addr × List Value)} {Q Q' : Addr} {us us' : List Value} (st : St w L) (h1 : L[i]? = some (Q, us)) (h2 : L[j]? = some (Q', us')) (hne : j ≠ i) : (Q.add off).block ≠ Q'.block := by
  rw [add_block]
  exact st.apart hne h2 h1

theorem St.pick {w : World} {L : List (Addr × List Value)} (st : St w L) : ∀ (idx : List Nat), idx.Nodup → St w (pickL L idx)
  | [], _ => trivial
  | i :: r, hn => by
    have hn' := List.nodup_cons.1 hn
    unfold pickL
    split
    · rename_i x hx
      refine ⟨st.mem x (List.mem_of_getElem? hx), fun r' hr' => ?_, St.pick st r hn'.2⟩
      obtain ⟨j, hj, h2⟩ := pickL_mem hr'
      exact st.apart (fun e => hn'.1 (by rw [e]; exact hj)) hx h2
    · exact St.pick st r hn'.2

theorem St.new {cs : List Value} {ty : TypeId} {w : World} {k : Addr → World → Prop} {L : List (Addr × List Value)} (st : St w L)
    (h : ∀ q w', q.block = w.heap.size → q.block < w'.heap.size → Ext w w' → St w' ((q, cs) :: L) → k q w') : newB cs ty w k := by
  refine newB_intro fun q w' hq _ he hr hs _ => ?_
  refine h q w' hq (by omega) he ⟨hr, fun r' hr' => ?_, st.ext he⟩
  have := (st.mem r' hr').lt
  show r'.1.block ≠ q.block
  omega

theorem newB_mono {cs : List Value} {ty : TypeId} {w : World} {k k' : Addr → World → Prop} {L : List (Addr × List Value)} (st : St w L) (h : newB cs ty w k)
    (hk : ∀ q w', St w' L → k q w' → k' q w') : newB cs ty w k' := hk _ _ (st.ext (Ext.alloc w _)) h

theorem ptrSome_mono {p : Option Addr} {k k' : Addr → Prop} (hk : ∀ a, k a → k' a) (h : ptrSome p k) : ptrSome p k' := by
  obtain ⟨a, rfl, h⟩ := ptrSome_elim h
  exact hk a h

theorem stPT_mono {a : Addr} : ∀ {vs : List Value} {i : Nat} {w : World} {k k' : World → Prop}, (∀ w, k w → k' w) → stPT a i vs w k → stPT a i vs w k'
  | [], _, _, _, _, hk, h => hk _ h
  | v :: r, i, w, k, k', hk, h => by
    unfold stPT at *
    cases hv : v.oneCell' with
    | false => rw [hv] at h; exact h.elim
    | true => rw [hv] at h; exact ⟨h.1, h.2.1, stPT_mono hk h.2.2⟩

theorem fop_mono {op : BinOp} {κ : FloatKind} {a b : Nat} {w : World} {k k' : Nat → World → Prop} {L : List (Addr × List Value)} (st : St w L) (h : fop op κ a b w k)
    (hk : ∀ r w', St w' L → k r w' → k' r w') : fop op κ a b w k' :=
  ⟨fun r hr => hk r w st (h.1 r hr), fun hn n hb => hk n _ st.drew (h.2 hn n hb)⟩

theorem stPT_row {Q : Addr} {off : Nat} : ∀ {vs : List Value} {i : Nat} {w : World} {us : List Value} {k : World → Prop}, Row w Q us → off + i + vs.length ≤ us.length → vs.all (·.oneCell') = true →
    (∀ w', Exc Q.block w w' → Row w' Q (setAt us (off + i) vs) → k w') → stPT (Q.add off) i vs w k
  | [], i, w, us, k, hr, _, _, h => h w (Exc.refl _ _) hr
  | v :: r, i, w, us, k, hr, hl, ho, h => by
    simp only [List.all_cons, Bool.and_eq_true] at ho
    simp only [List.length_cons] at hl
    unfold stPT
    rw [ho.1]
    have hj : off + i < us.length := by omega
    have e : (Q.add off).add i = Q.add (off + i) := add_add off i
    rw [e]
    have hx : us[off + i]? = some us[off + i] := by simp [hj]
    refine ⟨by rw [hr.get (off + i) hx]; rfl, hr.free _ hj, ?_⟩
    have hr' := hr.set (off + i) v hj
    refine stPT_row (i := i + 1) hr' (by simp; omega) ho.2 fun w' he hw' => ?_
    refine h w' ?_ ?_
    · have := Exc.set w (Q.add (off + i)) v
      rw [add_block] at this
      exact this.trans he
    · exact hw'

theorem St.set {w w' : World} : ∀ {L : List (Addr × List Value)} {i : Nat} {Q : Addr} {us us' : List Value}, St w L → L[i]? = some (Q, us) → Exc Q.block w w' → Row w' Q us' → St w' (L.set i (Q, us'))
  | [], i, Q, us, us', _, h, _, _ => by simp at h
  | x :: L, 0, Q, us, us', st, h, e, r => by
    simp at h
    subst h
    refine ⟨r, st.2.1, ?_⟩
    have : ∀ {M : List (Addr × List Value)}, St w M → (∀ r' ∈ M, r'.1.block ≠ Q.block) → St w' M := by
      intro M
      induction M with
      | nil => intro _ _; trivial
      | cons y M ih => intro hM hne; exact ⟨Row.exc e hM.1 (hne y (by simp)), hM.2.1, ih hM.2.2 fun r' hr' => hne r' (by simp [hr'])⟩
    exact this st.2.2 st.2.1
  | x :: L, i + 1, Q, us, us', st, h, e, r => by
    simp at h
    have hx : x.1.block ≠ Q.block := (st.2.1 (Q, us) (List.mem_of_getElem? h)).symm
    refine ⟨Row.exc e st.1 hx, fun r' hr' => ?_, St.set st.2.2 h e r⟩
    rcases List.mem_or_eq_of_mem_set hr' with h' | h'
    · exact st.2.1 r' h'
    · rw [h']; exact hx.symm

theorem St.put (i off : Nat) {w : World} {a Q : Addr} {us vs : List Value} {L : List (Addr × List Value)} {k : World → Prop} (st : St w L) (hL : L[i]? = some (Q, us)) (ha : a = Q.add off)
    (hone : vs.all (·.oneCell') = true) (hlen : Nat.ble (off + vs.length) us.length = true)
    (h : ∀ w', Exc Q.block w w' → St w' (L.set i (Q, setAt us off vs)) → k w') : stPT a 0 vs w k := by
  subst ha
  exact stPT_row (st.row hL) (by have := Nat.le_of_ble_eq_true hlen; omega) hone fun w' he hr => h w' he (st.set hL he hr)
end Go.Wk

/-! ### WkErr -/
namespace Go.Wk
open Go Ieee

/-! ### how far a rounded number is -/
def ulp (k : Int) : Rat := (2 : Rat) ^ k
theorem ulp_pos (k : Int) : 0 < ulp k := Rat.zpow_pos (by decide)
theorem ulp_add (j k : Int) : ulp (j + k) = ulp j * ulp k := Rat.zpow_add two_ne j k
theorem ulp_nat (n : Nat) : ulp (n : Int) = ((2 ^ n : Nat) : Rat) := by
  unfold ulp
  rw [Rat.zpow_natCast, Rat.natCast_pow]; rfl
theorem ulp_zero : ulp 0 = 1 := Rat.zpow_zero _
theorem ulp_mono {j k : Int} (h : j ≤ k) : ulp j ≤ ulp k := by
  obtain ⟨n, hn⟩ : ∃ n : Nat, k = j + n := ⟨(k - j).toNat, by omega⟩
  subst hn
  rw [ulp_add, ulp_nat]
  have h1 : (1 : Rat) ≤ ((2 ^ n : Nat) : Rat) := by
    have := Rat.natCast_le_natCast.2 (Nat.one_le_two_pow (n := n))
    simpa using this
  have h2 := Rat.mul_le_mul_of_nonneg_left h1 (Rat.le_of_lt (ulp_pos j))
  rwa [Rat.mul_one] at h2

theorem natR_le {a b : Nat} (h : a ≤ b) : (a : Rat) ≤ (b : Rat) := Rat.natCast_le_natCast.2 h
theorem natR_nonneg (a : Nat) : (0 : Rat) ≤ (a : Rat) := Rat.natCast_nonneg

/-- Of the magnitudes. -/
theorem mag_err {m : Nat} {p : Int} (hm : m ≠ 0) :
    ((keptR m p : Rat) * ulp (lastP m p) ≤ (m : Rat) * ulp p + (ulp (-53) * ((keptR m p : Rat) * ulp (lastP m p)) + (if -1074 ≤ p then 0 else ulp (-1075)))) ∧
    ((m : Rat) * ulp p ≤ (keptR m p : Rat) * ulp (lastP m p) + (ulp (-53) * ((keptR m p : Rat) * ulp (lastP m p)) + (if -1074 ≤ p then 0 else ulp (-1075)))) := by
  have hV : 0 ≤ ulp (-53) * ((keptR m p : Rat) * ulp (lastP m p)) :=
    Rat.mul_nonneg (Rat.le_of_lt (ulp_pos _)) (Rat.mul_nonneg (natR_nonneg _) (Rat.le_of_lt (ulp_pos _)))
  have hE : (0 : Rat) ≤ (if -1074 ≤ p then 0 else ulp (-1075)) := by
    split
    · exact Rat.le_refl
    · exact Rat.le_of_lt (ulp_pos _)
  by_cases hpl : lastP m p ≤ p
  · -- exact
    have hk : keptR m p = m * 2 ^ (p - lastP m p).toNat := by
      unfold keptR
      have e1 : (lastP m p - p).toNat = 0 := by omega
      rw [e1, rne_zero, Nat.shiftLeft_eq]
    have e : (keptR m p : Rat) * ulp (lastP m p) = (m : Rat) * ulp p := by
      rw [hk, Rat.natCast_mul, ← ulp_nat, Rat.mul_assoc, ← ulp_add]
      congr 2
      omega
    rw [e] at hV ⊢
    constructor <;> grind
  · have hn : (p - lastP m p).toNat = 0 := by omega
    have hf := rne_far m (lastP m p - p).toNat
    have hk : keptR m p = rne m (lastP m p - p).toNat := by
      unfold keptR
      rw [hn, Nat.shiftLeft_zero]
    rw [← hk] at hf
    -- half a unit of the last place
    have hu : ulp ((lastP m p - p).toNat : Int) * ulp p = ulp (lastP m p) := by
      rw [← ulp_add]; congr 1; omega
    have f1 : 2 * ((m : Rat) * ulp p) ≤ 2 * ((keptR m p : Rat) * ulp (lastP m p)) + ulp (lastP m p) := by
      have h1 := natR_le hf.1
      simp only [Rat.natCast_add, Rat.natCast_mul] at h1
      rw [← ulp_nat] at h1
      have h2 := Rat.mul_le_mul_of_nonneg_right h1 (Rat.le_of_lt (ulp_pos p))
      rw [← hu]
      generalize ulp p = x at *
      generalize ulp ((lastP m p - p).toNat : Int) = y at *
      grind
    have f2 : 2 * ((keptR m p : Rat) * ulp (lastP m p)) ≤ 2 * ((m : Rat) * ulp p) + ulp (lastP m p) := by
      have h1 := natR_le hf.2
      simp only [Rat.natCast_add, Rat.natCast_mul] at h1
      rw [← ulp_nat] at h1
      have h2 := Rat.mul_le_mul_of_nonneg_right h1 (Rat.le_of_lt (ulp_pos p))
      rw [← hu]
      generalize ulp p = x at *
      generalize ulp ((lastP m p - p).toNat : Int) = y at *
      grind
    have hhalf : ulp (lastP m p) ≤ 2 * (ulp (-53) * ((keptR m p : Rat) * ulp (lastP m p)) + (if -1074 ≤ p then 0 else ulp (-1075))) := by
      by_cases h1 : -1074 < lastP m p
      · have h2 := natR_le (le_keptR hm h1)
        have h3 : ((4503599627370496 : Nat) : Rat) = ulp 52 := (ulp_nat 52).symm
        rw [h3] at h2
        have h4 := Rat.mul_le_mul_of_nonneg_right h2 (Rat.le_of_lt (ulp_pos (lastP m p)))
        have h5 := Rat.mul_le_mul_of_nonneg_left h4 (Rat.le_of_lt (ulp_pos (-53)))
        have h6 : 2 * (ulp (-53) * (ulp 52 * ulp (lastP m p))) = ulp (lastP m p) := by
          have h7 : (2 : Rat) = ulp 1 := (Rat.zpow_one _).symm
          rw [h7, ← ulp_add, ← ulp_add, ← ulp_add]
          congr 1; omega
        grind
      · have h2 := lastP_ge m p
        have h3 : lastP m p = -1074 := by omega
        have h4 : ¬ -1074 ≤ p := by omega
        rw [if_neg h4] at hE ⊢
        have h5 : ulp (lastP m p) = 2 * ulp (-1075) := by
          have h7 : (2 : Rat) = ulp 1 := (Rat.zpow_one _).symm
          rw [h3, h7, ← ulp_add]; congr 1
        grind
    constructor <;> grind

def sg (s : Bool) : Rat := if s then -1 else 1
theorem sg_xor (s t : Bool) : sg (s ^^ t) = sg s * sg t := by cases s <;> cases t <;> decide +kernel
theorem sg_abs (s : Bool) (q : Rat) : (sg s * q).abs = q.abs := by
  cases s
  · show (1 * q).abs = _; rw [Rat.one_mul]
  · show (-1 * q).abs = _
    rw [show -1 * q = -q by grind, Rat.abs_neg]

theorem fval_word (s : Bool) {R : Nat} (h : R < 9223372036854775808) : fval (wordD s R) = sg s * ((valR R : Rat) * ulp (-1074)) := by
  unfold fval wth
  rw [sgn_word s h, rung_word s h]
  unfold sg ulp
  cases s
  · simp only [Bool.false_eq_true, if_false]
    rw [Rat.intCast_natCast]; grind
  · simp only [if_true]
    rw [Rat.intCast_neg, Rat.intCast_natCast]; grind

theorem abs_le {q b : Rat} (h1 : q ≤ b) (h2 : -q ≤ b) : q.abs ≤ b := by
  rcases Rat.le_total (a := 0) (b := q) with h | h
  · rwa [Rat.abs_of_nonneg h]
  · rwa [Rat.abs_of_nonpos h]
theorem le_abs (q : Rat) : q ≤ q.abs := by
  rcases Rat.le_total (a := 0) (b := q) with h | h
  · rw [Rat.abs_of_nonneg h]; exact Rat.le_refl
  · rw [Rat.abs_of_nonpos h]; grind
theorem neg_le_abs (q : Rat) : -q ≤ q.abs := by
  have := le_abs (-q)
  rwa [Rat.abs_neg] at this
theorem abs_add (a b : Rat) : (a + b).abs ≤ a.abs + b.abs := by
  have h1 := le_abs a
  have h2 := le_abs b
  have h3 := neg_le_abs a
  have h4 := neg_le_abs b
  exact abs_le (by grind) (by grind)
theorem abs_mul (a b : Rat) : (a * b).abs = a.abs * b.abs := by
  rcases Rat.le_total (a := 0) (b := a) with h | h <;> rcases Rat.le_total (a := 0) (b := b) with h' | h'
  · rw [Rat.abs_of_nonneg h, Rat.abs_of_nonneg h', Rat.abs_of_nonneg (Rat.mul_nonneg h h')]
  · have : 0 ≤ a * (-b) := Rat.mul_nonneg h (by grind)
    rw [Rat.abs_of_nonneg h, Rat.abs_of_nonpos h', Rat.abs_of_nonpos (by grind)]; grind
  · have : 0 ≤ (-a) * b := Rat.mul_nonneg (by grind) h'
    rw [Rat.abs_of_nonpos h, Rat.abs_of_nonneg h', Rat.abs_of_nonpos (by grind)]; grind
  · have : 0 ≤ (-a) * (-b) := Rat.mul_nonneg (by grind) (by grind)
    rw [Rat.abs_of_nonpos h, Rat.abs_of_nonpos h', Rat.abs_of_nonneg (by grind)]; grind

/-- What is rounded, and is finite. -/
theorem near_err {s : Bool} {m : Nat} {p : Int} (hf : fin (double.nearest s m p)) :
    (fval (double.nearest s m p) - sg s * ((m : Rat) * ulp p)).abs ≤ ulp (-53) * (fval (double.nearest s m p)).abs + (if -1074 ≤ p then 0 else ulp (-1075)) := by
  by_cases hm : m = 0
  · subst hm
    rw [nearest_zero, fval_word s (by decide), valR_zero]
    have h0 : sg s * (((0 : Nat) : Rat) * ulp (-1074)) = 0 := by
      have : ((0 : Nat) : Rat) = 0 := rfl
      rw [this]; grind
    have h1 : sg s * (((0 : Nat) : Rat) * ulp p) = 0 := by
      have : ((0 : Nat) : Rat) = 0 := rfl
      rw [this]; grind
    rw [h0, h1]
    have : ((0 : Rat) - 0).abs = 0 := by decide +kernel
    rw [this, Rat.abs_zero, Rat.mul_zero, Rat.zero_add]
    split
    · exact Rat.le_refl
    · exact Rat.le_of_lt (ulp_pos _)
  · rw [nearest_eq s m p hm] at hf ⊢
    have hR : nearR m p < infR := by
      unfold fin at hf
      rw [rung_word s (by unfold infR; omega)] at hf
      omega
    have hmin : min (nearR m p) infR = nearR m p := by omega
    rw [hmin, fval_word s (by unfold infR at hR; omega), valR_near hm]
    have hV : ((keptR m p * 2 ^ (lastP m p + 1074).toNat : Nat) : Rat) * ulp (-1074) = (keptR m p : Rat) * ulp (lastP m p) := by
      rw [Rat.natCast_mul, ← ulp_nat, Rat.mul_assoc, ← ulp_add]
      have := lastP_ge m p
      congr 2
      omega
    rw [hV, sg_abs]
    obtain ⟨h1, h2⟩ := mag_err (p := p) hm
    have h3 : 0 ≤ (keptR m p : Rat) * ulp (lastP m p) := Rat.mul_nonneg (natR_nonneg _) (Rat.le_of_lt (ulp_pos _))
    rw [Rat.abs_of_nonneg h3]
    have h4 : sg s * ((keptR m p : Rat) * ulp (lastP m p)) - sg s * ((m : Rat) * ulp p) = sg s * ((keptR m p : Rat) * ulp (lastP m p) - (m : Rat) * ulp p) := by grind
    rw [h4, sg_abs]
    exact abs_le (by grind) (by grind)
end Go.Wk

/-! ### WkCn -/
namespace Go.Wk
open Go Ieee

/-! ### floats up to a NaN's bits -/
def qn : Nat := 9221120237041090561
/-- The same number, a NaN's bits forgotten. -/
def cn (x : Nat) : Nat := if nan x then qn else x
/-- An operation's result, a NaN's bits forgotten. -/
def fb (op : BinOp) (a b : Nat) : Nat := (floatBits op .f64 a b).getD qn

theorem nan_qn : nan qn := by decide
theorem cn_of {x : Nat} (h : ¬ nan x) : cn x = x := if_neg h
theorem cn_nan {x : Nat} (h : nan x) : cn x = qn := if_pos h
theorem nan_cn {x : Nat} : nan (cn x) ↔ nan x := by
  by_cases h : nan x
  · rw [cn_nan h]; exact ⟨fun _ => h, fun _ => nan_qn⟩
  · rw [cn_of h]
theorem fin_not_nan {x : Nat} (h : fin x) : ¬ nan x := by unfold fin nan at *; omega
theorem fin_cn {x : Nat} : fin (cn x) ↔ fin x := by
  by_cases h : nan x
  · rw [cn_nan h]
    constructor
    · intro h'; exact absurd nan_qn (fin_not_nan h')
    · intro h'; exact absurd h (fin_not_nan h')
  · rw [cn_of h]
theorem cn_cn (x : Nat) : cn (cn x) = cn x := by
  by_cases h : nan x
  · rw [cn_nan h, cn_nan nan_qn]
  · rw [cn_of h, cn_of h]
theorem cn_lt {x : Nat} (h : x < 18446744073709551616) : cn x < 18446744073709551616 := by
  unfold cn; split
  · decide
  · exact h
theorem cn_fin {x : Nat} (h : fin x) : cn x = x := cn_of (fin_not_nan h)
theorem cn_eq_fin {x y : Nat} (h : cn x = y) (hf : fin y) : x = y := by
  rw [← h] at hf ⊢
  exact (cn_fin (fin_cn.1 hf)).symm

theorem write_num {d : Datum} (h : d.isNaN = false) : ¬ nan (double.write d) := by
  have key : ∀ (s : Bool) (r : Nat), r ≤ infR → ¬ nan (wordD s r) := by
    intro s r hr
    unfold nan
    rw [rung_word s (by unfold infR at hr; omega)]
    omega
  cases d with
  | number s m p =>
    show ¬ nan (double.nearest s m p)
    by_cases hm : m = 0
    · subst hm; rw [nearest_zero]; exact key _ _ (by unfold infR; omega)
    · rw [nearest_eq _ _ _ hm]; exact key _ _ (by omega)
  | infinity s =>
    show ¬ nan (double.word s double.infRung)
    have : double.word s double.infRung = wordD s infR := by
      unfold Format.word wordD infR; rw [double_sw, double_inf]
    rw [this]; exact key _ _ (Nat.le_refl _)
  | nan s f => cases h

theorem sum_num {a b c : Datum} (h : a.sum b = some c) : c.isNaN = false := by
  cases a <;> cases b <;> simp only [Datum.sum] at h <;> first | cases h; done | (cases h; rfl) | (split at h <;> cases h; rfl)
theorem product_num {a b c : Datum} (h : a.product b = some c) : c.isNaN = false := by
  cases a <;> cases b <;> simp only [Datum.product] at h <;> first | cases h; done | (cases h; rfl) | (split at h <;> cases h; rfl)
theorem quotient_num {n : Nat} {a b c : Datum} (h : a.quotient n b = some c) : c.isNaN = false := by
  cases a <;> cases b <;> simp only [Datum.quotient] at h <;> first | cases h; done | (cases h; rfl) | skip
  split at h
  · split at h <;> cases h; rfl
  · cases h; rfl

theorem floatBits_num {op : BinOp} {a b r : Nat} (h : floatBits op .f64 a b = some r) : ¬ nan r ∧ r < 18446744073709551616 := by
  have hw := floatBits_wf h
  refine ⟨?_, by simpa [Lit.wf] using hw⟩
  unfold floatBits at h
  have hd : FloatKind.f64.format = double := rfl
  rw [hd] at h
  split at h
  · unfold Format.add at h
    obtain ⟨c, hc, rfl⟩ := Option.map_eq_some_iff.1 h
    exact write_num (sum_num hc)
  · unfold Format.sub at h
    obtain ⟨c, hc, rfl⟩ := Option.map_eq_some_iff.1 h
    exact write_num (sum_num hc)
  · unfold Format.mul at h
    obtain ⟨c, hc, rfl⟩ := Option.map_eq_some_iff.1 h
    exact write_num (product_num hc)
  · unfold Format.div at h
    obtain ⟨c, hc, rfl⟩ := Option.map_eq_some_iff.1 h
    exact write_num (quotient_num hc)
  · cases h

theorem floatBits_nan {op : BinOp} {a b : Nat} (h : nan a ∨ nan b) : floatBits op .f64 a b = none := by
  have hd : FloatKind.f64.format = double := rfl
  unfold floatBits
  rw [hd]
  have hs : ∀ d : Datum, ∀ s f, (Datum.nan s f).sum d = none := fun d s f => by cases d <;> rfl
  have hs' : ∀ d : Datum, ∀ s f, d.sum (Datum.nan s f) = none := fun d s f => by cases d <;> rfl
  have hp : ∀ d : Datum, ∀ s f, (Datum.nan s f).product d = none := fun d s f => by cases d <;> rfl
  have hp' : ∀ d : Datum, ∀ s f, d.product (Datum.nan s f) = none := fun d s f => by cases d <;> rfl
  have hq : ∀ d : Datum, ∀ n s f, (Datum.nan s f).quotient n d = none := fun d n s f => by cases d <;> rfl
  have hq' : ∀ d : Datum, ∀ n s f, d.quotient n (Datum.nan s f) = none := fun d n s f => by cases d <;> rfl
  rcases h with h | h
  · obtain ⟨f, hf⟩ := read_nan h
    split
    · unfold Format.add; rw [hf, hs]; rfl
    · unfold Format.sub; rw [hf, hs]; rfl
    · unfold Format.mul; rw [hf, hp]; rfl
    · unfold Format.div; rw [hf, hq]; rfl
    · rfl
  · obtain ⟨f, hf⟩ := read_nan h
    split
    · unfold Format.add; rw [hf, hs']; rfl
    · unfold Format.sub; rw [hf]; show (Datum.sum _ (Datum.nan _ _)).map _ = _; rw [hs']; rfl
    · unfold Format.mul; rw [hf, hp']; rfl
    · unfold Format.div; rw [hf, hq']; rfl
    · rfl

theorem fb_nan {op : BinOp} {a b : Nat} (h : nan a ∨ nan b) : fb op a b = qn := by unfold fb; rw [floatBits_nan h]; rfl

theorem fb_cn (op : BinOp) (a b : Nat) : fb op (cn a) (cn b) = fb op a b := by
  by_cases h : nan a ∨ nan b
  · rw [fb_nan h, fb_nan (by simpa only [nan_cn] using h)]
  · rw [cn_of (fun h' => h (.inl h')), cn_of (fun h' => h (.inr h'))]
theorem fb_congr {op : BinOp} {a a' b b' : Nat} (ha : cn a = cn a') (hb : cn b = cn b') : fb op a b = fb op a' b' := by
  rw [← fb_cn op a b, ha, hb, fb_cn]

theorem cn_fb (op : BinOp) (a b : Nat) : cn (fb op a b) = fb op a b := by
  unfold fb
  cases h : floatBits op .f64 a b with
  | none => exact cn_nan nan_qn
  | some r => exact cn_of (floatBits_num h).1

theorem nanB_nan {n : Nat} (h : nanB .f64 n) : nan n ∧ n < 18446744073709551616 := by
  obtain ⟨s, f, hs, hf, rfl⟩ := h
  have h1 : (2 : Nat) ^ 52 = 4503599627370496 := by decide
  have h2 : (2 : Nat) ^ 63 = 9223372036854775808 := by decide
  rw [h1] at hf
  rw [h2]
  unfold nan rung infR
  omega

/-- What comes of an operation on floats. -/
theorem fop_cn {op : BinOp} {a b : Nat} {w : World} {k : Nat → World → Prop}
    (h : ∀ r w', cn r = fb op a b → r < 18446744073709551616 → Ext w w' → w'.heap = w.heap → k r w') : fop op .f64 a b w k := by
  refine ⟨fun r hr => ?_, fun hn n hnb => ?_⟩
  · obtain ⟨h1, h2⟩ := floatBits_num hr
    refine h r w ?_ h2 (Ext.refl _) rfl
    unfold fb; rw [hr]; exact cn_of h1
  · obtain ⟨h1, h2⟩ := nanB_nan hnb
    refine h n w.drew ?_ h2 (Ext.drew _) rfl
    unfold fb; rw [hn]; exact cn_nan h1

theorem fb_some {op : BinOp} {a b r : Nat} (h : floatBits op .f64 a b = some r) : fb op a b = r := by unfold fb; rw [h]; rfl
theorem not_fin_qn : ¬ fin qn := by decide
theorem not_fin_inf (s : Bool) : ¬ fin (double.write (.infinity s)) := by
  show ¬ fin (double.word s double.infRung)
  have : double.word s double.infRung = wordD s infR := by
    unfold Format.word wordD infR; rw [double_sw, double_inf]
  rw [this]
  unfold fin
  rw [rung_word s (by decide)]
  omega

theorem datum_cases (x : Nat) : (fin x ∧ ∃ s m e, double.read x = .number s m e) ∨ (∃ s, double.read x = .infinity s) ∨ (nan x ∧ ∃ s f, double.read x = .nan s f) := by
  rcases tri x with h | h | h
  · exact .inl ⟨h, _, _, _, read_fin h⟩
  · exact .inr (.inl ⟨_, read_inf h⟩)
  · obtain ⟨f, hf⟩ := read_nan h
    exact .inr (.inr ⟨h, _, f, hf⟩)

/-- What is finite came of finite ones. -/
theorem fin_of_add {a b : Nat} (h : fin (fb .add a b)) : fin a ∧ fin b := by
  unfold fb floatBits at h
  have hd : FloatKind.f64.format = double := rfl
  simp only [hd] at h
  unfold Format.add at h
  rcases datum_cases a with ⟨ha, s, m, e, hra⟩ | ⟨s, hra⟩ | ⟨ha, s, f, hra⟩ <;> rcases datum_cases b with ⟨hb, t, n, g, hrb⟩ | ⟨t, hrb⟩ | ⟨hb, t, g, hrb⟩ <;> rw [hra, hrb] at h <;>
    simp only [Datum.sum] at h <;> first
    | exact ⟨ha, hb⟩
    | exact absurd h not_fin_qn
    | exact absurd h (not_fin_inf _)
    | (split at h <;> first | exact absurd h not_fin_qn | exact absurd h (not_fin_inf _))
theorem fin_of_sub {a b : Nat} (h : fin (fb .sub a b)) : fin a ∧ fin b := by
  unfold fb floatBits at h
  have hd : FloatKind.f64.format = double := rfl
  simp only [hd] at h
  unfold Format.sub at h
  rcases datum_cases a with ⟨ha, s, m, e, hra⟩ | ⟨s, hra⟩ | ⟨ha, s, f, hra⟩ <;> rcases datum_cases b with ⟨hb, t, n, g, hrb⟩ | ⟨t, hrb⟩ | ⟨hb, t, g, hrb⟩ <;> rw [hra, hrb] at h <;>
    simp only [Datum.opposite, Datum.sum] at h <;> first
    | exact ⟨ha, hb⟩
    | exact absurd h not_fin_qn
    | exact absurd h (not_fin_inf _)
    | (split at h <;> first | exact absurd h not_fin_qn | exact absurd h (not_fin_inf _))
theorem fin_of_mul {a b : Nat} (h : fin (fb .mul a b)) : fin a ∧ fin b := by
  unfold fb floatBits at h
  have hd : FloatKind.f64.format = double := rfl
  simp only [hd] at h
  unfold Format.mul at h
  rcases datum_cases a with ⟨ha, s, m, e, hra⟩ | ⟨s, hra⟩ | ⟨ha, s, f, hra⟩ <;> rcases datum_cases b with ⟨hb, t, n, g, hrb⟩ | ⟨t, hrb⟩ | ⟨hb, t, g, hrb⟩ <;> rw [hra, hrb] at h <;>
    simp only [Datum.product] at h <;> first
    | exact ⟨ha, hb⟩
    | exact absurd h not_fin_qn
    | exact absurd h (not_fin_inf _)
    | (split at h <;> first | exact absurd h not_fin_qn | exact absurd h (not_fin_inf _))
theorem fin_of_quo {a b : Nat} (h : fin (fb .quo a b)) : fin a := by
  unfold fb floatBits at h
  have hd : FloatKind.f64.format = double := rfl
  simp only [hd] at h
  unfold Format.div at h
  rcases datum_cases a with ⟨ha, s, m, e, hra⟩ | ⟨s, hra⟩ | ⟨ha, s, f, hra⟩
  · exact ha
  · rcases datum_cases b with ⟨hb, t, n, g, hrb⟩ | ⟨t, hrb⟩ | ⟨hb, t, g, hrb⟩ <;> rw [hra, hrb] at h <;>
      simp only [Datum.quotient] at h <;> first
      | exact absurd h not_fin_qn
      | exact absurd h (not_fin_inf _)
  · rw [hra] at h
    have : (Datum.nan s f).quotient (double.fractionBits + 2) (double.read b) = none := by cases double.read b <;> rfl
    rw [this] at h
    exact absurd h not_fin_qn
end Go.Wk

/-! ### WkEr2 -/
namespace Go.Wk
open Go Ieee

/-! ### how far a sum, a product, a quotient is -/
theorem fval_sg (x : Nat) : fval x = sg (sgn x) * ((magR (rung x) : Rat) * ulp (-1074 + (shR (rung x) : Int))) := by
  rw [← fval_parts]
  unfold sg ulp
  rw [Rat.intCast_natCast]
  grind

theorem roundZ_err {s0 : Bool} {z : Int} (hf : fin (roundZ s0 z)) : (fval (roundZ s0 z) - (z : Rat) * ulp (-1074)).abs ≤ ulp (-53) * (fval (roundZ s0 z)).abs := by
  unfold roundZ at hf ⊢
  have h := near_err hf
  rw [if_pos (Int.le_refl _), Rat.add_zero] at h
  have e : sg (if z = 0 then s0 else decide (z < 0)) * ((z.natAbs : Rat) * ulp (-1074)) = (z : Rat) * ulp (-1074) := by
    by_cases hz : z = 0
    · subst hz
      have : ((Int.natAbs 0 : Nat) : Rat) = 0 := rfl
      rw [this]
      have h0 : ((0 : Int) : Rat) = 0 := rfl
      rw [h0]; grind
    · rw [if_neg hz]
      by_cases hn : z < 0
      · rw [decide_eq_true hn]
        have : (z : Rat) = -((z.natAbs : Nat) : Rat) := by
          rw [← Rat.intCast_natCast, ← Rat.intCast_neg]; congr 1; omega
        rw [this]; unfold sg; grind
      · rw [decide_eq_false hn]
        have : (z : Rat) = ((z.natAbs : Nat) : Rat) := by
          rw [← Rat.intCast_natCast]; congr 1; omega
        rw [this]; unfold sg; grind
  rw [e] at h
  exact h

theorem add_err {a b : Nat} (hf : fin (fb .add a b)) : (fval (fb .add a b) - (fval a + fval b)).abs ≤ ulp (-53) * (fval (fb .add a b)).abs := by
  obtain ⟨ha, hb⟩ := fin_of_add hf
  have h := add_fin ha hb
  rw [fb_some h] at hf ⊢
  have := roundZ_err hf
  rw [Rat.intCast_add] at this
  unfold fval ulp at *
  rw [Rat.add_mul] at this
  exact this
theorem sub_err {a b : Nat} (hf : fin (fb .sub a b)) : (fval (fb .sub a b) - (fval a - fval b)).abs ≤ ulp (-53) * (fval (fb .sub a b)).abs := by
  obtain ⟨ha, hb⟩ := fin_of_sub hf
  have h := sub_fin ha hb
  rw [fb_some h] at hf ⊢
  have := roundZ_err hf
  rw [Rat.intCast_sub] at this
  unfold fval ulp at *
  have e : ((wth a : Rat) - (wth b : Rat)) * 2 ^ (-1074 : Int) = (wth a : Rat) * 2 ^ (-1074 : Int) - (wth b : Rat) * 2 ^ (-1074 : Int) := by grind
  rw [e] at this
  exact this

theorem eta_le (p : Int) : (if -1074 ≤ p then (0 : Rat) else ulp (-1075)) ≤ ulp (-1075) := by
  split
  · exact Rat.le_of_lt (ulp_pos _)
  · exact Rat.le_refl

theorem mul_err {a b : Nat} (hf : fin (fb .mul a b)) : (fval (fb .mul a b) - fval a * fval b).abs ≤ ulp (-53) * (fval (fb .mul a b)).abs + ulp (-1075) := by
  obtain ⟨ha, hb⟩ := fin_of_mul hf
  have h := mul_fin ha hb
  rw [fb_some h] at hf ⊢
  have h1 := near_err hf
  have h2 := eta_le (-1074 + (shR (rung a) : Int) + (-1074 + (shR (rung b) : Int)))
  have e : sg (sgn a ^^ sgn b) * (((magR (rung a) * magR (rung b) : Nat) : Rat) * ulp (-1074 + (shR (rung a) : Int) + (-1074 + (shR (rung b) : Int)))) = fval a * fval b := by
    rw [fval_sg a, fval_sg b, sg_xor, Rat.natCast_mul, ulp_add]
    grind
  rw [e] at h1
  grind

theorem fval_zero {x : Nat} (h : magR (rung x) = 0) : fval x = 0 := by
  rw [fval_sg, h]
  have : ((0 : Nat) : Rat) = 0 := rfl
  rw [this]; grind
theorem magR_zero {r : Nat} : magR r = 0 ↔ r = 0 := by
  unfold magR; split <;> omega
theorem fval_ne {x : Nat} (h : rung x ≠ 0) : fval x ≠ 0 := by
  rw [fval_sg]
  have h1 : 0 < magR (rung x) := Nat.pos_of_ne_zero fun h' => h (magR_zero.1 h')
  have h2 : (0 : Rat) < (magR (rung x) : Rat) := Rat.natCast_pos.2 h1
  have h3 := Rat.mul_pos h2 (ulp_pos (-1074 + (shR (rung x) : Int)))
  intro h4
  cases hs : sgn x <;> rw [hs] at h4 <;> unfold sg at h4 <;> grind

/-- The quotient of two finite ones. -/
theorem quo_fin {a b : Nat} (ha : fin a) (hb : fin b) (hb0 : rung b ≠ 0) : floatBits .quo .f64 a b =
    some (double.nearest (sgn a ^^ sgn b) (2 * (magR (rung a) <<< (54 + (magR (rung b)).log2 - (magR (rung a)).log2) / magR (rung b)) + (magR (rung a) <<< (54 + (magR (rung b)).log2 - (magR (rung a)).log2) % magR (rung b) != 0).toNat)
      ((-1074 + (shR (rung a) : Int)) - (-1074 + (shR (rung b) : Int)) - ((54 + (magR (rung b)).log2 - (magR (rung a)).log2 : Nat) : Int) - 1)) := by
  show double.div a b = _
  unfold Format.div
  rw [read_fin ha, read_fin hb]
  have hn : ¬ magR (rung b) = 0 := fun h => hb0 (magR_zero.1 h)
  simp only [Datum.quotient, if_neg hn]
  rfl

theorem magR_lt (r : Nat) : magR r < 9007199254740992 := by
  unfold magR; split <;> omega

theorem quo_err {a b : Nat} (hf : fin (fb .quo a b)) (hb : fin b) (hb0 : rung b ≠ 0) :
    (fval (fb .quo a b) - fval a / fval b).abs ≤ ulp (-53) * (fval (fb .quo a b)).abs + (3/4 : Rat) * (ulp (-53) * (fval a / fval b).abs) + ulp (-1075) := by
  have ha := fin_of_quo hf
  have h := quo_fin ha hb hb0
  rw [fb_some h] at hf ⊢
  have h1 := near_err hf
  revert h1 hf
  have hml := magR_lt (rung a)
  have hnl := magR_lt (rung b)
  have hn0 : magR (rung b) ≠ 0 := fun h => hb0 (magR_zero.1 h)
  generalize hm : magR (rung a) = m at *
  generalize hn : magR (rung b) = n at *
  generalize hmo : 54 + n.log2 - m.log2 = more
  generalize hpl : (-1074 + (shR (rung a) : Int)) - (-1074 + (shR (rung b) : Int)) - (more : Int) - 1 = pl
  generalize hM : 2 * (m <<< more / n) + (m <<< more % n != 0).toNat = M
  intro hf h1
  have h2 := eta_le pl
  -- the quotient itself
  have hn1 : (0 : Rat) < (n : Rat) := Rat.natCast_pos.2 (Nat.pos_of_ne_zero hn0)
  have hub := ulp_pos (-1074 + (shR (rung b) : Int))
  have hq : fval a / fval b = sg (sgn a ^^ sgn b) * ((m : Rat) / (n : Rat) * ulp (pl + 1 + more)) := by
    have hbn := fval_ne hb0
    have e1 : ulp (pl + 1 + more) * ulp (-1074 + (shR (rung b) : Int)) = ulp (-1074 + (shR (rung a) : Int)) := by
      rw [← ulp_add]; congr 1; omega
    have e2 : fval a = sg (sgn a ^^ sgn b) * ((m : Rat) / (n : Rat) * ulp (pl + 1 + more)) * fval b := by
      rw [fval_sg a, fval_sg b, hm, hn, ← e1, sg_xor]
      have hs : sg (sgn b) * sg (sgn b) = 1 := by cases sgn b <;> decide +kernel
      have hd : (m : Rat) / (n : Rat) * (n : Rat) = (m : Rat) := Rat.div_mul_cancel (Rat.ne_of_gt hn1)
      generalize (m : Rat) / (n : Rat) = d at *
      rw [← hd]
      generalize sg (sgn b) = sb at *
      generalize ulp (pl + 1 + ↑more) = x at *
      generalize ulp (-1074 + (shR (rung b) : Int)) = y at *
      generalize sg (sgn a) = sa at *
      generalize (n : Rat) = z at *
      have : sa * (d * z * (x * y)) = sa * (d * z * (x * y)) * (sb * sb) := by rw [hs, Rat.mul_one]
      grind
    rw [e2]
    exact Rat.mul_div_cancel hbn
  -- the digits
  have hdm := Nat.div_add_mod (m <<< more) n
  have hlt := Nat.mod_lt (m <<< more) (Nat.pos_of_ne_zero hn0)
  have hd2 : (m : Rat) / (n : Rat) * (n : Rat) = (m : Rat) := Rat.div_mul_cancel (Rat.ne_of_gt hn1)
  have hsh : ((m <<< more : Nat) : Rat) = (m : Rat) * ulp more := by
    rw [Nat.shiftLeft_eq, Rat.natCast_mul, ← ulp_nat]
  have hb1 : (m <<< more % n != 0).toNat ≤ 1 := by cases (m <<< more % n != 0) <;> decide
  have near1 : (M : Rat) ≤ 2 * ((m : Rat) / (n : Rat) * ulp more) + 1 ∧ 2 * ((m : Rat) / (n : Rat) * ulp more) ≤ (M : Rat) + 1 := by
    have hN1 : M * n ≤ 2 * (m <<< more) + n := by
      rw [← hM]
      generalize m <<< more / n = q at *
      by_cases hr : m <<< more % n = 0
      · rw [hr] at hdm ⊢
        have : (0 != 0 : Bool).toNat = 0 := rfl
        rw [this, Nat.add_zero, ← hdm, Nat.add_zero, Nat.mul_assoc, Nat.mul_comm q n]
        omega
      · have : (m <<< more % n != 0).toNat = 1 := by rw [bne_iff_ne.2 hr]; rfl
        rw [this, Nat.add_mul, Nat.mul_assoc, Nat.mul_comm q n, Nat.one_mul]
        omega
    have hN2 : 2 * (m <<< more) ≤ M * n + n := by
      rw [← hM]
      generalize m <<< more / n = q at *
      by_cases hr : m <<< more % n = 0
      · rw [hr] at hdm ⊢
        have : (0 != 0 : Bool).toNat = 0 := rfl
        rw [this, Nat.add_zero, ← hdm, Nat.add_zero, Nat.mul_assoc, Nat.mul_comm q n]
        omega
      · have : (m <<< more % n != 0).toNat = 1 := by rw [bne_iff_ne.2 hr]; rfl
        rw [this, Nat.add_mul, Nat.mul_assoc, Nat.mul_comm q n, Nat.one_mul]
        omega
    have hR1 := natR_le hN1
    have hR2 := natR_le hN2
    simp only [Rat.natCast_add, Rat.natCast_mul, hsh] at hR1 hR2
    have e : ((2 : Nat) : Rat) = 2 := rfl
    rw [e] at hR1 hR2
    constructor
    · refine Rat.le_of_mul_le_mul_right (c := (n : Rat)) ?_ hn1
      have : (2 * ((m : Rat) / (n : Rat) * ulp more) + 1) * (n : Rat) = 2 * ((m : Rat) / (n : Rat) * (n : Rat) * ulp more) + n := by grind
      rw [this, hd2]; exact hR1
    · refine Rat.le_of_mul_le_mul_right (c := (n : Rat)) ?_ hn1
      have : (2 * ((m : Rat) / (n : Rat) * ulp more)) * (n : Rat) = 2 * ((m : Rat) / (n : Rat) * (n : Rat) * ulp more) := by grind
      rw [this, hd2]
      have : ((M : Rat) + 1) * (n : Rat) = (M : Rat) * n + n := by grind
      rw [this]; exact hR2
  generalize hQ : (m : Rat) / (n : Rat) * ulp more = Q at *
  have hQe : (m : Rat) / (n : Rat) * ulp (pl + 1 + more) = 2 * Q * ulp pl := by
    have e7 : (2 : Rat) = ulp 1 := (Rat.zpow_one _).symm
    rw [← hQ, show pl + 1 + (more : Int) = (more : Int) + (1 + pl) by omega, ulp_add, ulp_add, ← e7]
    grind
  rw [hQe] at hq
  have hQ0 : 0 ≤ Q := by
    rw [← hQ]
    have : 0 ≤ (m : Rat) / (n : Rat) := by
      rw [Rat.div_def]; exact Rat.mul_nonneg (natR_nonneg _) (Rat.le_of_lt (Rat.inv_pos.2 hn1))
    exact Rat.mul_nonneg this (Rat.le_of_lt (ulp_pos _))
  have hup := ulp_pos pl
  by_cases hm0 : m = 0
  · -- nought
    have hM0 : M = 0 := by rw [← hM, hm0, Nat.zero_shiftLeft, Nat.zero_div, Nat.zero_mod]; rfl
    have hQ1 : Q = 0 := by
      rw [← hQ, hm0]
      have : ((0 : Nat) : Rat) = 0 := rfl
      rw [this, Rat.div_def]; grind
    have hq1 : fval a / fval b = 0 := by rw [hq, hQ1]; grind
    have hM1 : sg (sgn a ^^ sgn b) * ((M : Rat) * ulp pl) = 0 := by
      rw [hM0]
      have : ((0 : Nat) : Rat) = 0 := rfl
      rw [this]; grind
    rw [hM1] at h1
    rw [hq1, Rat.abs_zero]
    grind
  · -- more than 53 digits
    have hlarge : (9007199254740992 : Rat) ≤ Q := by
      have hl1 := Nat.log2_self_le hm0
      have hl2 := log2_lt n
      have hlm : m.log2 ≤ 52 := by
        have a : m.log2 < 53 := (Nat.log2_lt hm0).2 (by simpa using hml)
        omega
      have h3 : 9007199254740992 * n ≤ m * 2 ^ more := by
        calc 9007199254740992 * n ≤ 9007199254740992 * 2 ^ (n.log2 + 1) := Nat.mul_le_mul_left _ (Nat.le_of_lt hl2)
          _ = 2 ^ (53 + (n.log2 + 1)) := by rw [Nat.pow_add 2 53 (n.log2 + 1)]
          _ = 2 ^ (m.log2 + more) := by congr 1; omega
          _ = 2 ^ m.log2 * 2 ^ more := by rw [Nat.pow_add]
          _ ≤ m * 2 ^ more := Nat.mul_le_mul_right _ hl1
      have h4 := natR_le h3
      rw [Rat.natCast_mul, Rat.natCast_mul, ← ulp_nat] at h4
      refine Rat.le_of_mul_le_mul_right (c := (n : Rat)) ?_ hn1
      have : Q * (n : Rat) = (m : Rat) / (n : Rat) * (n : Rat) * ulp more := by rw [← hQ]; grind
      rw [this, hd2]; exact h4
    have e53 : ulp (-53) * 9007199254740992 = 1 := by
      have : (9007199254740992 : Rat) = ulp 53 := (ulp_nat 53).symm
      rw [this, ← ulp_add]; exact ulp_zero
    have hu53 := ulp_pos (-53)
    have hstep : ulp pl ≤ ulp (-53) * (Q * ulp pl) := by
      have h5 := Rat.mul_le_mul_of_nonneg_left hlarge (Rat.le_of_lt hu53)
      rw [e53] at h5
      have h6 := Rat.mul_le_mul_of_nonneg_right h5 (Rat.le_of_lt hup)
      rw [Rat.one_mul] at h6
      grind
    -- together
    have hqa : (fval a / fval b).abs = 2 * Q * ulp pl := by
      rw [hq, sg_abs, Rat.abs_of_nonneg]
      exact Rat.mul_nonneg (by grind) (Rat.le_of_lt hup)
    have hdiff : (sg (sgn a ^^ sgn b) * ((M : Rat) * ulp pl) - fval a / fval b).abs ≤ ulp pl := by
      have : sg (sgn a ^^ sgn b) * ((M : Rat) * ulp pl) - fval a / fval b = sg (sgn a ^^ sgn b) * (((M : Rat) - 2 * Q) * ulp pl) := by rw [hq]; grind
      rw [this, sg_abs]
      have g1 := Rat.mul_le_mul_of_nonneg_right near1.1 (Rat.le_of_lt hup)
      have g2 := Rat.mul_le_mul_of_nonneg_right near1.2 (Rat.le_of_lt hup)
      exact abs_le (by grind) (by grind)
    have htri := abs_add (fval (double.nearest (sgn a ^^ sgn b) M pl) - sg (sgn a ^^ sgn b) * ((M : Rat) * ulp pl)) (sg (sgn a ^^ sgn b) * ((M : Rat) * ulp pl) - fval a / fval b)
    have e9 : fval (double.nearest (sgn a ^^ sgn b) M pl) - sg (sgn a ^^ sgn b) * ((M : Rat) * ulp pl) + (sg (sgn a ^^ sgn b) * ((M : Rat) * ulp pl) - fval a / fval b) = fval (double.nearest (sgn a ^^ sgn b) M pl) - fval a / fval b := by grind
    rw [e9] at htri
    rw [hqa]
    have hpos : 0 ≤ ulp (-53) * (Q * ulp pl) := Rat.mul_nonneg (Rat.le_of_lt hu53) (Rat.mul_nonneg hQ0 (Rat.le_of_lt hup))
    have e10 : (3/4 : Rat) * (ulp (-53) * (2 * Q * ulp pl)) = (3/2 : Rat) * (ulp (-53) * (Q * ulp pl)) := by grind
    rw [e10]
    grind
end Go.Wk

/-! ### WkUse -/
namespace Go.Wk
open Go Go.RowKit Ieee

/-! ### branches -/
theorem br_d {c : Prop} [Decidable c] {x y : Prop} (ht : c → x) (hf : ¬ c → y) : br (decide c) x y :=
  br_intro (fun h => ht (of_decide_eq_true h)) (fun h => hf (of_decide_eq_false h))
theorem br_e {a b : Int} {x y : Prop} (ht : a = b → x) (hf : a ≠ b → y) : br (a == b) x y :=
  br_intro (fun h => ht (by simpa using h)) (fun h => hf (by simpa using h))
theorem br_ne {a b : Int} {x y : Prop} (ht : a ≠ b → x) (hf : a = b → y) : br (a != b) x y :=
  br_intro (fun h => ht (by simpa using h)) (fun h => hf (by simpa using h))
theorem br_n {b : Bool} {x y : Prop} (hf : b = false → x) (ht : b = true → y) : br (!b) x y :=
  br_intro (fun h => hf (by simpa using h)) (fun h => ht (by simpa using h))
theorem eq_false' {a b : Int} {x y : Prop} (h : a ≠ b) (hy : y) : br (a == b) x y := br_false (beq_eq_false_iff_ne.2 h) hy
theorem eq_true' {a b : Int} {x y : Prop} (h : a = b) (hx : x) : br (a == b) x y := br_true (beq_iff_eq.2 h) hx

theorem Ext.size {w w' : World} (h : Ext w w') : w.heap.size ≤ w'.heap.size := Below.size h

/-! ### tables and rows within lists -/
/-- A matrix as a value. -/
abbrev matV (p : Option Addr) (n c : Nat) (off rows cols ld : Int) : Value := .agg ⟨[.slice p n c, .int .i64 off, .int .i64 rows, .int .i64 cols, .int .i64 ld]⟩
/-- A vector as a value. -/
abbrev vecV (p : Option Addr) (n c : Nat) (off len inc : Int) : Value := .agg ⟨[.slice p n c, .int .i64 off, .int .i64 len, .int .i64 inc]⟩

/-- An int of 64 bits. -/
def I64 (x : Int) : Prop := -9223372036854775808 ≤ x ∧ x < 9223372036854775808
theorem I64.lo {x : Int} (h : I64 x) : -9223372036854775808 ≤ x := h.1
theorem I64.hi {x : Int} (h : I64 x) : x < 9223372036854775808 := h.2
theorem I64.wrap {x : Int} (h : I64 x) : IntKind.i64.wrap x = x := wrap_i64 h.1 h.2

def GoodM (n : Nat) (off rows cols ld : Int) : Prop := 0 ≤ rows ∧ 0 ≤ cols ∧ 0 ≤ off ∧ 1 ≤ ld ∧ rows ≤ ld ∧ (rows = 0 ∨ cols = 0 ∨ off + (cols - 1) * ld + rows ≤ n)
instance (n : Nat) (off rows cols ld : Int) : Decidable (GoodM n off rows cols ld) := inferInstanceAs (Decidable (_ ∧ _))
def goodB (n : Nat) (off rows cols ld : Int) : Bool := decide (GoodM n off rows cols ld)
def RightV (n : Nat) (off len inc : Int) : Prop := 0 ≤ len ∧ 1 ≤ inc ∧ 0 ≤ off ∧ (len = 0 ∨ off + (len - 1) * inc < n)
instance (n : Nat) (off len inc : Int) : Decidable (RightV n off len inc) := inferInstanceAs (Decidable (_ ∧ _))
def rightB (n : Nat) (off len inc : Int) : Bool := decide (RightV n off len inc)

theorem good_no {n : Nat} {off rows cols ld : Int} (h : ¬ GoodM n off rows cols ld) : goodB n off rows cols ld = false := decide_eq_false h
theorem good_yes {n : Nat} {off rows cols ld : Int} (h : GoodM n off rows cols ld) : goodB n off rows cols ld = true := decide_eq_true h

/-- The place of a number lies within the list. -/
theorem place_lt {n : Nat} {off rows cols ld i j : Int} (h : GoodM n off rows cols ld) (hi0 : 0 ≤ i) (hi : i < rows) (hj0 : 0 ≤ j) (hj : j < cols) :
    0 ≤ off + i + j * ld ∧ off + i + j * ld < n ∧ 0 ≤ j * ld ∧ j * ld ≤ (cols - 1) * ld ∧ (cols - 1) * ld < n := by
  obtain ⟨h1, h2, h3, h4, h5, h6⟩ := h
  have a1 : 0 ≤ j * ld := Int.mul_nonneg hj0 (by omega)
  have a2 : j * ld ≤ (cols - 1) * ld := Int.mul_le_mul_of_nonneg_right (by omega) (by omega)
  refine ⟨by omega, by omega, a1, a2, by omega⟩

/-- The word for "at most so many steps". -/
theorem ediv_steps {steps step left : Int} (h : 1 ≤ step) : steps ≤ left / step ↔ steps * step ≤ left := Int.le_ediv_iff_mul_le (by omega)

/-- A list of floats, and where it is. -/
structure Flw (w : World) (p : Option Addr) (xs : List Nat) : Prop where
  at_ : ∀ i x, xs[i]? = some x → ∃ a, p = some a ∧ w.cell? (a.add i) = some (.float .f64 x)
  bits : ∀ x ∈ xs, x < 18446744073709551616
theorem Flw.ext {w w' : World} {p : Option Addr} {xs : List Nat} (h : Flw w p xs) (e : Ext w w') : Flw w' p xs :=
  ⟨fun i x hx => let ⟨a, ha, hc⟩ := h.at_ i x hx; ⟨a, ha, e.cell_of hc⟩, h.bits⟩
theorem Flw.fls {w : World} {p : Option Addr} {xs : List Nat} (h : Flw w p xs) : Fls w p xs.length xs := ⟨rfl, h.at_⟩
theorem Flw.get {w : World} {p : Option Addr} {xs : List Nat} (h : Flw w p xs) {i : Nat} (hi : i < xs.length) :
    ∃ a, p = some a ∧ w.cell? (a.add i) = some (.float .f64 (xs.getD i 0)) ∧ xs.getD i 0 < 18446744073709551616 := by
  obtain ⟨a, ha, hc⟩ := h.at_ i xs[i] (by simp [hi])
  have e : xs.getD i 0 = xs[i] := by simp [List.getD, hi]
  rw [e]
  exact ⟨a, ha, hc, h.bits _ (List.getElem_mem hi)⟩
/-- A list of floats that may be written. -/
def FRow (w : World) (q : Addr) (xs : List Nat) : Prop := Row w q (xs.map fun x => .float .f64 x) ∧ ∀ x ∈ xs, x < 18446744073709551616
theorem FRow.flw {w : World} {q : Addr} {xs : List Nat} (h : FRow w q xs) : Flw w (some q) xs :=
  ⟨fun i x hx => ⟨q, rfl, h.1.get i (by simp [hx])⟩, h.2⟩
theorem FRow.ext {w w' : World} {q : Addr} {xs : List Nat} (h : FRow w q xs) (e : Ext w w') : FRow w' q xs := ⟨h.1.ext e, h.2⟩
theorem FRow.exc {w w' : World} {q : Addr} {xs : List Nat} {k : Nat} (h : FRow w q xs) (e : Exc k w w') (hk : q.block ≠ k) : FRow w' q xs := ⟨Row.exc e h.1 hk, h.2⟩

/-- Another list's numbers. -/
theorem Flw.exc {w w' : World} {p : Option Addr} {xs : List Nat} {k : Nat} (h : Flw w p xs) (e : Exc k w w') (hk : ∀ a, p = some a → a.block ≠ k) : Flw w' p xs :=
  ⟨fun i x hx => let ⟨a, ha, hc⟩ := h.at_ i x hx; ⟨a, ha, e.cell (by rw [add_block]; exact hk a ha) hc⟩, h.bits⟩
end Go.Wk

/-! ### WkPost -/
namespace Go.Wk
open Go Go.RowKit Go.ChangeShapes Go.WideShapes

theorem trodAll_carry {H : Type} {enc : TypeId × Value → H} {P : Program} (hl : laidOutB P = true) {W W' : World} (he : Ext W W') :
    ∀ {ts : List TypeId} {vs : List Value} {ds : List (DataW H)} {ps : List MemPlace}, (ts.all fun t => P.readableRec t && decide (t < P.types.size)) = true →
      DataW.TrodAll enc P W 0 (fun _ => true) true ts vs ds ps → (∀ x ∈ ps, x.block < W.heap.size) →
      DataW.TrodAll enc P W' 0 (fun b => decide (b < W.heap.size)) true ts vs ds ps
  | [], _, _, _, _, h, _ => by
    obtain ⟨rfl, rfl, rfl⟩ := trodAll_nil h
    exact rfl
  | t :: ts, _, _, _, hr, h, hlt => by
    obtain ⟨v, vs, d, ds, p, q, rfl, rfl, rfl, h1, h2⟩ := trodAll_cons h
    simp only [List.all_cons, Bool.and_eq_true, decide_eq_true_eq] at hr
    refine ⟨p, q, ?_, ?_, rfl⟩
    · exact Below.trod hl hr.1.1 hr.1.2 h1 he (fun x hx => hlt x (List.mem_append_left _ hx))
    · exact trodAll_carry hl he (by simpa using hr.2) h2 (fun x hx => hlt x (List.mem_append_right _ hx))

/-- A law's end: true, and what came in reads as it did. -/
theorem law_post {H : Type} {enc : TypeId × Value → H} {P : Program} {f : Func} {s : ChangeSpec} {apart : Bool} {W W' : World} {args : Array Value} {ds : List (DataW H)} {before : List MemPlace}
    (hl : laidOutB P = true) (hv : s.vars = []) (hr : (f.params.toList.all fun t => P.readableRec t && decide (t < P.types.size)) = true)
    (hW : DataW.Whole enc P f.params.toList s.vars apart W args.toList ds [] before) (he : Ext W W') {tb : TypeId} (hrt : f.resultTypes = #[tb]) (hb : P.underlying tb = some .bool)
    (hfn : s.fn H (ds ++ []) = { results := [.lit (.bool true)], args := ds }) :
    s.post enc P f apart true false false W args (.bool true) W' := by
  have hlt := hW.lt
  have hW' := hW
  obtain ⟨p, q, hA, hV, rfl, _, _⟩ := hW'
  rw [hv] at hV
  obtain ⟨_, rfl⟩ := trodVars_none hV
  refine ⟨ds, [], p ++ [], [], p, [], hW, ?_, ?_, ?_, Below.frame he _, fun h => by cases h⟩
  · rw [hfn, hrt]
    exact trodAll_mk1 (shut_bool hb true)
  · rw [hfn]
    exact trodAll_carry hl he hr hA (fun x hx => hlt x (by simpa using hx))
  · rw [hfn, hv]
    rfl

/-- From the way in which calls are spoken of here to the kit's. -/
theorem calls_of_callF {P : Program} {f : FuncId} {args : List Value} {w : World} {k : Value → World → Prop}
    (hf : (callFunc f ⟨args⟩).run P w = .ok (.enter f ⟨args⟩) w) (h : CallF P f args w k) : Calls P f ⟨args⟩ w fun e W' => ∃ v, e = .returned v ∧ k v W' := by
  unfold CallF at h
  rw [hf] at h
  refine Calls.mono (show Calls P f ⟨args⟩ w (Ret k) from h) fun e W' he => ?_
  cases e <;> first | exact ⟨_, rfl, he⟩ | exact False.elim he
end Go.Wk

/-! ### WkOpen -/
namespace Go.Wk
open Go Go.RowKit Go.ChangeShapes Go.WideShapes Go.Deep

section
variable {H : Type} {enc : TypeId × Value → H} {P : Program} {w : World} {base : Nat} {spare : Nat → Bool} {held : Bool}

/-- A struct of one-cell fields, opened: its cells, what each of them reads as. -/
theorem open_agg {r : Reach} {b0 : Nat} {t : TypeId} {fs : Array Field} {v : Value} {d : DataW H} {p : List MemPlace} (hs : P.underlying t = some (.struct fs)) (hone : oneCellFields P fs = true) (hC : P.cellsOf t = fs.size)
    (hv : Value.okWide P w r b0 t v) (h : DataW.Trod enc P w base spare held t v d p) :
    ∃ (cs : List Value) (ys : List (DataW H × List MemPlace)) (n : Nat), v = .agg ⟨cs⟩ ∧ cs.length = fs.size ∧ ys.length = fs.size ∧ d = .agg (ys.map (·.1)) ∧
      ∀ (i : Nat) (f : Field), fs[i]? = some f → ∃ c y, cs[i]? = some c ∧ ys[i]? = some y ∧ DataW.trod enc P w base spare held n f.type [c] = some y := by
  obtain ⟨⟨cs⟩, rfl, hsz⟩ := okWide_struct hs hv
  obtain ⟨fuel, hf⟩ := h
  obtain ⟨ys, n, _, hx, _, hlen, hel⟩ := DataW.trod_struct hs hf
  have hcs : cs.length = fs.size := by simpa using hsz.trans hC
  simp only [Prod.mk.injEq] at hx
  refine ⟨cs, ys, n, rfl, hcs, by simpa using hlen, hx.1, fun i f hi => ?_⟩
  have hlt : i < fs.size := (Array.getElem?_eq_some_iff.1 hi).1
  obtain ⟨o, k⟩ := hone_of hone i f hi
  have hc : cs[i]? = some cs[i] := by simp
  have hy : ys[i]? = some (ys[i]'(by have : ys.length = fs.size := by simpa using hlen
                                     omega)) := by simp
  refine ⟨_, _, hc, hy, ?_⟩
  have := hel i f (by simpa using hi)
  rw [hy, o, k] at this
  have e : (cs.drop i).take 1 = [cs[i]] := by
    rw [List.drop_eq_getElem_cons (by omega), List.take_succ_cons, List.take_zero]
  rw [← e]
  simpa [Value.cells] using this

theorem trod_float {fuel : Nat} {t : TypeId} {k : FloatKind} {c : Value} {x : DataW H × List MemPlace} (ht : P.underlying t = some (.float k)) (h : DataW.trod enc P w base spare held fuel t [c] = some x) :
    ∃ b, c = .float k b ∧ x = (.lit (.float k b), []) ∧ (Lit.float k b).wf = true := by
  cases fuel with
  | zero => simp [DataW.trod] at h
  | succ n =>
    cases c <;> simp [DataW.trod, ht] at h
    case float k' b =>
      obtain ⟨⟨rfl, hw⟩, rfl⟩ := h
      exact ⟨b, rfl, rfl, hw⟩

theorem trod_int {fuel : Nat} {t : TypeId} {k : IntKind} {c : Value} {x : DataW H × List MemPlace} (ht : P.underlying t = some (.int k)) (h : DataW.trod enc P w base spare held fuel t [c] = some x) :
    ∃ z, c = .int k z ∧ x = (.lit (.int k z), []) ∧ (Lit.int k z).wf = true := by
  obtain ⟨z, h1, h2, h3⟩ := DataW.trod_int ht h
  simp only [List.cons.injEq, and_true] at h1
  exact ⟨z, h1, h2, h3⟩

theorem wf_I64 {z : Int} (h : (Lit.int .i64 z).wf = true) : I64 z := by
  simp only [Lit.wf, IntKind.min, IntKind.max, IntKind.signed, IntKind.bits, Bool.and_eq_true, decide_eq_true_eq, if_true] at h
  unfold I64
  omega

/-- A list of floats, opened: its numbers; what it weighs. -/
theorem open_floats {fuel : Nat} {t e : TypeId} {c : Value} {x : DataW H × List MemPlace} (ht : P.underlying t = some (.slice e)) (he : P.underlying e = some (.float .f64)) (hc : P.cellsOf e = 1) (hb : P.bytesOf e = 8)
    (h : DataW.trod enc P w base spare held fuel t [c] = some x) :
    ∃ (p : Option Addr) (cap : Nat) (xs : List Nat), c = .slice p xs.length cap ∧ Flw w p xs ∧ (xs ≠ [] → ∃ r, x.1.weights P t = (xs.length + r) * 8 :: (x.1.weights P t).tail) := by
  rcases open_slice1 ht hc h with ⟨h1, rfl⟩ | ⟨a, len, cap, m, n, V, D, Pl, h1, _, hlc, _, hm, rfl, hel⟩
  · simp only [List.cons.injEq, and_true] at h1
    subst h1
    exact ⟨none, 0, [], rfl, ⟨fun i x hx => by simp at hx, fun x hx => by simp at hx⟩, fun h => absurd rfl h⟩
  · simp only [List.cons.injEq, and_true] at h1
    subst h1
    have hlm : len ≤ m := by subst hm; split <;> omega
    have hfl : ∀ i, i < m → ∃ b, V i = .float .f64 b ∧ b < 18446744073709551616 := fun i hi => by
      obtain ⟨b, h2, _, h4⟩ := trod_float he (hel i hi).2
      exact ⟨b, h2, by simpa [Lit.wf] using h4⟩
    obtain ⟨f, hf⟩ := choose_lt (α := Nat) (p := fun i b => V i = .float .f64 b ∧ b < 18446744073709551616) hfl
    refine ⟨some a, cap, (List.range len).map f, by simp, ⟨fun i x hx => ?_, fun x hx => ?_⟩, fun _ => ⟨m - len, ?_⟩⟩
    · simp only [List.getElem?_map, Option.map_eq_some_iff] at hx
      obtain ⟨j, hj, rfl⟩ := hx
      have hj' := List.getElem?_eq_some_iff.1 hj
      obtain ⟨hi, hji⟩ := hj'
      simp at hi hji
      subst hji
      refine ⟨a, rfl, ?_⟩
      rw [(hel i (by omega)).1, (hf i (by omega)).1]
    · simp only [List.mem_map, List.mem_range] at hx
      obtain ⟨i, hi, rfl⟩ := hx
      exact (hf i (by omega)).2
    · simp [DataW.weights, ht, hb]

theorem len_le {H : Type} {d : DataW H} {t : TypeId} {n : Nat} {r : Nat} (h : (d.weights P t).all (· ≤ reachBytes) = true) (e : d.weights P t = (n + r) * 8 :: (d.weights P t).tail) : n < 17592186044416 := by
  rw [e, List.all_cons, Bool.and_eq_true, decide_eq_true_eq] at h
  have := h.1
  unfold reachBytes at this
  omega
end

/-- A matrix of numbers, opened. -/
theorem open_mat {H : Type} {enc : TypeId × Value → H} {P : Program} {w : World} {base : Nat} {spare : Nat → Bool} {held : Bool} {r : Reach} {b0 : Nat} {t ts tf ti : TypeId} {fs : Array Field} {v : Value} {d : DataW H} {p : List MemPlace}
    (hs : P.underlying t = some (.struct fs)) (hfs : fs.toList.map (·.type) = [ts, ti, ti, ti, ti]) (hone : oneCellFields P fs = true) (hC : P.cellsOf t = fs.size)
    (h1 : P.underlying ts = some (.slice tf)) (h2 : P.underlying tf = some (.float .f64)) (h3 : P.underlying ti = some (.int .i64)) (hc : P.cellsOf tf = 1) (hb : P.bytesOf tf = 8)
    (hv : Value.okWide P w r b0 t v) (h : DataW.Trod enc P w base spare held t v d p) (hw : (d.weights P t).all (· ≤ reachBytes) = true) :
    ∃ (q : Option Addr) (cap : Nat) (off rows cols ld : Int) (xs : List Nat), v = matV q xs.length cap off rows cols ld ∧ Flw w q xs ∧ xs.length < 17592186044416 ∧ I64 off ∧ I64 rows ∧ I64 cols ∧ I64 ld := by
  have h5 : fs.size = 5 := by simpa using congrArg List.length hfs
  obtain ⟨cs, ys, n, rfl, hcl, hyl, rfl, hel⟩ := open_agg hs hone hC hv h
  match cs, ys, hcl.trans h5, hyl.trans h5 with
  | [c0, c1, c2, c3, c4], [y0, y1, y2, y3, y4], _, _ =>
    have get : ∀ i, i < 5 → ∃ f, fs[i]? = some f ∧ [ts, ti, ti, ti, ti][i]? = some f.type := fun i hi => by
      have hlt : i < fs.size := by omega
      refine ⟨fs[i], by simp [hlt], ?_⟩
      rw [← hfs]
      simp [hlt]
    obtain ⟨f0, g0, k0⟩ := get 0 (by omega)
    obtain ⟨f1, g1, k1⟩ := get 1 (by omega)
    obtain ⟨f2, g2, k2⟩ := get 2 (by omega)
    obtain ⟨f3, g3, k3⟩ := get 3 (by omega)
    obtain ⟨f4, g4, k4⟩ := get 4 (by omega)
    obtain ⟨_, _, e0, a0, t0⟩ := hel 0 f0 g0
    obtain ⟨_, _, e1, a1, t1⟩ := hel 1 f1 g1
    obtain ⟨_, _, e2, a2, t2⟩ := hel 2 f2 g2
    obtain ⟨_, _, e3, a3, t3⟩ := hel 3 f3 g3
    obtain ⟨_, _, e4, a4, t4⟩ := hel 4 f4 g4
    cases e0; cases e1; cases e2; cases e3; cases e4
    cases a0; cases a1; cases a2; cases a3; cases a4
    have k0 := Option.some.inj k0
    have k1 := Option.some.inj k1
    have k2 := Option.some.inj k2
    have k3 := Option.some.inj k3
    have k4 := Option.some.inj k4
    rw [← k0] at t0
    rw [← k1] at t1
    rw [← k2] at t2
    rw [← k3] at t3
    rw [← k4] at t4
    obtain ⟨q, cap, xs, rfl, hfl, hwt⟩ := open_floats h1 h2 hc hb t0
    obtain ⟨off, rfl, _, w1⟩ := trod_int h3 t1
    obtain ⟨rows, rfl, _, w2⟩ := trod_int h3 t2
    obtain ⟨cols, rfl, _, w3⟩ := trod_int h3 t3
    obtain ⟨ld, rfl, _, w4⟩ := trod_int h3 t4
    refine ⟨q, cap, off, rows, cols, ld, xs, rfl, hfl, ?_, wf_I64 w1, wf_I64 w2, wf_I64 w3, wf_I64 w4⟩
    by_cases hx : xs = []
    · subst hx; simp
    obtain ⟨r', e⟩ := hwt hx
    refine len_le (r := r') ?_ e
    simp only [DataW.weights, hs, hfs, List.map_cons, DataW.weightsEach, List.all_append, Bool.and_eq_true] at hw
    exact hw.1
end Go.Wk

/-! ### WkFb -/
namespace Go.Wk
open Go Go.RowKit Ieee

/-! ### chains of worlds -/
theorem Exc.ext_r {k : Nat} {a b c : World} (h : Exc k a b) (e : Ext b c) : Exc k a c := h.trans (e.exc k)
theorem Exc.ext_l {k : Nat} {a b c : World} (e : Ext a b) (h : Exc k b c) : Exc k a c := (e.exc k).trans h
/-- What is written since lies in a new block. -/
theorem Exc.fresh {k k' : Nat} {a b c : World} (h : Exc k a b) (g : Exc k' b c) (hk : a.heap.size ≤ k') : Exc k a c :=
  ⟨g.os.trans h.os, g.tape.trans h.tape, g.output.trans h.output, Nat.le_trans h.size g.size, fun j hj hn => (g.block j (Nat.lt_of_lt_of_le hj h.size) (by omega)).trans (h.block j hj hn)⟩
theorem Exc.to_ext {k : Nat} {a b : World} (h : Exc k a b) (hk : a.heap.size ≤ k) : Ext a b := h.ext (Ext.refl a) hk

theorem Exc.keep1 {k k1 : Nat} {w w' : World} (e : Exc k w w') (h1 : k1 < w.heap.size) (n1 : k1 ≠ k) : Keep [k1] w w' := e.keep (by simp; exact ⟨h1, n1⟩)
theorem Exc.keep2 {k k1 k2 : Nat} {w w' : World} (e : Exc k w w') (h1 : k1 < w.heap.size) (n1 : k1 ≠ k) (h2 : k2 < w.heap.size) (n2 : k2 ≠ k) : Keep [k1, k2] w w' :=
  e.keep (by simp; exact ⟨⟨h1, n1⟩, h2, n2⟩)
theorem Exc.keep3 {k k1 k2 k3 : Nat} {w w' : World} (e : Exc k w w') (h1 : k1 < w.heap.size) (n1 : k1 ≠ k) (h2 : k2 < w.heap.size) (n2 : k2 ≠ k) (h3 : k3 < w.heap.size) (n3 : k3 ≠ k) : Keep [k1, k2, k3] w w' :=
  e.keep (by simp; exact ⟨⟨h1, n1⟩, ⟨h2, n2⟩, h3, n3⟩)
theorem Exc.keep4 {k k1 k2 k3 k4 : Nat} {w w' : World} (e : Exc k w w') (h1 : k1 < w.heap.size) (n1 : k1 ≠ k) (h2 : k2 < w.heap.size) (n2 : k2 ≠ k) (h3 : k3 < w.heap.size) (n3 : k3 ≠ k) (h4 : k4 < w.heap.size) (n4 : k4 ≠ k) :
    Keep [k1, k2, k3, k4] w w' := e.keep (by simp; exact ⟨⟨h1, n1⟩, ⟨h2, n2⟩, ⟨h3, n3⟩, h4, n4⟩)

/-! ### a block of cells -/
theorem Addr.eq_of {q : Addr} (h0 : q.off = 0) (hs : q.spot = none) : q = ⟨q.block, 0, none⟩ := by cases q; simp_all
theorem add_flat (g i : Nat) : (⟨g, 0, none⟩ : Addr).add i = ⟨g, i, none⟩ := by unfold Addr.add; split <;> simp_all

/-- The block of 'q' holds the cells 'cs', which may all be written. -/
structure Blk (w : World) (q : Addr) (cs : List Value) : Prop where
  heap : ∃ t, w.heap[q.block]? = some (.cells ⟨cs⟩ t (0, 0))
  off : q.off = 0
  spot : q.spot = none

theorem Blk.lt {w : World} {q : Addr} {cs : List Value} (h : Blk w q cs) : q.block < w.heap.size := by
  obtain ⟨t, ht⟩ := h.heap
  exact (Array.getElem?_eq_some_iff.1 ht).1
theorem Blk.row {w : World} {q : Addr} {cs : List Value} (h : Blk w q cs) : Row w q cs := by
  obtain ⟨t, ht⟩ := h.heap
  have hq := Addr.eq_of h.off h.spot
  refine ⟨fun j v hv => ?_, fun j hj => ?_, h.lt, h.spot⟩
  · rw [hq, add_flat]; simp [World.cell?, ht, hv]
  · rw [hq, add_flat]; simp [World.frozen?, ht]
theorem Blk.ext {w w' : World} {q : Addr} {cs : List Value} (h : Blk w q cs) (e : Ext w w') : Blk w' q cs :=
  ⟨let ⟨t, ht⟩ := h.heap; ⟨t, by rw [e.block _ h.lt]; exact ht⟩, h.off, h.spot⟩
theorem Blk.exc {w w' : World} {q : Addr} {cs : List Value} {k : Nat} (h : Blk w q cs) (e : Exc k w w') (hk : q.block ≠ k) : Blk w' q cs :=
  ⟨let ⟨t, ht⟩ := h.heap; ⟨t, by rw [e.block _ h.lt hk]; exact ht⟩, h.off, h.spot⟩
theorem Blk.set {w : World} {q : Addr} {cs : List Value} (h : Blk w q cs) (i : Nat) (v : Value) : Blk (w.setCell (q.add i) v) q (cs.set i v) := by
  obtain ⟨t, ht⟩ := h.heap
  refine ⟨⟨t, ?_⟩, h.off, h.spot⟩
  have hq := Addr.eq_of h.off h.spot
  rw [hq, add_flat, setCell_eq_setRow w q.block i ⟨cs⟩ t (0, 0) v ht]
  have := setRow_heap w q.block ⟨cs⟩ ((⟨cs⟩ : Array Value).setIfInBounds i v) t (0, 0) ht
  simpa using this

theorem newB_blk {cs : List Value} {ty : TypeId} {w : World} {k : Addr → World → Prop}
    (h : ∀ q w', q.block = w.heap.size → q.block < w'.heap.size → Ext w w' → Blk w' q cs → k q w') : newB cs ty w k := by
  refine newB_intro fun q w' hq h0 he hr hs hh => ?_
  exact h q w' hq (by omega) he ⟨⟨ty, hh⟩, h0, hr.spot⟩

/-- One cell is written. -/
theorem Blk.put {w : World} {q : Addr} {cs : List Value} {i : Nat} {v : Value} {k : World → Prop} (h : Blk w q cs) (hi : i < cs.length) (hv : v.oneCell' = true)
    (hk : ∀ w', Exc q.block w w' → w'.heap.size = w.heap.size → Blk w' q (cs.set i v) → k w') : stPT (q.add i) 0 [v] w k := by
  have hr := h.row
  unfold stPT stPT
  rw [hv]
  have hx : cs[i]? = some cs[i] := by simp [hi]
  refine ⟨by rw [add_zero, hr.get i hx]; rfl, by rw [add_zero]; exact hr.free i hi, ?_⟩
  rw [add_zero]
  refine hk _ ?_ (by simp [World.setCell]) (h.set i v)
  have := Exc.set w (q.add i) v
  rwa [add_block] at this

/-- A block of floats. -/
structure FBlk (w : World) (q : Addr) (xs : List Nat) : Prop where
  blk : Blk w q (xs.map fun x => .float .f64 x)
  bits : ∀ x ∈ xs, x < 18446744073709551616
theorem FBlk.lt {w : World} {q : Addr} {xs : List Nat} (h : FBlk w q xs) : q.block < w.heap.size := h.blk.lt
theorem FBlk.flw {w : World} {q : Addr} {xs : List Nat} (h : FBlk w q xs) : Flw w (some q) xs :=
  ⟨fun i x hx => ⟨q, rfl, h.blk.row.get i (by simp [hx])⟩, h.bits⟩
theorem FBlk.ext {w w' : World} {q : Addr} {xs : List Nat} (h : FBlk w q xs) (e : Ext w w') : FBlk w' q xs := ⟨h.blk.ext e, h.bits⟩
theorem FBlk.exc {w w' : World} {q : Addr} {xs : List Nat} {k : Nat} (h : FBlk w q xs) (e : Exc k w w') (hk : q.block ≠ k) : FBlk w' q xs := ⟨h.blk.exc e hk, h.bits⟩
theorem FBlk.put {w : World} {q : Addr} {xs : List Nat} {i x : Nat} {k : World → Prop} (h : FBlk w q xs) (hi : i < xs.length) (hx : x < 18446744073709551616)
    (hk : ∀ w', Exc q.block w w' → w'.heap.size = w.heap.size → FBlk w' q (xs.set i x) → k w') : stPT (q.add i) 0 [.float .f64 x] w k := by
  refine h.blk.put (by simpa using hi) rfl fun w' e hs hb => hk w' e hs ⟨?_, fun y hy => ?_⟩
  · rwa [List.map_set]
  · rcases List.mem_or_eq_of_mem_set hy with h' | h'
    · exact h.bits y h'
    · rw [h']; exact hx

/-! ### whether two addresses are one -/
/-- The block is one of plain cells, none of which is frozen. -/
def Plain (w : World) (a : Addr) : Prop := ∃ ca ta, w.heap[a.block]? = some (.cells ca ta (0, 0))
theorem Plain.ext {w w' : World} {a : Addr} (h : Plain w a) (e : Ext w w') : Plain w' a := by
  obtain ⟨ca, ta, h⟩ := h
  exact ⟨ca, ta, by rw [e.block _ (Array.getElem?_eq_some_iff.1 h).1]; exact h⟩
theorem Plain.exc {w w' : World} {a : Addr} {k : Nat} (h : Plain w a) (e : Exc k w w') (hk : a.block ≠ k) : Plain w' a := by
  obtain ⟨ca, ta, h⟩ := h
  exact ⟨ca, ta, by rw [e.block _ (Array.getElem?_eq_some_iff.1 h).1 hk]; exact h⟩
theorem Blk.plain {w : World} {q : Addr} {cs : List Value} (h : Blk w q cs) : Plain w q := let ⟨t, ht⟩ := h.heap; ⟨_, t, ht⟩
theorem Plain.add {w : World} {a : Addr} (h : Plain w a) (n : Nat) : Plain w (a.add n) := by
  unfold Plain; rw [add_block]; exact h
theorem Own.plain {w : World} {base : Nat} {e : TypeId} {a : Addr} {n c : Nat} {xs : List Value} (h : Own w base e (some a) n c xs) : Plain w a := by
  rcases h.2 with ⟨h1, _⟩ | ⟨g, cap, cur, hv, hb, hg, _⟩
  · cases h1
  · cases hv; exact ⟨_, _, hg⟩

theorem ptr_eq {P : Program} {ty e : TypeId} {s : Nat} {x y : Operand} {a b : Addr} {w : World} {k : Value → World → Prop}
    (hp : P.underlying ty = some (.pointer e)) (hs : szOf P e = some s) (h0 : s ≠ 0) (ha : Plain w a) (hb : Plain w b) (h : k (.bool (decide (a = b))) w) :
    Raw P (do eqGuard .eql ty x y (.pointer (some a)) (.pointer (some b)); binOp .eql ty (.pointer (some a)) (.pointer (some b))) w k := by
  have hsame : (sameAddr a b).run P w = .ok (decide (a = b)) w := by
    by_cases hab : a = b
    · subst hab; rw [decide_eq_true rfl]; exact run_sameAddr_same w a
    · obtain ⟨ca, ta, h1⟩ := ha
      obtain ⟨cb, tb, h2⟩ := hb
      rw [decide_eq_false hab]
      exact run_sameAddr_other w hab h1 h2
  have heq' : ∀ d, (Op.equalIn (d + 1) ty (.pointer (some a)) (.pointer (some b))).run P w = .ok (decide (a = b)) w := by
    intro d
    simp [Op.equalIn, run_underlying hp, run_sizeOf' hs, h0, hsame]
  have heq : (Op.equal ty (.pointer (some a)) (.pointer (some b))).run P w = .ok (decide (a = b)) w := heq' 9999
  have hg : eqGuard .eql ty x y (.pointer (some a)) (.pointer (some b)) = pure () := eqGuard_at_pointer ..
  have hrun : (binOp .eql ty (.pointer (some a)) (.pointer (some b))).run P w = .ok (.bool (decide (a = b))) w := by
    simp only [binOp]
    simp [heq]
  unfold Raw
  rw [hg]
  simp only [Sem.run_bind, Sem.run_pure, Result.andThen_ok, hrun]
  exact h
end Go.Wk

/-! ### WkOwn -/
namespace Go.Wk
open Go Go.RowKit Ieee

/-! ### slices that grow -/
/-- All is as it was but for the block of 'p'. -/
structure GrowP (p : Option Addr) (w w' : World) : Prop where
  os : w'.os = w.os
  tape : w'.tape = w.tape
  output : w'.output = w.output
  size : w.heap.size ≤ w'.heap.size
  block : ∀ j, j < w.heap.size → (∀ a, p = some a → a.block ≠ j) → w'.heap[j]? = w.heap[j]?

theorem GrowP.ext {p : Option Addr} {w0 w w' : World} (g : GrowP p w w') (e : Ext w0 w) (h : Fr w0.heap.size p) : Ext w0 w' :=
  ⟨g.os.trans e.os, g.tape.trans e.tape, g.output.trans e.output, Nat.le_trans e.size g.size, fun j hj => (g.block j (Nat.lt_of_lt_of_le hj e.size) (fun a ha => by have := h a ha; omega)).trans (e.block j hj)⟩
theorem GrowP.exc {p : Option Addr} {w0 w w' : World} {k : Nat} (g : GrowP p w w') (e : Exc k w0 w) (h : Fr w0.heap.size p) : Exc k w0 w' :=
  ⟨g.os.trans e.os, g.tape.trans e.tape, g.output.trans e.output, Nat.le_trans e.size g.size, fun j hj hn => (g.block j (Nat.lt_of_lt_of_le hj e.size) (fun a ha => by have := h a ha; omega)).trans (e.block j hj hn)⟩
theorem GrowP.heap {p : Option Addr} {w w' : World} (g : GrowP p w w') {j : Nat} (hj : j < w.heap.size) (h : ∀ a, p = some a → a.block ≠ j) : w'.heap[j]? = w.heap[j]? := g.block j hj h
theorem GrowP.fblk {p : Option Addr} {w w' : World} (g : GrowP p w w') {q : Addr} {xs : List Nat} (hb : FBlk w q xs) (h : ∀ a, p = some a → a.block ≠ q.block) : FBlk w' q xs :=
  ⟨⟨let ⟨t, ht⟩ := hb.blk.heap; ⟨t, by rw [g.block _ hb.lt h]; exact ht⟩, hb.blk.off, hb.blk.spot⟩, hb.bits⟩
theorem GrowP.row {p : Option Addr} {w w' : World} (g : GrowP p w w') {q : Addr} {cs : List Value} (hb : Row w q cs) (h : ∀ a, p = some a → a.block ≠ q.block) : Row w' q cs :=
  hb.kept g.size (g.block _ hb.lt h)

theorem app_x {P : Program} {t tb e : TypeId} {w : World} {p : Option Addr} {n c base : Nat} {xs : List Value} {u : Value} {R : Option Addr → Nat → Nat → World → Prop} {ks : List Nat} {i : TypeInfo} {z : Value} {bytes : Nat}
    (ht : P.underlying t = some (.slice e)) (hi : P.info? e = some i) (hz : i.zero = some z) (hsize : i.size = 1) (hby : i.bytes = bytes) (hzs : z.cells.size = 1)
    (hown : Own w base e p n c xs) (hbase : base ≤ w.heap.size) (hu : u.oneCell' = true) (hbytes : (n + 1) * bytes ≤ 140737488355328) (hn : n < 4611686018427387904)
    (hks : ∀ k ∈ ks, k < w.heap.size ∧ ∀ a, p = some a → a.block ≠ k)
    (h : ∀ p' c' w', GrowP p w w' → Own w' base e p' (n + 1) c' (xs ++ [u]) → (∀ a, p' = some a → (∃ b, p = some b ∧ a.block = b.block) ∨ w.heap.size ≤ a.block) → R p' (n + 1) c' w') :
    newB [u] tb w fun q w2 => Raw P (Builtin.append_ #[t, t] t ⟨[.slice p n c, .slice (some q) 1 1]⟩) w2 fun v w3 => Stay ks w2 w3 ∧ ∃ (a : Option Addr) (m d : Nat), v = .slice a m d ∧ R a m d w3 := by
  refine newB_intro fun q w2 hq _ hext hrow hsz _ => ?_
  have hown2 := hown.ext hext
  obtain ⟨v', w', hrun, hown', hgr, _, hwhere⟩ := run_append_own_at (P := P) w2 base t t e i z 1 bytes ht hi hz hsize hby hzs (by decide) (.slice p n c) n xs hown2 q 1 1 [u] rfl
    (fun j v hj => hrow.get j hj) (by simpa using hu) (by simp only [maxLen]; omega) hbytes (by omega)
  unfold Raw
  rw [hrun]
  have hv : ∃ p' c', v' = .slice p' (n + 1) c' := by
    rcases hown'.2 with ⟨h1, h2⟩ | ⟨g, cap, cur, hv, _⟩
    · omega
    · exact ⟨_, _, hv⟩
  obtain ⟨p', c', rfl⟩ := hv
  have hblk : ∀ j, j < w2.heap.size → (∀ a, p = some a → a.block ≠ j) → w'.heap[j]? = w2.heap[j]? := by
    intro j hj hne
    refine hgr.block j hj fun e => ?_
    cases hp : p with
    | none => rw [hp] at e; cases e
    | some a => rw [hp] at e; cases e; exact hne a hp rfl
  refine ⟨.inr ⟨hgr.size, fun k hk => hblk k (by have := (hks k hk).1; omega) (hks k hk).2⟩, p', n + 1, c', rfl, ?_⟩
  refine h p' c' w' ⟨hgr.os.trans hext.os, hgr.tape.trans hext.tape, hgr.output.trans hext.output, Nat.le_trans hext.size hgr.size, fun j hj hne => ?_⟩ hown' fun a ha => ?_
  · rw [hblk j (by omega) hne, hext.block j hj]
  · subst ha
    rcases hwhere with hw | hw
    · cases hp : p with
      | none => rw [hp] at hw; cases hw
      | some b =>
        rw [hp] at hw
        left
        exact ⟨b, rfl, by simpa [Value.ownBlock] using hw⟩
    · right
      have : a.block = w2.heap.size := by simpa [Value.ownBlock] using hw
      omega

theorem map_add0 (p : Option Addr) : p.map (·.add (0 * 1)) = p := by cases p <;> rfl
theorem add0_if (c : Nat) (p : Option Addr) : (if c = 0 then p else p.map (·.add (0 * 1))) = p := by
  split
  · rfl
  · exact map_add0 p
theorem tmodN (a b : Nat) : Int.tmod (a : Int) (b : Int) = ((a % b : Nat) : Int) := (Int.ofNat_tmod a b).symm
theorem tdivN (a b : Nat) : Int.tdiv (a : Int) (b : Int) = ((a / b : Nat) : Int) := (Int.ofNat_tdiv a b).symm

/-- The numbers of a table, column by column. -/
def numsL (f : Nat → Nat → Nat) (rows t : Nat) : List Nat := (List.range t).map fun s => f (s % rows) (s / rows)
theorem numsL_succ (f : Nat → Nat → Nat) (rows t : Nat) : numsL f rows (t + 1) = numsL f rows t ++ [f (t % rows) (t / rows)] := by
  unfold numsL; rw [List.range_succ, List.map_append]; rfl
theorem numsL_length (f : Nat → Nat → Nat) (rows t : Nat) : (numsL f rows t).length = t := by unfold numsL; simp
theorem numsL_get {f : Nat → Nat → Nat} {rows i j cols : Nat} (hi : i < rows) (hj : j < cols) : (numsL f rows (rows * cols)).getD (i + j * rows) 0 = f i j := by
  have h1 : i + j * rows < rows * cols := by
    have : (j + 1) * rows ≤ cols * rows := Nat.mul_le_mul_right _ hj
    rw [Nat.mul_comm cols rows, Nat.add_mul] at this
    omega
  have h2 : (i + j * rows) % rows = i := by rw [Nat.add_mul_mod_self_right, Nat.mod_eq_of_lt hi]
  have h3 : (i + j * rows) / rows = j := by rw [Nat.add_mul_div_right _ _ (by omega), Nat.div_eq_of_lt hi, Nat.zero_add]
  unfold numsL
  simp [List.getD, h1, h2, h3]
theorem numsL_step (f : Nat → Nat → Nat) {rows i j : Nat} (hi : i < rows) : numsL f rows (j * rows + i + 1) = numsL f rows (j * rows + i) ++ [f i j] := by
  rw [numsL_succ]
  have h2 : (j * rows + i) % rows = i := by rw [Nat.add_comm, Nat.add_mul_mod_self_right, Nat.mod_eq_of_lt hi]
  have h3 : (j * rows + i) / rows = j := by rw [Nat.add_comm, Nat.add_mul_div_right _ _ (by omega), Nat.div_eq_of_lt hi, Nat.zero_add]
  rw [h2, h3]

/-- The number of row i and column j of a list of columns. -/
def mx (n : Nat) (xs : List Nat) (i j : Nat) : Nat := xs.getD (i + j * n) 0
theorem mx_inj {n i j i' j' : Nat} (hi : i < n) (hi' : i' < n) (h : i + j * n = i' + j' * n) : i = i' ∧ j = j' := by
  have h1 : (i + j * n) % n = (i' + j' * n) % n := by rw [h]
  rw [Nat.add_mul_mod_self_right, Nat.add_mul_mod_self_right, Nat.mod_eq_of_lt hi, Nat.mod_eq_of_lt hi'] at h1
  subst h1
  have : j * n = j' * n := by omega
  exact ⟨rfl, Nat.eq_of_mul_eq_mul_right (by omega) this⟩
theorem mx_lt {n m i j : Nat} (hi : i < n) (hj : j < m) : i + j * n < n * m := by
  have : (j + 1) * n ≤ m * n := Nat.mul_le_mul_right _ hj
  rw [Nat.mul_comm m n, Nat.add_mul] at this
  omega
theorem mx_set {n m : Nat} {xs : List Nat} (hl : xs.length = n * m) {i0 j0 x i j : Nat} (hi0 : i0 < n) (hj0 : j0 < m) (hi : i < n) :
    mx n (xs.set (i0 + j0 * n) x) i j = if i = i0 ∧ j = j0 then x else mx n xs i j := by
  unfold mx
  have hlt := mx_lt hi0 hj0
  by_cases h : i = i0 ∧ j = j0
  · rw [if_pos h, h.1, h.2]
    simp [List.getD, hl, hlt]
  · rw [if_neg h]
    have : i0 + j0 * n ≠ i + j * n := fun e => h (by
      have := mx_inj hi0 hi e
      exact ⟨this.1.symm, this.2.symm⟩)
    simp [List.getD, List.getElem?_set_ne this]
end Go.Wk

/-! ### WkCopy -/
namespace Go.Wk
open Go Go.RowKit Ieee

/-- One list's numbers put into another's place. -/
theorem copy_x {P : Program} {t e ty : TypeId} {w : World} {q : Addr} {p : Option Addr} {n c c' : Nat} {xs ys : List Nat} {k : Value → World → Prop}
    (ht : P.underlying t = some (.slice e)) (hs : szOf P e = some 1) (hb : FBlk w q xs) (hx : xs.length = n) (hy : Flw w p ys) (hyl : ys.length = n)
    (h : ∀ w', Exc q.block w w' → w'.heap.size = w.heap.size → FBlk w' q ys → k (.int .i64 (n : Int)) w') :
    Raw P (Builtin.copy_ #[t, t] ty ⟨[.slice (some q) n c, .slice p n c']⟩) w k := by
  have hsz : (P.info? e).map (·.size) = some 1 := hs
  unfold Raw
  by_cases hn : n = 0
  · have hrun := run_copy_none (P := P) w t t ty e (some q) p n c n c' ht hsz (by rw [hn]; rfl)
    rw [hrun]
    have e1 : xs = [] := List.eq_nil_of_length_eq_zero (by omega)
    have e2 : ys = [] := List.eq_nil_of_length_eq_zero (by omega)
    subst hn
    refine h w (Exc.refl _ _) rfl ?_
    rw [e2, ← e1]; exact hb
  · obtain ⟨a, ha, _⟩ := hy.at_ 0 (ys.getD 0 0) (by rw [List.getD_eq_getElem?_getD, List.getElem?_eq_getElem (by omega)]; rfl)
    obtain ⟨tt, hg⟩ := hb.blk.heap
    have hq := Addr.eq_of hb.blk.off hb.blk.spot
    have hsrc : ∀ j v, (ys.map fun x => (.float .f64 x : Value))[j]? = some v → w.cell? (a.add j) = some v := by
      intro j v hv
      simp only [List.getElem?_map, Option.map_eq_some_iff] at hv
      obtain ⟨x, hx', rfl⟩ := hv
      obtain ⟨a', ha', hc⟩ := hy.at_ j x hx'
      rw [ha] at ha'
      cases ha'
      exact hc
    have hrun := run_copy_row (P := P) w t t ty e q.block 0 n c a n c' ⟨xs.map fun x => .float .f64 x⟩ tt (ys.map fun x => .float .f64 x) ht hsz hg (by simp [hyl]) hsrc (by simp [hx, hyl]) (by simp; intro a _; rfl)
    rw [← hq] at hrun
    subst ha
    rw [hrun]
    have hlen : ((ys.map fun x => (.float .f64 x : Value)).length) = n := by simp [hyl]
    rw [hlen]
    have hcs : ((⟨xs.map fun x => (.float .f64 x : Value)⟩ : Array Value).toList.take 0 ++ (ys.map fun x => (.float .f64 x : Value)) ++ (⟨xs.map fun x => (.float .f64 x : Value)⟩ : Array Value).toList.drop (0 + n)).toArray = ⟨ys.map fun x => (.float .f64 x : Value)⟩ := by
      simp [hx]
    rw [hcs]
    refine h _ ⟨rfl, rfl, rfl, by simp [World.setRow], fun j _ hj => ?_⟩ (by simp [World.setRow]) ⟨⟨⟨tt, setRow_heap w q.block _ _ tt (0, 0) hg⟩, hb.blk.off, hb.blk.spot⟩, hy.bits⟩
    unfold World.setRow
    simp only [Array.getElem?_modify]
    rw [if_neg (fun e => hj e.symm)]
end Go.Wk

/-! ### WkOwn2 -/
namespace Go.Wk
open Go Go.RowKit Ieee

theorem Own.kept {w w' : World} {base : Nat} {e : TypeId} {p : Option Addr} {n c : Nat} {xs : List Value} (h : Own w base e p n c xs) (hb : ∀ a, p = some a → w'.heap[a.block]? = w.heap[a.block]?) : Own w' base e p n c xs := by
  refine ⟨h.1, ?_⟩
  rcases h.2 with h1 | ⟨g, cap, cur, hv, hbb, hg, r⟩
  · exact .inl h1
  · refine .inr ⟨g, cap, cur, hv, hbb, ?_, r⟩
    rw [hb ⟨g, 0, none⟩ (by cases hv; rfl)]
    exact hg
theorem Own.lt {w : World} {base : Nat} {e : TypeId} {p : Option Addr} {n c : Nat} {xs : List Value} (h : Own w base e p n c xs) {a : Addr} (ha : p = some a) : base ≤ a.block ∧ a.block < w.heap.size := by
  subst ha
  exact World.ownsRow.lt h a.block rfl
theorem Own.exc {w w' : World} {base k : Nat} {e : TypeId} {p : Option Addr} {n c : Nat} {xs : List Value} (h : Own w base e p n c xs) (ee : Exc k w w') (hk : ∀ a, p = some a → a.block ≠ k) : Own w' base e p n c xs :=
  h.kept fun a ha => ee.block _ (h.lt ha).2 (hk a ha)
theorem Own.exc_lt {w w' : World} {base k : Nat} {e : TypeId} {p : Option Addr} {n c : Nat} {xs : List Value} (h : Own w base e p n c xs) (ee : Exc k w w') (hk : k < base) : Own w' base e p n c xs :=
  h.exc ee fun a ha => by have := (h.lt ha).1; omega
theorem Own.grow {w w' : World} {base : Nat} {e : TypeId} {p p' : Option Addr} {n c : Nat} {xs : List Value} (h : Own w base e p n c xs) (g : GrowP p' w w') (hk : ∀ a b, p = some a → p' = some b → b.block ≠ a.block) : Own w' base e p n c xs :=
  h.kept fun a ha => g.block _ (h.lt ha).2 (fun b hb => hk a b ha hb)
theorem Own.flw {w : World} {base : Nat} {e : TypeId} {p : Option Addr} {n c : Nat} {xs : List Nat} (h : Own w base e p n c (xs.map fun x => .float .f64 x)) (hb : ∀ x ∈ xs, x < 18446744073709551616) : Flw w p xs :=
  ⟨fun i x hx => h.cell i _ (by simp [hx]), hb⟩
theorem Own.some_of {w : World} {base : Nat} {e : TypeId} {p : Option Addr} {n c : Nat} {xs : List Value} (h : Own w base e p n c xs) (hn : n ≠ 0) : ∃ a, p = some a ∧ Plain w a ∧ base ≤ a.block := by
  cases p with
  | none =>
    rcases h.2 with ⟨_, h2⟩ | ⟨g, cap, cur, hv, _⟩
    · exact absurd h2 hn
    · cases hv
  | some a => exact ⟨a, rfl, h.plain, (h.lt rfl).1⟩

/-- A new empty slice. -/
theorem Own.empty {w : World} {base : Nat} {e : TypeId} {q : Addr} (hh : w.heap[q.block]? = some (.cells ⟨[]⟩ e (0, 0))) (h0 : q.off = 0) (hs : q.spot = none) (hb : base ≤ q.block) : Own w base e (some q) 0 0 [] := by
  have hq := Addr.eq_of h0 hs
  refine ⟨rfl, .inr ⟨q.block, 0, ⟨[]⟩, by rw [← hq], hb, hh, Nat.le_refl _, by simp [maxLen], rfl, rfl⟩⟩

theorem newB_heap {cs : List Value} {ty : TypeId} {w : World} {k : Addr → World → Prop}
    (h : ∀ q w', q.block = w.heap.size → w'.heap.size = w.heap.size + 1 → Ext w w' → q.off = 0 → q.spot = none → w'.heap[q.block]? = some (.cells ⟨cs⟩ ty (0, 0)) → k q w') : newB cs ty w k := by
  refine newB_intro fun q w' hq h0 he hr hs hh => h q w' hq hs he h0 hr.spot hh

/-- Values put behind a slice that the call has made. -/
theorem app_m {P : Program} {t e : TypeId} {w : World} {p : Option Addr} {n c m d base : Nat} {xs news : List Value} {a : Addr} {R : Option Addr → Nat → Nat → World → Prop} {ks : List Nat} {i : TypeInfo} {z : Value} {bytes : Nat}
    (ht : P.underlying t = some (.slice e)) (hi : P.info? e = some i) (hz : i.zero = some z) (hsize : i.size = 1) (hby : i.bytes = bytes) (hzs : z.cells.size = 1)
    (hown : Own w base e p n c xs) (hbase : base ≤ w.heap.size) (hl : news.length = m) (hnews : ∀ j u, news[j]? = some u → w.cell? (a.add j) = some u) (hu : ∀ u ∈ news, u.oneCell' = true)
    (hbytes : (n + m) * bytes ≤ 140737488355328) (hn : n + m < 4611686018427387904) (h0 : 0 < n + m)
    (hks : ∀ k ∈ ks, k < w.heap.size ∧ ∀ a, p = some a → a.block ≠ k)
    (h : ∀ p' c' w', GrowP p w w' → Own w' base e p' (n + m) c' (xs ++ news) → (∀ a, p' = some a → (∃ b, p = some b ∧ a.block = b.block) ∨ w.heap.size ≤ a.block) → R p' (n + m) c' w') :
    Raw P (Builtin.append_ #[t, t] t ⟨[.slice p n c, .slice (some a) m d]⟩) w fun v w3 => Stay ks w w3 ∧ ∃ (a : Option Addr) (m d : Nat), v = .slice a m d ∧ R a m d w3 := by
  obtain ⟨v', w', hrun, hown', hgr, _, hwhere⟩ := run_append_own_at (P := P) w base t t e i z 1 bytes ht hi hz hsize hby hzs (by decide) (.slice p n c) n xs hown a m d news (by omega) hnews hu
    (by simp only [maxLen]; omega) hbytes hbase
  unfold Raw
  rw [hrun]
  have hv : ∃ p' c', v' = .slice p' (n + m) c' := by
    rcases hown'.2 with ⟨h1, h2⟩ | ⟨g, cap, cur, hv, _⟩
    · omega
    · exact ⟨_, _, hv⟩
  obtain ⟨p', c', rfl⟩ := hv
  have hblk : ∀ j, j < w.heap.size → (∀ a, p = some a → a.block ≠ j) → w'.heap[j]? = w.heap[j]? := by
    intro j hj hne
    refine hgr.block j hj fun e => ?_
    cases hp : p with
    | none => rw [hp] at e; cases e
    | some a => rw [hp] at e; cases e; exact hne a hp rfl
  refine ⟨.inr ⟨hgr.size, fun k hk => hblk k (hks k hk).1 (hks k hk).2⟩, p', n + m, c', rfl, ?_⟩
  refine h p' c' w' ⟨hgr.os, hgr.tape, hgr.output, hgr.size, hblk⟩ hown' fun a ha => ?_
  subst ha
  rcases hwhere with hw | hw
  · cases hp : p with
    | none => rw [hp] at hw; cases hw
    | some b =>
      rw [hp] at hw
      left
      exact ⟨b, rfl, by simpa [Value.ownBlock] using hw⟩
  · right
    have : a.block = w.heap.size := by simpa [Value.ownBlock] using hw
    omega
end Go.Wk

/-! ### WkLu -/
namespace Go.Wk
open Go Ieee

/-! ### taking a matrix apart, as a relation on tables of words -/
def gtA (x y : Nat) : Bool := fgt .f64 (rung x) (rung y)
/-- The place of the greatest of the first n, without signs. -/
def mostF (f : Nat → Nat) : Nat → Nat
  | 0 => 0
  | n + 1 => if n = 0 then 0 else if gtA (f n) (f (mostF f n)) then n else mostF f n
theorem mostF_lt (f : Nat → Nat) : ∀ n, 0 < n → mostF f n < n
  | n + 1, _ => by
    unfold mostF
    split
    · omega
    · split
      · omega
      · have := mostF_lt f n (by omega); omega
/-- Rows i and k change places. -/
def swp (i k r : Nat) : Nat := if r = i then k else if r = k then i else r
abbrev negOne : Nat := 13830554455654793216
/-- One step: A is before, B behind it. -/
structure StepF (n k : Nat) (A : Nat → Nat → Nat) (p : Nat) (B : Nat → Nat → Nat) : Prop where
  piv : p = k + mostF (fun i => A (k + i) k) (n - k)
  lo : k ≤ p
  hi : p < n
  nz : fne .f64 (A (swp k p k) k) 0 = true
  keep : ∀ r c, r < n → c < n → ¬ (k < r ∧ k ≤ c) → B r c = A (swp k p r) c
  col : ∀ r, k < r → r < n → cn (B r k) = fb .quo (A (swp k p r) k) (A (swp k p k) k)
  rest : ∀ r c, k < r → r < n → k < c → c < n → cn (B r c) = fb .add (A (swp k p r) c) (fb .mul (fb .mul negOne (A (swp k p k) c)) (B r k))
/-- k steps. -/
def Fac (n : Nat) (A0 : Nat → Nat → Nat) : Nat → (Nat → Nat → Nat) → List Nat → Prop
  | 0, A, piv => (∀ r c, r < n → c < n → A r c = A0 r c) ∧ piv = []
  | k + 1, A, piv => ∃ A' piv' p, Fac n A0 k A' piv' ∧ piv = piv' ++ [p] ∧ StepF n k A' p A
theorem Fac.len {n : Nat} {A0 : Nat → Nat → Nat} : ∀ {k : Nat} {A : Nat → Nat → Nat} {piv : List Nat}, Fac n A0 k A piv → piv.length = k
  | 0, _, _, h => by rw [h.2]; rfl
  | k + 1, _, _, ⟨_, _, _, h, e, _⟩ => by rw [e, List.length_append, Fac.len h]; rfl
end Go.Wk

/-! ### WkPut -/
namespace Go.Wk
open Go Go.RowKit Ieee

/-- A cell of a slice that the call has made is written. -/
theorem Own.put {w : World} {base : Nat} {e : TypeId} {a : Addr} {n c : Nat} {xs : List Value} {i : Nat} {v : Value} {k : World → Prop} (h : Own w base e (some a) n c xs) (hi : i < n) (hv : v.oneCell' = true)
    (hk : ∀ w', Exc a.block w w' → w'.heap.size = w.heap.size → Own w' base e (some a) n c (xs.set i v) → k w') : stPT (a.add i) 0 [v] w k := by
  rcases h.2 with ⟨h1, _⟩ | ⟨g, cap, cur, hva, hb, hg, hnc, hcm, hcs, htake⟩
  · cases h1
  cases hva
  have hlen : i < cur.size := by omega
  unfold stPT stPT
  rw [hv, add_zero, add_flat]
  have hcell : w.cell? ⟨g, i, none⟩ = some cur[i] := by simp [World.cell?, hg, hlen]
  have hfro : w.frozen? ⟨g, i, none⟩ = false := by simp [World.frozen?, hg]
  refine ⟨by rw [hcell]; rfl, hfro, ?_⟩
  rw [setCell_eq_setRow w g i cur e (0, 0) v hg]
  refine hk _ ?_ (by simp [World.setRow]) ⟨by simpa using h.1, .inr ⟨g, c, cur.setIfInBounds i v, rfl, hb, setRow_heap w g cur _ e (0, 0) hg, hnc, hcm, by simpa using hcs, ?_⟩⟩
  · refine ⟨rfl, rfl, rfl, by simp [World.setRow], fun j _ hj => ?_⟩
    unfold World.setRow
    simp only [Array.getElem?_modify]
    rw [if_neg (fun e => hj e.symm)]
  · rw [Array.toList_setIfInBounds, List.take_set, htake]

/-- The greatest of numbers, and of another one. -/
def greatL (m : Nat) (xs : List Nat) : Nat := xs.foldl (fun m x => if fgt .f64 x m then x else m) m
theorem greatL_snoc (m : Nat) (xs : List Nat) (x : Nat) : greatL m (xs ++ [x]) = if fgt .f64 x (greatL m xs) then x else greatL m xs := by
  unfold greatL; rw [List.foldl_append]; rfl

/-- The rows' order. -/
def ordStep (out : List Nat) (k p : Nat) : List Nat := (out.set k (out.getD p 0)).set p (out.getD k 0)
def ordR (piv : List Nat) : Nat → List Nat
  | 0 => List.range piv.length
  | k + 1 => ordStep (ordR piv k) k (piv.getD k 0)
theorem ordR_length (piv : List Nat) : ∀ k, (ordR piv k).length = piv.length
  | 0 => by simp [ordR]
  | k + 1 => by simp [ordR, ordStep, ordR_length piv k]
def PivOk (piv : List Nat) : Prop := ∀ k, k < piv.length → k ≤ piv.getD k 0 ∧ piv.getD k 0 < piv.length
theorem ordR_lt {piv : List Nat} (h : PivOk piv) : ∀ k, k ≤ piv.length → ∀ i, i < piv.length → (ordR piv k).getD i 0 < piv.length
  | 0, _, i, hi => by simp [ordR, List.getD, hi]
  | k + 1, hk, i, hi => by
    have hp := h k (by omega)
    have ih := ordR_lt h k (by omega)
    have hl := ordR_length piv k
    unfold ordR ordStep
    rw [List.getD_eq_getElem?_getD, List.getElem?_set]
    split
    · split
      · simpa using ih k (by omega)
      · simp; omega
    · rw [List.getElem?_set]
      split
      · split
        · simpa using ih _ hp.2
        · simp; omega
      · rw [← List.getD_eq_getElem?_getD]; exact ih i hi
end Go.Wk
namespace Go.Wk
open Go Go.RowKit
theorem newB_raw {cs : List Value} {ty : TypeId} {P : Program} {w : World} {s : Addr → Sem Value} {A B : Addr → World → Value → World → Prop} (h : newB cs ty w fun q w2 => Raw P (s q) w2 fun v w3 => A q w2 v w3 ∧ B q w2 v w3) :
    newB cs ty w fun q w2 => Raw P (s q) w2 fun v w3 => B q w2 v w3 := by
  unfold newB at *
  exact h.mono fun v w h => h.2
end Go.Wk

/-! ### WkGreat -/
namespace Go.Wk
open Go Go.RowKit Ieee

/-! ### order and worth -/
theorem wth_le {x y : Nat} (h : key x ≤ key y) : wth x ≤ wth y := by
  have hc := cmp_val (sgn x) (sgn y) (rung x) (rung y)
  show (if sgn x then -(valR (rung x) : Int) else valR (rung x)) ≤ (if sgn y then -(valR (rung y) : Int) else valR (rung y))
  unfold key at h
  generalize (if sgn x then -(valR (rung x) : Int) else valR (rung x)) = a at *
  generalize (if sgn y then -(valR (rung y) : Int) else valR (rung y)) = b at *
  generalize (if sgn x then -(rung x : Int) else (rung x : Int)) = c at *
  generalize (if sgn y then -(rung y : Int) else (rung y : Int)) = d at *
  rcases Int.lt_or_le b a with h' | h'
  · exfalso
    have e1 : compare a b = .gt := by
      have h1 : ¬ a < b := by omega
      have h2 : ¬ a = b := by omega
      simp [compare, compareOfLessAndEq, h1, h2]
    rw [e1] at hc
    simp only [compare, compareOfLessAndEq] at hc
    split at hc
    · cases hc
    · split at hc
      · cases hc
      · omega
  · exact h'
theorem fval_le {x y : Nat} (h : key x ≤ key y) : fval x ≤ fval y := by
  unfold fval
  exact Rat.mul_le_mul_of_nonneg_right (Rat.intCast_le_intCast.2 (wth_le h)) (Rat.le_of_lt (ulp_pos (-1074)))

theorem sgn_rung (x : Nat) : sgn (rung x) = false := sgn_false_of (rung_lt x)
theorem rung_rung (x : Nat) : rung (rung x) = rung x := rung_of (rung_lt x)
theorem fin_rung {x : Nat} : fin (rung x) ↔ fin x := by unfold fin; rw [rung_rung]
theorem key_rung (x : Nat) : key (rung x) = rung x := by unfold key; rw [sgn_rung, rung_rung]; rfl
theorem fval_rung (x : Nat) : fval (rung x) = (fval x).abs := by
  have e : (0 : Rat) ≤ (valR (rung x) : Int) := by rw [Rat.intCast_natCast]; exact natR_nonneg _
  have hp := ulp_pos (-1074)
  unfold ulp at hp
  have hm := Rat.mul_nonneg e (Rat.le_of_lt hp)
  unfold fval wth
  rw [sgn_rung, rung_rung]
  simp only [Bool.false_eq_true, if_false]
  cases sgn x
  · simp only [Bool.false_eq_true, if_false]
    rw [Rat.abs_of_nonneg hm]
  · simp only [if_true]
    rw [Rat.intCast_neg, Rat.abs_of_nonpos (by grind)]
    grind

theorem greatL_spec : ∀ (xs : List Nat) (m : Nat), fin m → (∀ x ∈ xs, fin x) → fin (greatL m xs) ∧ key m ≤ key (greatL m xs) ∧ (∀ x ∈ xs, key x ≤ key (greatL m xs)) ∧ (greatL m xs = m ∨ greatL m xs ∈ xs)
  | [], m, hm, _ => ⟨hm, Int.le_refl _, (fun x hx => by simp at hx), .inl rfl⟩
  | y :: xs, m, hm, h => by
    have hy := h y (by simp)
    have e : greatL m (y :: xs) = greatL (if fgt .f64 y m then y else m) xs := rfl
    rw [e]
    have hstep : fin (if fgt .f64 y m then y else m) := by split <;> assumption
    obtain ⟨h1, h2, h3, h4⟩ := greatL_spec xs _ hstep fun x hx => h x (by simp [hx])
    have hk : key m ≤ key (if fgt .f64 y m then y else m) ∧ key y ≤ key (if fgt .f64 y m then y else m) := by
      rw [fgt_eq]
      have n1 := fin_not_nan hy
      have n2 := fin_not_nan hm
      by_cases c : key m < key y
      · simp [n1, n2, c]; omega
      · simp [n1, n2, c]; omega
    refine ⟨h1, Int.le_trans hk.1 h2, fun x hx => ?_, ?_⟩
    · rcases List.mem_cons.1 hx with rfl | hx
      · exact Int.le_trans hk.2 h2
      · exact h3 x hx
    · rcases h4 with h4 | h4
      · rw [h4]
        split
        · right; simp
        · left; rfl
      · right; simp [h4]

/-- A sum. -/
def sumTo (f : Nat → Rat) : Nat → Rat
  | 0 => 0
  | k + 1 => sumTo f k + f k

theorem DR.exc {w w' : World} {s : Bool} {p : Option Addr} {n : Nat} {e B : Int} {q : Rat} {k : Nat} (h : DR w s p n e B q) (ee : Exc k w w') (hk : ∀ a, p = some a → a.block < w.heap.size → a.block ≠ k) : DR w' s p n e B q := by
  obtain ⟨⟨l, h1, h2⟩, h3, h4⟩ := h
  refine ⟨⟨l, ⟨h1.len, fun i x hx => ?_⟩, h2⟩, h3, h4⟩
  obtain ⟨a, ha, hc⟩ := h1.at_ i x hx
  refine ⟨a, ha, ee.cell ?_ hc⟩
  rw [add_block]
  refine hk a ha ?_
  have := World.block_lt_of_cell? _ _ hc
  rwa [add_block] at this
end Go.Wk
namespace Go.Wk
open Go
theorem DR.exc2 {w w1 w' : World} {s : Bool} {p : Option Addr} {n : Nat} {e B : Int} {q : Rat} {k : Nat} (h : DR w s p n e B q) (e1 : Ext w w1) (ee : Exc k w1 w') (hk : ∀ a, p = some a → a.block < w.heap.size → a.block ≠ k) : DR w' s p n e B q := by
  obtain ⟨⟨l, h1, h2⟩, h3, h4⟩ := h
  refine ⟨⟨l, ⟨h1.len, fun i x hx => ?_⟩, h2⟩, h3, h4⟩
  obtain ⟨a, ha, hc⟩ := h1.at_ i x hx
  refine ⟨a, ha, ee.cell ?_ (e1.cell_of hc)⟩
  rw [add_block]
  refine hk a ha ?_
  have := World.block_lt_of_cell? _ _ hc
  rwa [add_block] at this
end Go.Wk
