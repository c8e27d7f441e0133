import Derived.WalkKit
import Derived.WalkSpells
import Derived.WalkLawsBesides
import Derived.Orders
import Derived.KernelRfl
namespace Go.Wk
open Go

/-! ### local state -/
def br (b : Bool) (x y : Prop) : Prop := match b with | true => x | false => y
theorem br_intro {b : Bool} {x y : Prop} (ht : b = true → x) (hf : b = false → y) : br b x y := by
  cases b
  · exact hf rfl
  · exact ht rfl
theorem br_mono {b : Bool} {x y x' y' : Prop} (hx : x → x') (hy : y → y') (h : br b x y) : br b x' y' := by
  cases b
  · exact hy h
  · exact hx h

def ptrSome (p : Option Addr) (k : Addr → Prop) : Prop := match p with | some a => k a | none => False
theorem ptrSome_elim {p : Option Addr} {k : Addr → Prop} (h : ptrSome p k) : ∃ a, p = some a ∧ k a := by
  cases p with
  | none => exact h.elim
  | some a => exact ⟨a, rfl, h⟩

def ev (t : List Value) : Operand → Value
  | .tmp i => t.getD i undef
  | .const v => v
  | .global g => .pointer (some ⟨g, 0, none⟩)
  | .func f => .func (.func f) #[] #[]

def put (t : List Value) (d : Option Tmp) (v : Value) : List Value :=
  match d with
  | some i => t.set i v
  | none => t

def act (t : List Value) : Act := { tmps := ⟨t⟩, defers := [] }

theorem act_eval (t : List Value) (o : Operand) : (act t).eval o = ev t o := by
  cases o <;> simp [Act.eval, ev, act, List.getD]

theorem act_eval' (t : List Value) : (act t).eval = ev t := funext (act_eval t)

theorem act_put (t : List Value) (d : Option Tmp) (v : Value) : (act t).put d v = act (put t d v) := by
  cases d <;> simp [Act.put, put, act]

/-! ### what comes of a call -/
def Ret (k : Value → World → Prop) : Ending → World → Prop
  | .returned v, w => k v w
  | _, _ => False

def upon (P : Program) (k : Value → World → Prop) : Result Next → Prop
  | .ok (.value v) w' => k v w'
  | .ok .skip w' => k undef w'
  | .ok (.enter f args) w' => Calls P f args w' (Ret k)
  | _ => False

theorem Ret_mono {k k' : Value → World → Prop} (h : ∀ v w, k v w → k' v w) : ∀ e w, Ret k e w → Ret k' e w := by
  intro e w
  cases e <;> simp only [Ret] <;> first | exact h _ _ | exact id

theorem upon_mono {P : Program} {k k' : Value → World → Prop} (h : ∀ v w, k v w → k' v w) {r : Result Next} (hr : upon P k r) : upon P k' r := by
  cases r with
  | ok n w' =>
    cases n <;> simp only [upon] at hr ⊢ <;> first | exact h _ _ hr | exact hr.mono (Ret_mono h) | exact hr
  | halt x w' => exact hr

/-- A call of function 'f'. -/
def CallF (P : Program) (f : FuncId) (args : List Value) (w : World) (k : Value → World → Prop) : Prop :=
  upon P k ((callFunc f ⟨args⟩).run P w)
/-- A call of a function value. -/
def CallV (P : Program) (f : Value) (args : List Value) (w : World) (k : Value → World → Prop) : Prop :=
  upon P k ((do let d ← Deferred.ofValue f ⟨args⟩; invoke d.target d.args : Sem Next).run P w)
/-- An operation that is left as the model has it. -/
def Raw (P : Program) (s : Sem Value) (w : World) (k : Value → World → Prop) : Prop :=
  match s.run P w with
  | .ok v w' => k v w'
  | .halt _ _ => False

theorem CallF.mono {P : Program} {f : FuncId} {args : List Value} {w : World} {k k' : Value → World → Prop} (hc : CallF P f args w k)
    (h : ∀ v w, k v w → k' v w) : CallF P f args w k' := upon_mono h hc
theorem CallV.mono {P : Program} {f : Value} {args : List Value} {w : World} {k k' : Value → World → Prop} (hc : CallV P f args w k)
    (h : ∀ v w, k v w → k' v w) : CallV P f args w k' := upon_mono h hc
theorem Raw.mono {P : Program} {s : Sem Value} {w : World} {k k' : Value → World → Prop} (hc : Raw P s w k)
    (h : ∀ v w, k v w → k' v w) : Raw P s w k' := by
  unfold Raw at *
  split at hc
  · exact h _ _ hc
  · exact hc.elim

theorem CallV_func {P : Program} {g : FuncId} {first cap args : List Value} {w : World} {k : Value → World → Prop}
    (h : CallF P g (first ++ args ++ cap) w k) : CallV P (.func (.func g) ⟨first⟩ ⟨cap⟩) args w k := by
  unfold CallV CallF at *
  simpa [Deferred.ofValue, invoke] using h

theorem CallF_of_calls {P : Program} {f : FuncId} {args : List Value} {w : World} {k : Value → World → Prop}
    (hf : (callFunc f ⟨args⟩).run P w = .ok (.enter f ⟨args⟩) w) (h : Calls P f ⟨args⟩ w (Ret k)) : CallF P f args w k := by
  unfold CallF
  rw [hf]
  exact h

/-! ### shapes of what is not known -/
def shS (P : Program) (ty : TypeId) (k : Value → Prop) : Prop :=
  match P.underlying ty with
  | some .bool => ∃ b : Bool, k (.bool b)
  | some (.int κ) => ∃ i : Int, k (.int κ i)
  | some (.float κ) => ∃ x : Nat, k (.float κ x)
  | some .string => ∃ s : ByteArray, k (.string s)
  | some (.slice _) => ∃ (a : Option Addr) (n c : Nat), k (.slice a n c)
  | some (.pointer _) => ∃ a : Option Addr, k (.pointer a)
  | _ => ∃ v : Value, k v

theorem shS_elim {P : Program} {ty : TypeId} {k : Value → Prop} (h : shS P ty k) : ∃ v, k v := by
  unfold shS at h
  split at h
  · obtain ⟨b, h⟩ := h; exact ⟨_, h⟩
  · obtain ⟨b, h⟩ := h; exact ⟨_, h⟩
  · obtain ⟨b, h⟩ := h; exact ⟨_, h⟩
  · obtain ⟨b, h⟩ := h; exact ⟨_, h⟩
  · obtain ⟨a, n, c, h⟩ := h; exact ⟨_, h⟩
  · obtain ⟨b, h⟩ := h; exact ⟨_, h⟩
  · exact h

def flat (P : Program) : Nat → TypeId → List TypeId
  | 0, t => [t]
  | n + 1, t =>
    match P.underlying t with
    | some (.struct fs) => fs.toList.flatMap fun f => flat P n f.type
    | some (.array m e) => (List.replicate m ()).flatMap fun _ => flat P n e
    | _ => [t]

def shC (P : Program) : List TypeId → (List Value → Prop) → Prop
  | [], k => k []
  | t :: r, k => shS P t fun v => shC P r fun vs => k (v :: vs)

theorem shC_elim {P : Program} : ∀ {ts : List TypeId} {k : List Value → Prop}, shC P ts k → ∃ vs, vs.length = ts.length ∧ k vs
  | [], _, h => ⟨[], rfl, h⟩
  | _ :: _, _, h => by
    obtain ⟨v, h⟩ := shS_elim h
    obtain ⟨vs, hl, h⟩ := shC_elim h
    exact ⟨v :: vs, by simp [hl], h⟩

def aggT (P : Program) (ty : TypeId) : Bool :=
  match P.underlying ty with
  | some (.struct _) | some (.array _ _) => true
  | _ => false

def shT (P : Program) : List TypeId → (List Value → Prop) → Prop
  | [], k => k []
  | t :: r, k =>
    match aggT P t with
    | true => shC P (flat P 8 t) fun cs => shT P r fun vs => k (.agg ⟨cs⟩ :: vs)
    | false => shS P t fun v => shT P r fun vs => k (v :: vs)

theorem shT_elim {P : Program} : ∀ {ts : List TypeId} {k : List Value → Prop}, shT P ts k → ∃ vs, k vs
  | [], _, h => ⟨[], h⟩
  | t :: r, k, h => by
    unfold shT at h
    split at h
    · obtain ⟨cs, _, h⟩ := shC_elim h
      obtain ⟨vs, h⟩ := shT_elim h
      exact ⟨_, h⟩
    · obtain ⟨v, h⟩ := shS_elim h
      obtain ⟨vs, h⟩ := shT_elim h
      exact ⟨_, h⟩

/-- Of 'v' it is known that it has the form of a value of type 'ty'. -/
def shV (P : Program) (ty : TypeId) (v : Value) (k : Value → Prop) : Prop :=
  match P.underlying ty with
  | some (.tuple ts) => shT P ts.toList fun vs => v = .tuple ⟨vs⟩ ∧ k (.tuple ⟨vs⟩)
  | some (.struct _) | some (.array _ _) => shC P (flat P 8 ty) fun cs => v = .agg ⟨cs⟩ ∧ k (.agg ⟨cs⟩)
  | some .bool => ∃ b : Bool, v = .bool b ∧ k (.bool b)
  | some (.int κ) => ∃ i : Int, v = .int κ i ∧ k (.int κ i)
  | some (.float κ) => ∃ x : Nat, v = .float κ x ∧ k (.float κ x)
  | some .string => ∃ s : ByteArray, v = .string s ∧ k (.string s)
  | some (.slice _) => ∃ (a : Option Addr) (n c : Nat), v = .slice a n c ∧ k (.slice a n c)
  | some (.pointer _) => ∃ a : Option Addr, v = .pointer a ∧ k (.pointer a)
  | _ => k v

theorem shV_elim {P : Program} {ty : TypeId} {v : Value} {k : Value → Prop} (h : shV P ty v k) : k v := by
  unfold shV at h
  split at h
  · obtain ⟨vs, e, h⟩ := shT_elim h; rw [e]; exact h
  · obtain ⟨vs, _, e, h⟩ := shC_elim h; rw [e]; exact h
  · obtain ⟨vs, _, e, h⟩ := shC_elim h; rw [e]; exact h
  · obtain ⟨b, e, h⟩ := h; rw [e]; exact h
  · obtain ⟨b, e, h⟩ := h; rw [e]; exact h
  · obtain ⟨b, e, h⟩ := h; rw [e]; exact h
  · obtain ⟨b, e, h⟩ := h; rw [e]; exact h
  · obtain ⟨a, n, c, e, h⟩ := h; rw [e]; exact h
  · obtain ⟨b, e, h⟩ := h; rw [e]; exact h
  · exact h

/-! ### floats -/
def feq (κ : FloatKind) (a b : Nat) : Bool := κ.format.order a b == some .eq
def fne (κ : FloatKind) (a b : Nat) : Bool := κ.format.order a b != some .eq
def flt (κ : FloatKind) (a b : Nat) : Bool := κ.format.order a b == some .lt
def fle (κ : FloatKind) (a b : Nat) : Bool := κ.format.order a b == some .lt || κ.format.order a b == some .eq
def fgt (κ : FloatKind) (a b : Nat) : Bool := κ.format.order a b == some .gt
def fge (κ : FloatKind) (a b : Nat) : Bool := κ.format.order a b == some .gt || κ.format.order a b == some .eq

/-- Bits that a NaN has. -/
def nanB : FloatKind → Nat → Prop
  | .f64, n => ∃ s f, s < 2 ∧ f < 2 ^ 52 - 1 ∧ n = s * 2 ^ 63 + 0x7ff0000000000000 + 1 + f
  | .f32, n => ∃ s f, s < 2 ∧ f < 2 ^ 23 - 1 ∧ n = s * 2 ^ 31 + 0x7f800000 + 1 + f

/-- An operation on floats: its bits, or those of some NaN. -/
def fop (op : BinOp) (κ : FloatKind) (a b : Nat) (w : World) (k : Nat → World → Prop) : Prop :=
  (∀ r, floatBits op κ a b = some r → k r w) ∧ (floatBits op κ a b = none → ∀ n, nanB κ n → k n w.drew)

theorem nanB_cut (κ : FloatKind) (x y t : Nat) : nanB κ ((Question.nanBits κ x y).cut t) := by
  cases κ
  · exact ⟨t % 2, (t / 2) % (2 ^ 23 - 1), Nat.mod_lt _ (by decide), Nat.mod_lt _ (by decide), rfl⟩
  · exact ⟨t % 2, (t / 2) % (2 ^ 52 - 1), Nat.mod_lt _ (by decide), Nat.mod_lt _ (by decide), rfl⟩

theorem fop_sound {P : Program} {op : BinOp} {t : TypeId} {κ : FloatKind} {a b : Nat} {w : World} {k : Nat → World → Prop}
    (hop : op = .add ∨ op = .sub ∨ op = .mul ∨ op = .quo) (h : fop op κ a b w k) :
    ∃ r w', (binOp op t (.float κ a) (.float κ b)).run P w = .ok (.float κ r) w' ∧ k r w' := by
  obtain ⟨h1, h2⟩ := h
  cases hb : floatBits op κ a b with
  | some r => exact ⟨r, w, run_float_arith w op t κ a b r hb, h1 r hb⟩
  | none =>
    refine ⟨(Question.nanBits κ a b).cut (w.tape w.drawn (Question.nanBits κ a b)), w.drew, ?_, h2 hb _ (nanB_cut κ a b _)⟩
    unfold floatBits at hb
    rcases hop with rfl | rfl | rfl | rfl <;> simp only at hb <;> simp [binOp, Op.floatArith, hb, Question.forced]
end Go.Wk
