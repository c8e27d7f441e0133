import Derived.Test.YtgdkahbnepafgaaDoorWkRun
namespace Go.Wk
open Go

def bodyOf (f : Func) : Code := f.body.getD .skip

/-! ### taking a frame's slots apart -/
def asB (v : Value) (k : Bool → Prop) : Prop := match v with | .bool b => k b | _ => False
def asI (κ : IntKind) (v : Value) (k : Int → Prop) : Prop := match v with | .int κ' i => br (decide (κ = κ')) (k i) False | _ => False
def asF (κ : FloatKind) (v : Value) (k : Nat → Prop) : Prop := match v with | .float κ' i => br (decide (κ = κ')) (k i) False | _ => False
def asS (v : Value) (k : ByteArray → Prop) : Prop := match v with | .string b => k b | _ => False
def asP (v : Value) (k : Option Addr → Prop) : Prop := match v with | .pointer b => k b | _ => False
def asL (v : Value) (k : Option Addr → Nat → Nat → Prop) : Prop := match v with | .slice a n c => k a n c | _ => False
def asV (v : Value) (k : FuncId → List Value → List Value → Prop) : Prop := match v with | .func (.func g) ⟨fi⟩ ⟨ca⟩ => k g fi ca | _ => False

theorem asB_elim {v : Value} {k : Bool → Prop} (h : asB v k) : ∃ b, v = .bool b ∧ k b := by
  unfold asB at h; split at h <;> first | exact ⟨_, rfl, h⟩ | exact h.elim
theorem asI_elim {κ : IntKind} {v : Value} {k : Int → Prop} (h : asI κ v k) : ∃ b, v = .int κ b ∧ k b := by
  unfold asI at h
  split at h
  · obtain ⟨rfl, h'⟩ := br_dec h; exact ⟨_, rfl, h'⟩
  · exact h.elim
theorem asF_elim {κ : FloatKind} {v : Value} {k : Nat → Prop} (h : asF κ v k) : ∃ b, v = .float κ b ∧ k b := by
  unfold asF at h
  split at h
  · obtain ⟨rfl, h'⟩ := br_dec h; exact ⟨_, rfl, h'⟩
  · exact h.elim
theorem asS_elim {v : Value} {k : ByteArray → Prop} (h : asS v k) : ∃ b, v = .string b ∧ k b := by
  unfold asS at h; split at h <;> first | exact ⟨_, rfl, h⟩ | exact h.elim
theorem asP_elim {v : Value} {k : Option Addr → Prop} (h : asP v k) : ∃ b, v = .pointer b ∧ k b := by
  unfold asP at h; split at h <;> first | exact ⟨_, rfl, h⟩ | exact h.elim
theorem asL_elim {v : Value} {k : Option Addr → Nat → Nat → Prop} (h : asL v k) : ∃ a n c, v = .slice a n c ∧ k a n c := by
  unfold asL at h; split at h <;> first | exact ⟨_, _, _, rfl, h⟩ | exact h.elim
theorem asV_elim {v : Value} {k : FuncId → List Value → List Value → Prop} (h : asV v k) : ∃ g fi ca, v = .func (.func g) ⟨fi⟩ ⟨ca⟩ ∧ k g fi ca := by
  unfold asV at h; split at h <;> first | exact ⟨_, _, _, rfl, h⟩ | exact h.elim

def ovr : List (Nat × Value) → (Nat → Value) → Nat → Value
  | [], u, j => u j
  | (i, v) :: r, u, j => match j == i with | true => v | false => ovr r u j
def mk (N : Nat) (u : Nat → Value) : List Value := (List.range N).map u

theorem ovr_eq {l : List (Nat × Value)} {u : Nat → Value} (h : ∀ p ∈ l, u p.1 = p.2) (j : Nat) : ovr l u j = u j := by
  induction l with
  | nil => rfl
  | cons p r ih =>
    obtain ⟨i, v⟩ := p
    unfold ovr
    cases hj : j == i with
    | true =>
      have : j = i := by simpa using hj
      subst this
      exact (h (j, v) (by simp)).symm
    | false => exact ih fun p hp => h p (List.mem_cons_of_mem _ hp)

theorem mk_of {N : Nat} {t : List Value} (hl : t.length = N) (l : List (Nat × Value)) (h : ∀ p ∈ l, t.getD p.1 undef = p.2) :
    t = mk N (ovr l fun j => t.getD j undef) := by
  unfold mk
  apply List.ext_getElem?
  intro i
  simp only [List.getElem?_map]
  by_cases hi : i < N
  · rw [List.getElem?_range hi, Option.map_some, ovr_eq h]
    have : i < t.length := by omega
    simp [List.getD, this]
  · rw [List.getElem?_eq_none (by omega), List.getElem?_eq_none (by simp; omega)]
    rfl

/-- What a function's body asks at its entry. -/
def exE (P : Program) (cuts : List Nat) (H : Nat → List Value → World → Prop) (f : Func) (args : List Value) (w : World) (K : Value → World → Prop) : Prop :=
  execPT P cuts H (retPT P f.results.toList K) 4000 true [.code (bodyOf f)] (args ++ List.replicate (f.ntmps - args.length) undef) w
/-- What it asks at the cut 'r'. -/
def exT (P : Program) (cuts : List Nat) (H : Nat → List Value → World → Prop) (f : Func) (r N : Nat) (l : List (Nat × Value)) (u : Nat → Value) (w : World)
    (K : Value → World → Prop) : Prop :=
  execPT P cuts H (retPT P f.results.toList K) 4000 true (at_ (bodyOf f) r) (mk N (ovr l u)) w

theorem callF_of_ex {P : Program} {fn : FuncId} {f : Func} {args : List Value} {K : Value → World → Prop} {cuts : List Nat}
    {H : Nat → Nat → List Value → World → Prop} {N : Nat} {w : World}
    (hf : P.funcs[fn]? = some f) (hb : f.body = some (bodyOf f)) (hm : P.follows .mixedOrders = true)
    (hc : (callFunc fn ⟨args⟩).run P w = .ok (.enter fn ⟨args⟩) w)
    (hT : ∀ id ∈ cuts, (stacks (bodyOf f) []).filter (headIs id) = [at_ (bodyOf f) id])
    (h0 : ∀ id t w, ¬ H 0 id t w)
    (hs : ∀ n, ∀ id ∈ cuts, ∀ t w, t.length = N → H (n + 1) id t w → execPT P cuts (H n) (retPT P f.results.toList K) 4000 true (at_ (bodyOf f) id) t w)
    (hN : args.length + (f.ntmps - args.length) = N) {n : Nat} (h : exE P cuts (H n) f args w K) : CallF P fn args w K :=
  CallF_of_calls hc (calls_of_exec hf hb hm hT h0 hs hN h)

theorem callF_of_ex0 {P : Program} {fn : FuncId} {f : Func} {args : List Value} {K : Value → World → Prop} {w : World}
    (hf : P.funcs[fn]? = some f) (hb : f.body = some (bodyOf f)) (hm : P.follows .mixedOrders = true)
    (hc : (callFunc fn ⟨args⟩).run P w = .ok (.enter fn ⟨args⟩) w) (h : exE P [] (fun _ _ _ => False) f args w K) : CallF P fn args w K :=
  callF_of_ex (cuts := []) (H := fun _ _ _ _ => False) (n := 0) hf hb hm hc (fun _ h => by cases h) (fun _ _ _ h => h) (fun _ _ h => by cases h) rfl h
end Go.Wk
