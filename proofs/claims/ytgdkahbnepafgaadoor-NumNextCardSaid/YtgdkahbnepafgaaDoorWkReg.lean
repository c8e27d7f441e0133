import Derived.Test.YtgdkahbnepafgaaDoorWkWo
import Derived.OrdersHeld
namespace Go.Wk
open Go

/-! ### guards -/
def guardPT (ops : List Oper) (o : Oper) (t : List Value) (run skip : List Value → Prop) : Prop :=
  match o.guard with
  | none => run t
  | some (g, want) =>
    match (ops[g]?).bind (·.dst) with
    | some d =>
      match t[d]? with
      | some (.bool b) =>
        br b (match want with | true => run (t.set d (.bool true)) | false => skip (t.set d (.bool true)))
          (match want with | true => skip (t.set d (.bool false)) | false => run (t.set d (.bool false)))
      | _ => skip t
    | none => skip t

theorem set_self {α : Type} {t : List α} {d : Nat} {v : α} (h : t[d]? = some v) : t.set d v = t := by
  apply List.ext_getElem?
  intro i
  by_cases hi : d = i
  · subst hi
    have hlt : d < t.length := (List.getElem?_eq_some_iff.1 h).1
    rw [List.getElem?_set_self hlt, h]
  · rw [List.getElem?_set_ne hi]

theorem guardPT_elim {ops : List Oper} {o : Oper} {t : List Value} {run skip : List Value → Prop} (h : guardPT ops o t run skip) :
    (Region.wanted o (yielded ⟨ops⟩ (act t).tmps) = true ∧ run t) ∨ (Region.wanted o (yielded ⟨ops⟩ (act t).tmps) = false ∧ skip t) := by
  unfold guardPT at h
  unfold Region.wanted
  cases hg : o.guard with
  | none => rw [hg] at h; exact .inl ⟨rfl, h⟩
  | some gw =>
    obtain ⟨g, want⟩ := gw
    rw [hg] at h
    simp only at h ⊢
    have hops : (⟨ops⟩ : Array Oper)[g]? = ops[g]? := by simp
    cases hd : (ops[g]?).bind (·.dst) with
    | none =>
      rw [hd] at h
      have hy : yielded ⟨ops⟩ (act t).tmps g = none := by unfold yielded; rw [hops, hd]; rfl
      exact .inr ⟨by rw [hy]; rfl, h⟩
    | some d =>
      rw [hd] at h
      simp only at h
      have hy : yielded ⟨ops⟩ (act t).tmps g = match t[d]? with | some (.bool b) => some b | _ => none := by
        unfold yielded; rw [hops, hd]; simp [act]
        cases t[d]? with
        | none => rfl
        | some v => cases v <;> rfl
      rw [hy]
      split at h
      · rename_i b hb
        have hs := set_self hb
        clear hy hg
        cases b with
        | true =>
          rw [hs] at h
          cases want with
          | true => exact .inl ⟨rfl, h⟩
          | false => exact .inr ⟨rfl, h⟩
        | false =>
          rw [hs] at h
          cases want with
          | true => exact .inr ⟨rfl, h⟩
          | false => exact .inl ⟨rfl, h⟩
      · rename_i hnb
        refine .inr ⟨?_, h⟩
        cases ht : t[d]? with
        | none => rfl
        | some v =>
          cases v <;> first | rfl | exact (hnb _ ht).elim

theorem put_length (t : List Value) (d : Option Tmp) (v : Value) : (put t d v).length = t.length := by
  cases d <;> simp [put]

/-! ### a region in the order of its text -/
def opsPT (P : Program) (all : List Oper) : List Oper → List Value → World → (List Value → World → Prop) → Prop
  | [], t, w, k => k t w
  | o :: r, t, w, k =>
    guardPT all o t (fun t' => opPT P o t' w fun v w' => opsPT P all r (put t' o.dst v) w' k) (fun t' => opsPT P all r (put t' o.dst undef) w k)

theorem opsPT_sound {P : Program} {all : List Oper} {Q : Exit → Act → World → Prop} {N : Nat} {k : List Value → World → Prop}
    (hk : ∀ t w, t.length = N → k t w → Q .normal (act t) w) :
    ∀ (l : List Oper) (t : List Value) (w : World), t.length = N → opsPT P all l t w k → wpList P ⟨all⟩ Q l (act t) w
  | [], t, w, hl, h => hk t w hl h
  | o :: r, t, w, hl, h => by
    unfold wpList
    rcases guardPT_elim h with ⟨hw, h⟩ | ⟨hw, h⟩
    · rw [if_pos hw]
      refine .inl (opWp (opPT_sound h) fun v w' h' => ?_)
      exact opsPT_sound hk r _ _ (by rw [put_length, hl]) h'
    · rw [if_neg (by simp [hw]), act_put]
      exact opsPT_sound hk r _ _ (by rw [put_length, hl]) h

/-! ### a region in any order -/
def isLoad (o : Oper) : Bool := match o.op with | .load _ _ => true | _ => false

/-- Does 'j' wait for 'i'? -/
def waits (ops : Array Oper) : Nat → Nat → Nat → Bool
  | 0, _, _ => false
  | n + 1, j, i =>
    match ops[j]? with
    | some o => o.after.toList.any fun e => Region.binds .any e && (e.on == i || waits ops n e.on i)
    | none => false

def Closed (ops : Array Oper) (L : Array Bool) : Prop :=
  ∀ k o, ops[k]? = some o → L.getD k false = true → ∀ e ∈ o.after, Region.binds .any e = true → L.getD e.on false = true

theorem waits_listed {ops : Array Oper} {L : Array Bool} (hc : Closed ops L) : ∀ (n j i : Nat) (o : Oper), ops[j]? = some o →
    (∀ e ∈ o.after, Region.binds .any e = true → L.getD e.on false = true) → waits ops n j i = true → L.getD i false = true
  | 0, _, _, _, _, _, h => by simp [waits] at h
  | n + 1, j, i, o, ho, hall, h => by
    unfold waits at h
    rw [ho] at h
    simp only [List.any_eq_true, Bool.and_eq_true, Bool.or_eq_true, beq_iff_eq] at h
    obtain ⟨e, he, hb, h⟩ := h
    have hon := hall e (by simpa using he) hb
    rcases h with h | h
    · rw [← h]; exact hon
    · cases ho' : ops[e.on]? with
      | none => cases n <;> simp [waits, ho'] at h
      | some o' => exact waits_listed hc n e.on i o' ho' (hc _ _ ho' hon) h

theorem Closed.set {ops : Array Oper} {L : Array Bool} (hc : Closed ops L) {j : Nat} (hj : j ∈ Region.ready .any ops L) : Closed ops (L.setIfInBounds j true) := by
  intro k o ho hk e he hb
  obtain ⟨_, oj, hoj, hall⟩ := mem_ready.1 hj
  refine getD_set_true ?_
  by_cases hkj : j = k
  · subst hkj
    rw [hoj] at ho
    cases ho
    exact hall e he hb
  · rw [getD_set_ne false hkj] at hk
    exact hc k o ho hk e he hb

/-- Is there a load that may come behind 'j'? -/
def needs (ops : Array Oper) (j : Nat) : Bool :=
  (List.range ops.size).any fun i => match ops[i]? with | some o => isLoad o && !(waits ops ops.size j i) | none => false

/-- The cells of 'w' are in 'w'' what they were. -/
def Kept (w w' : World) : Prop := ∀ b v, w.cell? b = some v → w'.cell? b = some v
theorem Kept.refl (w : World) : Kept w w := fun _ _ h => h
theorem Kept.trans {a b c : World} (h : Kept a b) (h' : Kept b c) : Kept a c := fun _ _ hv => h' _ _ (h _ _ hv)

def wpJ (P : Program) (ops : Array Oper) (Q : Exit → Act → World → Prop) : Nat → Array Bool → Act → World → Prop
  | 0, L, a, w => Region.ready .any ops L = [] ∧ Q .normal a w
  | f + 1, L, a, w =>
    (Region.ready .any ops L = [] → Q .normal a w) ∧
    ∀ i ∈ Region.ready .any ops L, wpOp P ops Q i (fun a' w' => (needs ops i = true → Kept w w') ∧ wpJ P ops Q f (L.setIfInBounds i true) a' w') a w

theorem wpAny_of_J {P : Program} {ops : Array Oper} {Q : Exit → Act → World → Prop} :
    ∀ (f : Nat) (L : Array Bool) (a : Act) (w : World), wpJ P ops Q f L a w → wpAny P .any ops Q f L a w
  | 0, _, _, _, h => h
  | f + 1, _, _, _, h => ⟨h.1, fun i hi => wpOp_mono (fun a' w' h' => wpAny_of_J f _ a' w' h'.2) (h.2 i hi)⟩

section
variable {P : Program} {ops : Array Oper} {Q : Exit → Act → World → Prop} {SI : World → Prop}

/-- Operation 'i' may be taken first, if it yields its value in every world in which it may come up, and those that come up ahead of it keep that. -/
theorem wpJ_first {i : Nat} {oi : Oper} {v : Value} (hi : ops[i]? = some oi) (hsel : ∀ (j : Nat) (o : Oper) cs b, ops[j]? = some o → o.op ≠ .select cs b)
    (hQ : ∀ c a w, Q (.panic c) (a.put oi.dst v) w → Q (.panic c) a w)
    (hSI : ∀ (j : Nat) (L : Array Bool) w w', Closed ops L → j ∈ Region.ready .any ops L → L.getD i true = false → j ≠ i → (needs ops j = true → Kept w w') → SI w → SI w') :
    ∀ (fuel : Nat) (L : Array Bool) (a : Act) (w : World), Closed ops L →
      (∀ j oj, ops[j]? = some oj → j ≠ i → L.getD j true = false → (∀ e ∈ oj.after, Region.binds .any e = true → e.on ≠ i) → oi.apart ops oj = true) →
      i ∈ Region.ready .any ops L → YieldsIf P ops SI oi v a → SI w →
      wpJ P ops Q fuel (L.setIfInBounds i true) (a.put oi.dst v) w → wpJ P ops Q (fuel + 1) L a w := by
  intro fuel
  induction fuel with
  | zero =>
    intro L a w _ _ hr hy hS H
    refine ⟨fun h => (by rw [h] at hr; cases hr), fun j hj => ?_⟩
    by_cases hji : j = i
    · subst hji; exact hy.wpOp hi hS ⟨fun _ => Kept.refl w, H⟩
    · have := ready_mono hj hji
      rw [H.1] at this
      cases this
  | succ fuel ih =>
    intro L a w hcl hfree hr hy hS H
    refine ⟨fun h => (by rw [h] at hr; cases hr), fun j hj => ?_⟩
    by_cases hji : j = i
    · subst hji; exact hy.wpOp hi hS ⟨fun _ => Kept.refl w, H⟩
    · have h1 := H.2 j (ready_mono hj hji)
      obtain ⟨hjun, oj, hoj, hall⟩ := mem_ready.1 hj
      have hnot : ∀ e ∈ oj.after, Region.binds .any e = true → e.on ≠ i := fun e he hb heq => by
        have h1 := hall e he hb
        have h0 := (mem_ready.1 hr).1
        rw [heq] at h1
        rcases Nat.lt_or_ge i L.size with h' | h'
        · simp [h'] at h0 h1; rw [h0] at h1; cases h1
        · simp [Array.getElem?_eq_none h'] at h1
      have h2 := wpOp_putIf hoj (hfree j oj hoj hji hjun hnot) (fun cs b => hsel i oi cs b hi) (fun cs b => hsel j oj cs b hoj) hQ hy h1
      have hfree' : ∀ k ok, ops[k]? = some ok → k ≠ i → (L.setIfInBounds j true).getD k true = false →
          (∀ e ∈ ok.after, Region.binds .any e = true → e.on ≠ i) → oi.apart ops ok = true := fun k ok hk hki hun hno => by
        refine hfree k ok hk hki ?_ hno
        by_cases hjk : j = k
        · subst hjk; exact hjun
        · rw [getD_set_ne true hjk] at hun; exact hun
      refine wpOp_mono (fun a' w' h3 => ⟨h3.2.1, ih (L.setIfInBounds j true) a' w' (hcl.set hj) hfree' (ready_mono hr (Ne.symm hji)) h3.1 ?_ ?_⟩) h2
      · exact hSI j L w w' hcl hj (mem_ready.1 hr).1 hji h3.2.1 hS
      · rw [Array.setIfInBounds_comm _ _ hji]
        exact h3.2.2

theorem getD_false_of_true {L : Array Bool} {i : Nat} (h : L.getD i true = false) : L.getD i false = false := by
  rcases Nat.lt_or_ge i L.size with h' | h'
  · simp [h'] at h ⊢; exact h
  · simp [Array.getElem?_eq_none h'] at h

/-- A load that has not come up yet: whoever may come up ahead of it does not wait for it. -/
theorem needs_of_unlisted {L : Array Bool} {i j : Nat} {oi : Oper} (hi : ops[i]? = some oi) (hl : isLoad oi = true) (hcl : Closed ops L)
    (hj : j ∈ Region.ready .any ops L) (hun : L.getD i true = false) : needs ops j = true := by
  obtain ⟨_, oj, hoj, hall⟩ := mem_ready.1 hj
  unfold needs
  rw [List.any_eq_true]
  refine ⟨i, List.mem_range.2 (Array.getElem?_eq_some_iff.1 hi).1, ?_⟩
  rw [hi]
  simp only [hl, Bool.true_and, Bool.not_eq_true']
  cases hw : waits ops ops.size j i with
  | false => rfl
  | true =>
    have := waits_listed hcl ops.size j i oj hoj hall hw
    rw [getD_false_of_true hun] at this
    cases this
end
end Go.Wk
