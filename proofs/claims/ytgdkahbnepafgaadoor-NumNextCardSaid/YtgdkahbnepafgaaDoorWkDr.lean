import Derived.Test.YtgdkahbnepafgaaDoorWkReg
namespace Go.Wk
open Go

def allP (f : Nat → Prop) : List Nat → Prop
  | [] => True
  | i :: r => match r with | [] => f i | r => f i ∧ allP f r
theorem allP_elim {f : Nat → Prop} : ∀ {l : List Nat}, allP f l → ∀ i ∈ l, f i
  | [], _, i, hi => by simp at hi
  | [j], h, i, hi => by simp at hi; subst hi; exact h
  | j :: j' :: r, h, i, hi => by
    obtain ⟨h1, h2⟩ := h
    rcases List.mem_cons.1 hi with rfl | hi
    · exact h1
    · exact allP_elim h2 i hi

/-- The first operation that may be taken first. -/
def takeAt (P : Program) (ops : List Oper) (L : Array Bool) (t : List Value) : List Nat → Option Nat
  | [] => none
  | i :: r =>
    match ops[i]? with
    | some o =>
      match (isLoad o || isLoc P o.op t) && Region.free .any ⟨ops⟩ L i with
      | true => some i
      | false => takeAt P ops L t r
    | none => takeAt P ops L t r

theorem takeAt_spec {P : Program} {ops : List Oper} {L : Array Bool} {t : List Value} : ∀ {rs : List Nat} {i : Nat}, takeAt P ops L t rs = some i →
    i ∈ rs ∧ ∃ o, ops[i]? = some o ∧ (isLoad o = true ∨ isLoc P o.op t = true) ∧ Region.free .any ⟨ops⟩ L i = true
  | [], _, h => by simp [takeAt] at h
  | j :: r, i, h => by
    unfold takeAt at h
    split at h
    · rename_i o ho
      split at h
      · rename_i hc
        cases h
        simp only [Bool.and_eq_true, Bool.or_eq_true] at hc
        exact ⟨by simp, o, ho, hc.1, hc.2⟩
      · obtain ⟨h1, h2⟩ := takeAt_spec h
        exact ⟨List.mem_cons_of_mem _ h1, h2⟩
    · obtain ⟨h1, h2⟩ := takeAt_spec h
      exact ⟨List.mem_cons_of_mem _ h1, h2⟩

def takePT (P : Program) (o : Oper) (t : List Value) (wE : World) (k : Value → Prop) : Prop :=
  match o.op with
  | .load ty a =>
    match ev t a with
    | .pointer p => ptrSome p fun a => ldPT P ty a wE fun v _ => k v
    | _ => False
  | _ => lcPT P o.op t k

theorem takePT_run {P : Program} {o : Oper} {t : List Value} {wE : World} {k : Value → Prop} (h : takePT P o t wE k) :
    ∃ v, (∀ w, (isLoad o = true → Kept wE w) → (execOp (ev t) o).run P w = .ok (.value v) w) ∧ k v := by
  unfold takePT at h
  split at h
  · rename_i ty a hop
    split at h
    · rename_i p hp
      obtain ⟨a, rfl, h⟩ := ptrSome_elim h
      obtain ⟨v, _, hk, hr⟩ := ldPT_sound (show ldPT P ty a wE (fun v _ => k v) from h)
      refine ⟨v, fun w hw => ?_, hk⟩
      obtain ⟨dst, op, type, pos, after, guard⟩ := o
      simp only at hop
      subst hop
      have := hr w (hw rfl)
      simp [execOp, hp, Instr.loadAt, Instr.sureAddr, this]
    · exact h.elim
  · obtain ⟨v, hr, hk⟩ := lcPT_run h
    exact ⟨v, fun w _ => hr w, hk⟩

def drPT (P : Program) (ops : List Oper) (wE : World) (k : List Value → World → Prop) : Nat → Array Bool → List Value → World → Prop
  | 0, L, t, w =>
    match Region.ready .any ⟨ops⟩ L with
    | [] => k t w
    | _ => False
  | n + 1, L, t, w =>
    match Region.ready .any ⟨ops⟩ L with
    | [] => k t w
    | r :: rs =>
      match takeAt P ops L t (r :: rs) with
      | some i =>
        match ops[i]? with
        | some o => guardPT ops o t (fun t' => takePT P o t' wE fun v => drPT P ops wE k n (L.setIfInBounds i true) (put t' o.dst v) w)
            (fun t' => drPT P ops wE k n (L.setIfInBounds i true) (put t' o.dst undef) w)
        | none => False
      | none => allP (fun i =>
          match ops[i]? with
          | some o => guardPT ops o t
              (fun t' => opPT P o t' w fun v w' =>
                match needs ⟨ops⟩ i with
                | true => Kept w w' ∧ drPT P ops wE k n (L.setIfInBounds i true) (put t' o.dst v) w'
                | false => drPT P ops wE k n (L.setIfInBounds i true) (put t' o.dst v) w')
              (fun t' => drPT P ops wE k n (L.setIfInBounds i true) (put t' o.dst undef) w)
          | none => False) (r :: rs)

/-- While a load has not come up yet, the cells are as they were. -/
def Fresh (ops : Array Oper) (wE : World) (L : Array Bool) (w : World) : Prop :=
  (∃ i o, ops[i]? = some o ∧ isLoad o = true ∧ L.getD i true = false) → Kept wE w

theorem Fresh.set {ops : Array Oper} {wE w : World} {L : Array Bool} (h : Fresh ops wE L w) (j : Nat) : Fresh ops wE (L.setIfInBounds j true) w := by
  rintro ⟨i, o, ho, hl, hun⟩
  refine h ⟨i, o, ho, hl, ?_⟩
  by_cases hji : j = i
  · subst hji
    have hlt : j < L.size := by
      rcases Nat.lt_or_ge j L.size with h' | h'
      · exact h'
      · simp at hun
    simp [hlt] at hun
  · rw [getD_set_ne true hji] at hun; exact hun

theorem Fresh.step {ops : Array Oper} {wE w w' : World} {L : Array Bool} (h : Fresh ops wE L w) {j : Nat} (hcl : Closed ops L) (hj : j ∈ Region.ready .any ops L)
    (hk : needs ops j = true → Kept w w') : Fresh ops wE (L.setIfInBounds j true) w' := by
  intro hex
  have h1 := h.set j hex
  obtain ⟨i, o, ho, hl, hun⟩ := hex
  have hun' : L.getD i true = false := by
    by_cases hji : j = i
    · subst hji
      have hlt : j < L.size := by
        rcases Nat.lt_or_ge j L.size with h' | h'
        · exact h'
        · simp at hun
      simp [hlt] at hun
    · rw [getD_set_ne true hji] at hun; exact hun
  exact h1.trans (hk (needs_of_unlisted ho hl hcl hj hun'))

theorem drPT_sound {P : Program} {ops : List Oper} {wE : World} {k : List Value → World → Prop} {Q : Exit → Act → World → Prop} {N : Nat}
    (hk : ∀ t w, t.length = N → k t w → Q .normal (act t) w) (hsel : Region.noSelect ⟨ops⟩ = true) (hQ : ∀ c a w, ¬ Q (.panic c) a w) :
    ∀ (n : Nat) (L : Array Bool) (t : List Value) (w : World), t.length = N → Closed ⟨ops⟩ L → Fresh ⟨ops⟩ wE L w → drPT P ops wE k n L t w →
      wpJ P ⟨ops⟩ Q n L (act t) w := by
  intro n
  induction n with
  | zero =>
    intro L t w hl _ _ h
    unfold drPT at h
    split at h
    · rename_i hr; exact ⟨hr, hk t w hl h⟩
    · exact h.elim
  | succ n ih =>
    intro L t w hl hcl hfr h
    unfold drPT at h
    split at h
    · rename_i hr
      exact ⟨fun _ => hk t w hl h, by rw [hr]; simp⟩
    · rename_i r rs hr
      split at h
      · rename_i i hti
        obtain ⟨hmem, o, ho, hkind, hfree⟩ := takeAt_spec hti
        rw [ho] at h
        simp only at h
        have ho' : (⟨ops⟩ : Array Oper)[i]? = some o := by simpa using ho
        have hready : i ∈ Region.ready .any ⟨ops⟩ L := by rw [hr]; exact hmem
        have hun : L.getD i true = false := (mem_ready.1 hready).1
        -- the value, and in which worlds
        have main : ∀ v, YieldsIf P ⟨ops⟩ (fun w' => isLoad o = true → Kept wE w') o v (act t) →
            drPT P ops wE k n (L.setIfInBounds i true) (put t o.dst v) w → wpJ P ⟨ops⟩ Q (n + 1) L (act t) w := by
          intro v hy hrest
          refine wpJ_first (SI := fun w' => isLoad o = true → Kept wE w') ho' (Region.noSelect_spec hsel) (fun c a w h => (hQ _ _ _ h).elim) ?_ n L (act t) w hcl
            (Region.free_spec ho' hfree) hready hy (fun hld => hfr ⟨i, o, ho', hld, hun⟩) ?_
          · intro j L' w1 w2 hcl' hj' hun' _ hkept hSI hld
            exact (hSI hld).trans (hkept (needs_of_unlisted ho' hld hcl' hj' hun'))
          · rw [act_put]
            exact ih _ _ _ (by rw [put_length, hl]) (hcl.set hready) (hfr.set i) hrest
        rcases guardPT_elim h with ⟨hw, h⟩ | ⟨hw, h⟩
        · obtain ⟨v, hrun, hrest⟩ := takePT_run h
          refine main v (.inl ⟨hw, fun w' hw' => ?_⟩) hrest
          rw [act_eval']
          exact hrun w' hw'
        · exact main undef (.inr ⟨hw, rfl⟩) h
      · have hall := allP_elim h
        rw [← hr] at hall
        refine ⟨fun h0 => (by rw [hr] at h0; cases h0), fun i hi => ?_⟩
        have h1 := hall i hi
        unfold wpOp
        cases ho : ops[i]? with
        | none => rw [ho] at h1; exact h1.elim
        | some o =>
          rw [ho] at h1
          simp only at h1
          have ho' : (⟨ops⟩ : Array Oper)[i]? = some o := by simpa using ho
          rw [ho']
          simp only
          rcases guardPT_elim h1 with ⟨hw, h1⟩ | ⟨hw, h1⟩
          · rw [if_pos hw]
            refine .inl (opWp (opPT_sound h1) fun v w' h2 => ?_)
            split at h2
            · exact ⟨fun _ => h2.1, ih _ _ _ (by rw [put_length, hl]) (hcl.set hi) (hfr.step hcl hi fun _ => h2.1) h2.2⟩
            · rename_i hnn
              have hf : ∀ {p : Prop}, needs ⟨ops⟩ i = true → p := fun hn => by rw [hn] at hnn; cases hnn
              exact ⟨fun hn => hf hn, ih _ _ _ (by rw [put_length, hl]) (hcl.set hi) (hfr.step hcl hi fun hn => hf hn) h2⟩
          · rw [if_neg (by simp [hw]), act_put]
            exact ⟨fun _ => Kept.refl w, ih _ _ _ (by rw [put_length, hl]) (hcl.set hi) (hfr.set i) h1⟩

theorem closed_start (ops : Array Oper) (n : Nat) : Closed ops (Array.replicate n false) := by
  intro k o _ hk
  simp [Array.getElem?_replicate] at hk
  split at hk <;> simp at hk

theorem drPT_region {P : Program} {id : Nat} {ops : List Oper} {k : List Value → World → Prop} {Q : Exit → Act → World → Prop} {t : List Value} {w : World}
    (hm : P.follows .mixedOrders = true) (hsel : Region.noSelect ⟨ops⟩ = true) (hQ : ∀ c a w, ¬ Q (.panic c) a w)
    (hk : ∀ t' w, t'.length = t.length → k t' w → Q .normal (act t') w)
    (h : drPT P ops w.drew k ops.length (Array.replicate ops.length false) t w.drew) :
    (Code.region id ⟨ops⟩ true).wp P Q (act t) w := by
  refine wp_region_any hm (wpAny_of_J _ _ _ _ ?_)
  exact drPT_sound (N := t.length) hk hsel hQ ops.length _ t w.drew rfl (closed_start _ _) (fun _ => Kept.refl _) h
end Go.Wk
