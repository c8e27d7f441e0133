import Derived.Test.YtgdkahbnepafgaaDoorWkDr
namespace Go.Wk
open Go

/-! ### a function's body -/
/-- From the code 'todo' on, with these temporaries, the call ends, and 'K' holds of what it hands back. -/
def Run (P : Program) (fn : FuncId) (K : Value → World → Prop) (todo : List Item) (t : List Value) (w : World) : Prop :=
  ∀ (b : Frame) (cs : List Frame), b.fn = fn → b.kind = .normal →
    ∃ v w' fr, K v w' ∧ Steps P (lone (b.at (act t) todo) cs w) (lone fr cs w') ∧ fr.fn = fn ∧ fr.leaving P w' (.returned v)

theorem Run.step {P : Program} {fn : FuncId} {K : Value → World → Prop} {todo todo' : List Item} {t : List Value} {w : World}
    (h : Run P fn K todo' t w) (hs : ∀ (b : Frame) (cs : List Frame), step P (lone (b.at (act t) todo) cs w) = .next (lone (b.at (act t) todo') cs w)) :
    Run P fn K todo t w := by
  intro b cs h1 h2
  obtain ⟨v, w', fr, hK, hst, h3, h4⟩ := h b cs h1 h2
  exact ⟨v, w', fr, hK, .head (hs b cs) hst, h3, h4⟩

theorem Run.region {P : Program} {fn : FuncId} {K : Value → World → Prop} {id : Nat} {ops : List Oper} {draw : Bool} {k : List Item} {t : List Value} {w : World}
    (h : (Code.region id ⟨ops⟩ draw).wp P (fun e a w => e = .normal ∧ ∃ t', a = act t' ∧ Run P fn K k t' w) (act t) w) :
    Run P fn K (.code (.region id ⟨ops⟩ draw) :: k) t w := by
  intro b cs h1 h2
  obtain ⟨e, a', w', ⟨rfl, t', rfl, hr⟩, harr⟩ := h b k cs
  obtain ⟨v, w'', fr, hK, hst, h3, h4⟩ := hr b cs h1 h2
  exact ⟨v, w'', fr, hK, Steps.trans harr hst, h3, h4⟩

/-- What a function hands back. -/
def resPT (P : Program) (w : World) : List ResultVar → List Value → (List Value → Prop) → Prop
  | [], _, k => k []
  | r :: rs, t, k =>
    match r with
    | .tmp i => resPT P w rs t fun vs => k (t.getD i undef :: vs)
    | .cell i ty =>
      match t.getD i undef with
      | .pointer p => ptrSome p fun a => ldPT P ty a w fun v _ => resPT P w rs t fun vs => k (v :: vs)
      | _ => False

def resV : List Value → Value
  | [v] => v
  | vs => .tuple ⟨vs⟩

def retPT (P : Program) (rs : List ResultVar) (K : Value → World → Prop) (t : List Value) (w : World) : Prop :=
  resPT P w rs t fun vs => K (resV vs) w

def resG (tm : Array Value) : ResultVar → Sem Value
  | .tmp i => pure (tm.getD i undef)
  | .cell a ty => do loadVar ty (← asAddr (tm.getD a undef))

theorem resPT_run {P : Program} {w : World} {t : List Value} : ∀ {rs : List ResultVar} {k : List Value → Prop}, resPT P w rs t k →
    ∃ vs, (rs.mapM (resG (act t).tmps)).run P w = .ok vs w ∧ k vs
  | [], k, h => ⟨[], rfl, h⟩
  | r :: rs, k, h => by
    unfold resPT at h
    have hg : ∀ i, (act t).tmps.getD i undef = t.getD i undef := fun i => by simp [act, List.getD]
    split at h
    · rename_i i
      obtain ⟨vs, hr, hk⟩ := resPT_run h
      refine ⟨_, ?_, hk⟩
      have h1 : (resG (act t).tmps (.tmp i)).run P w = .ok (t.getD i undef) w := by rw [← hg]; rfl
      rw [List.mapM_cons]
      simp only [Sem.run_bind, h1, Result.andThen_ok, hr, Sem.run_pure]
    · rename_i i ty
      split at h
      · rename_i p hp
        obtain ⟨a, rfl, h⟩ := ptrSome_elim h
        obtain ⟨v, hv, hk, _⟩ := ldPT_sound (show ldPT P ty a w (fun v _ => resPT P w rs t fun vs => k (v :: vs)) from h)
        obtain ⟨vs, hr, hk⟩ := resPT_run hk
        refine ⟨_, ?_, hk⟩
        have h1 : (resG (act t).tmps (.cell i ty)).run P w = .ok v w := by
          have h2 : resG (act t).tmps (.cell i ty) = (do loadVar ty (← asAddr (.pointer (some a)))) := by rw [← hp, ← hg]; rfl
          rw [h2]
          simp [asAddr, hv]
        rw [List.mapM_cons]
        simp only [Sem.run_bind, h1, Result.andThen_ok, hr, Sem.run_pure]
      · exact h.elim

theorem results_eq (fn : Func) (tm : Array Value) : results fn tm = (do
    let vs ← fn.results.mapM (resG tm)
    pure (if h : vs.size = 1 then vs[0] else .tuple vs)) := by
  rfl

theorem retPT_run {P : Program} {fn : Func} {K : Value → World → Prop} {t : List Value} {w : World} (h : retPT P fn.results.toList K t w) :
    ∃ v, (results fn (act t).tmps).run P w = .ok v w ∧ K v w := by
  obtain ⟨vs, hr, hk⟩ := resPT_run h
  refine ⟨resV vs, ?_, hk⟩
  rw [results_eq, Array.mapM_eq_mapM_toList]
  simp only [Sem.run_bind, Sem.run_map, hr, Result.andThen_ok, Sem.run_pure]
  congr 1
  match vs with
  | [] => rfl
  | [v] => rfl
  | _ :: _ :: _ => simp [resV]

/-- What the code 'todo' asks: at the region 'id' of 'cuts' it asks 'H id'. -/
def execPT (P : Program) (cuts : List Nat) (H : Nat → List Value → World → Prop) (R : List Value → World → Prop) :
    Nat → Bool → List Item → List Value → World → Prop
  | 0, _, _, _, _ => False
  | n + 1, first, todo, t, w =>
    match todo with
    | [] => R t w
    | i :: k =>
      match i with
      | .code c =>
        match c with
        | .skip => execPT P cuts H R n first k t w
        | .label _ => execPT P cuts H R n first k t w
        | .seq a b => execPT P cuts H R n first (.code a :: .code b :: k) t w
        | .region id ops draw =>
          match !first && cuts.contains id with
          | true => H id t w
          | false =>
            match draw with
            | false => opsPT P ops.toList ops.toList t w fun t' w' => execPT P cuts H R n false k t' w'
            | true =>
              match Region.noSelect ops with
              | true => drPT P ops.toList w.drew (fun t' w' => execPT P cuts H R n false k t' w') ops.toList.length (Array.replicate ops.toList.length false) t w.drew
              | false => False
        | .cond c x y =>
          match ev t c with
          | .bool b => br b (execPT P cuts H R n first (.code x :: k) t w) (execPT P cuts H R n first (.code y :: k) t w)
          | _ => False
        | .block id c => execPT P cuts H R n first (.code c :: .inBlock id :: k) t w
        | .loop c => execPT P cuts H R n first (.code c :: .inLoop c :: k) t w
        | .scope c => execPT P cuts H R n first (.code c :: .inScope c :: k) t w
        | .exit id => match exitTo id k with | some k' => execPT P cuts H R n first k' t w | none => False
        | .ret => R t w
        | _ => False
      | .inBlock _ => execPT P cuts H R n first k t w
      | .inScope _ => execPT P cuts H R n first k t w
      | .inLoop c => execPT P cuts H R n first (.code c :: .inLoop c :: k) t w
      | _ => False

def stacks : Code → List Item → List (List Item)
  | c, k => (.code c :: k) :: match c with
    | .seq a b => stacks a (.code b :: k) ++ stacks b k
    | .cond _ x y => stacks x k ++ stacks y k
    | .block id c => stacks c (.inBlock id :: k)
    | .loop c => stacks c (.inLoop c :: k)
    | .scope c => stacks c (.inScope c :: k)
    | _ => []

def Val (S : List (List Item)) : List Item → Prop
  | [] => True
  | i :: k => Val S k ∧ match i with
    | .code c => ∀ s ∈ stacks c k, s ∈ S
    | .inLoop c => ∀ s ∈ stacks c (.inLoop c :: k), s ∈ S
    | _ => True

theorem exitTo_val {S : List (List Item)} {id : Nat} : ∀ {k k' : List Item}, exitTo id k = some k' → Val S k → Val S k'
  | [], k', h, _ => by simp [exitTo] at h
  | i :: k, k', h, hv => by
    cases i <;> simp only [exitTo] at h <;> first
      | exact exitTo_val h hv.1
      | skip
    all_goals
      split at h <;> first
        | (cases h; exact hv.1)
        | exact exitTo_val h hv.1

def headIs (id : Nat) : List Item → Bool
  | .code (.region i _ _) :: _ => i == id
  | _ => false

theorem exec_sound {P : Program} {fn : FuncId} {f : Func} {K : Value → World → Prop} {cuts : List Nat} {H : Nat → List Value → World → Prop} {S : List (List Item)} {N : Nat}
    (hf : P.funcs[fn]? = some f) (hm : P.follows .mixedOrders = true)
    (hcut : ∀ id ∈ cuts, ∀ s ∈ S, headIs id s = true → ∀ t w, t.length = N → H id t w → Run P fn K s t w) :
    ∀ (n : Nat) (first : Bool) (todo : List Item) (t : List Value) (w : World), t.length = N → Val S todo →
      execPT P cuts H (retPT P f.results.toList K) n first todo t w → Run P fn K todo t w := by
  intro n
  induction n with
  | zero => intro _ _ _ _ _ _ h; exact h.elim
  | succ n ih =>
    intro first todo t w hl hv h
    have hret : ∀ {todo : List Item}, retPT P f.results.toList K t w →
        (∀ (b : Frame) (cs : List Frame), step P (lone (b.at (act t) todo) cs w) = .next (lone { b.at (act t) todo with mode := .returning } cs w)) →
        Run P fn K todo t w := by
      intro todo hR hst b cs h1 h2
      obtain ⟨v, hr, hk⟩ := retPT_run hR
      refine ⟨v, w, _, hk, .one (hst b cs), h1, rfl, rfl, h2, f, ?_, hr⟩
      show P.funcs[b.fn]? = some f
      rw [h1]; exact hf
    unfold execPT at h
    split at h
    · exact hret h fun _ _ => step_end
    · rename_i i k
      split at h
      · rename_i c
        obtain ⟨hv1, hv2⟩ := hv
        simp only at hv2
        have hmem : (.code c :: k) ∈ S := hv2 _ (by unfold stacks; simp)
        split at h
        · exact (ih _ _ _ _ hl hv1 h).step fun _ _ => step_skip
        · exact (ih _ _ _ _ hl hv1 h).step fun _ _ => step_label
        · rename_i a b
          have hvv : Val S (.code a :: .code b :: k) := ⟨⟨hv1, fun s hs => hv2 s (by unfold stacks; simp [hs])⟩, fun s hs => hv2 s (by unfold stacks; simp [hs])⟩
          exact (ih _ _ _ _ hl hvv h).step fun _ _ => step_seq
        · rename_i id ops draw
          split at h
          · rename_i hc
            simp only [Bool.and_eq_true] at hc
            exact hcut id (by simpa using hc.2) _ hmem (by simp [headIs]) t w hl h
          · obtain ⟨ops⟩ := ops
            refine Run.region ?_
            split at h
            · refine wp_region_list (opsPT_sound (N := N) ?_ _ t w hl h)
              intro t' w' hl' h'
              exact ⟨rfl, t', rfl, ih _ _ _ _ hl' hv1 h'⟩
            · split at h
              · rename_i hsel
                refine drPT_region hm hsel (fun c a w hq => by cases hq.1) ?_ h
                intro t' w' hl' h'
                exact ⟨rfl, t', rfl, ih _ _ _ _ (by rw [hl', hl]) hv1 h'⟩
              · exact h.elim
        · rename_i c x y
          split at h
          · rename_i b hb
            have hb' : (act t).eval c = .bool b := by rw [act_eval, hb]
            have hx : Val S (.code x :: k) := ⟨hv1, fun s hs => hv2 s (by unfold stacks; simp [hs])⟩
            have hy : Val S (.code y :: k) := ⟨hv1, fun s hs => hv2 s (by unfold stacks; simp [hs])⟩
            cases b with
            | true => exact (ih _ _ _ _ hl hx h).step fun _ _ => step_cond hb'
            | false => exact (ih _ _ _ _ hl hy h).step fun _ _ => step_cond hb'
          · exact h.elim
        · rename_i id c
          have hvv : Val S (.code c :: .inBlock id :: k) := ⟨⟨hv1, trivial⟩, fun s hs => hv2 s (by unfold stacks; simp [hs])⟩
          exact (ih _ _ _ _ hl hvv h).step fun _ _ => step_block
        · rename_i c
          have hvl : ∀ s ∈ stacks c (.inLoop c :: k), s ∈ S := fun s hs => hv2 s (by unfold stacks; simp [hs])
          have hvv : Val S (.code c :: .inLoop c :: k) := ⟨⟨hv1, hvl⟩, hvl⟩
          exact (ih _ _ _ _ hl hvv h).step fun _ _ => step_loop
        · rename_i c
          have hvv : Val S (.code c :: .inScope c :: k) := ⟨⟨hv1, trivial⟩, fun s hs => hv2 s (by unfold stacks; simp [hs])⟩
          exact (ih _ _ _ _ hl hvv h).step fun _ _ => step_scope
        · rename_i id
          split at h
          · rename_i k' hk'
            exact (ih _ _ _ _ hl (exitTo_val hk' hv1) h).step fun _ _ => step_exit hk'
          · exact h.elim
        · exact hret h fun _ _ => step_ret
        · exact h.elim
      · exact (ih _ _ _ _ hl hv.1 h).step fun _ _ => step_inBlock
      · exact (ih _ _ _ _ hl hv.1 h).step fun _ _ => step_inScope
      · rename_i c
        have hvv : Val S (.code c :: .inLoop c :: k) := ⟨hv, hv.2⟩
        exact (ih _ _ _ _ hl hvv h).step fun _ _ => step_inLoop
      · exact h.elim
/-- A stack among those of a body is lexical throughout. -/
theorem val_of_mem {S : List (List Item)} : ∀ (c : Code) (k : List Item), Val S k → (∀ s ∈ stacks c k, s ∈ S) → ∀ s ∈ stacks c k, Val S s := by
  intro c
  induction c with
  | seq a b iha ihb =>
    intro k hk hsub s hs
    unfold stacks at hs
    have hb : Val S (.code b :: k) := ⟨hk, fun s hs => hsub s (by unfold stacks; simp [hs])⟩
    rcases List.mem_cons.1 hs with rfl | hs
    · exact ⟨hk, hsub⟩
    · rcases List.mem_append.1 hs with hs | hs
      · exact iha (.code b :: k) hb (fun s hs => hsub s (by unfold stacks; simp [hs])) s hs
      · exact ihb k hk (fun s hs => hsub s (by unfold stacks; simp [hs])) s hs
  | cond o x y ihx ihy =>
    intro k hk hsub s hs
    unfold stacks at hs
    rcases List.mem_cons.1 hs with rfl | hs
    · exact ⟨hk, hsub⟩
    · rcases List.mem_append.1 hs with hs | hs
      · exact ihx k hk (fun s hs => hsub s (by unfold stacks; simp [hs])) s hs
      · exact ihy k hk (fun s hs => hsub s (by unfold stacks; simp [hs])) s hs
  | block id c ih =>
    intro k hk hsub s hs
    unfold stacks at hs
    rcases List.mem_cons.1 hs with rfl | hs
    · exact ⟨hk, hsub⟩
    · exact ih (.inBlock id :: k) ⟨hk, trivial⟩ (fun s hs => hsub s (by unfold stacks; simp [hs])) s hs
  | scope c ih =>
    intro k hk hsub s hs
    unfold stacks at hs
    rcases List.mem_cons.1 hs with rfl | hs
    · exact ⟨hk, hsub⟩
    · exact ih (.inScope c :: k) ⟨hk, trivial⟩ (fun s hs => hsub s (by unfold stacks; simp [hs])) s hs
  | loop c ih =>
    intro k hk hsub s hs
    have hl : ∀ s ∈ stacks c (.inLoop c :: k), s ∈ S := fun s hs => hsub s (by unfold stacks; simp [hs])
    unfold stacks at hs
    rcases List.mem_cons.1 hs with rfl | hs
    · exact ⟨hk, hsub⟩
    · exact ih (.inLoop c :: k) ⟨hk, hl⟩ hl s hs
  | _ =>
    intro k hk hsub s hs
    unfold stacks at hs
    simp only [List.mem_cons, List.not_mem_nil, or_false] at hs
    subst hs
    exact ⟨hk, hsub⟩

/-- The stack at the region 'id'. -/
def at_ (body : Code) (id : Nat) : List Item := ((stacks body []).filter (headIs id)).headD []

theorem run_cuts {P : Program} {fn : FuncId} {f : Func} {body : Code} {K : Value → World → Prop} {cuts : List Nat} {H : Nat → Nat → List Value → World → Prop} {N fuel : Nat}
    (hf : P.funcs[fn]? = some f) (hm : P.follows .mixedOrders = true)
    (hT : ∀ id ∈ cuts, (stacks body []).filter (headIs id) = [at_ body id])
    (h0 : ∀ id t w, ¬ H 0 id t w)
    (hs : ∀ n, ∀ id ∈ cuts, ∀ t w, t.length = N → H (n + 1) id t w → execPT P cuts (H n) (retPT P f.results.toList K) fuel true (at_ body id) t w) :
    ∀ n, ∀ id ∈ cuts, ∀ t w, t.length = N → H n id t w → Run P fn K (at_ body id) t w := by
  have hsub : ∀ s ∈ stacks body [], s ∈ stacks body [] := fun s h => h
  have hval := val_of_mem (S := stacks body []) body [] trivial hsub
  intro n
  induction n with
  | zero => intro id _ t w _ h; exact (h0 _ _ _ h).elim
  | succ n ih =>
    intro id hid t w hl h
    have hmem : at_ body id ∈ stacks body [] := by
      have : at_ body id ∈ (stacks body []).filter (headIs id) := by rw [hT id hid]; simp
      exact (List.mem_filter.1 this).1
    refine exec_sound (N := N) (S := stacks body []) hf hm ?_ fuel true _ t w hl (hval _ hmem) (hs n id hid t w hl h)
    intro id' hid' s hsm hhd t' w' hl' h'
    have : s ∈ (stacks body []).filter (headIs id') := List.mem_filter.2 ⟨hsm, hhd⟩
    rw [hT id' hid'] at this
    obtain rfl : s = at_ body id' := by simpa using this
    exact ih id' hid' t' w' hl' h'

theorem calls_of_exec {P : Program} {fn : FuncId} {f : Func} {body : Code} {args : List Value} {K : Value → World → Prop} {cuts : List Nat}
    {H : Nat → Nat → List Value → World → Prop} {N fuel fuel' : Nat} {w : World}
    (hf : P.funcs[fn]? = some f) (hb : f.body = some body) (hm : P.follows .mixedOrders = true)
    (hT : ∀ id ∈ cuts, (stacks body []).filter (headIs id) = [at_ body id])
    (h0 : ∀ id t w, ¬ H 0 id t w)
    (hs : ∀ n, ∀ id ∈ cuts, ∀ t w, t.length = N → H (n + 1) id t w → execPT P cuts (H n) (retPT P f.results.toList K) fuel true (at_ body id) t w)
    (hN : args.length + (f.ntmps - args.length) = N) {n : Nat}
    (h : execPT P cuts (H n) (retPT P f.results.toList K) fuel' true [.code body] (args ++ List.replicate (f.ntmps - args.length) undef) w) :
    Calls P fn ⟨args⟩ w (Ret K) := by
  have hrun := run_cuts hf hm hT h0 hs
  have hval : Val (stacks body []) [.code body] := ⟨trivial, fun s h => h⟩
  have hall := exec_sound (N := N) (S := stacks body []) hf hm (fun id' hid' s hsm hhd t' w' hl' h' => by
    have : s ∈ (stacks body []).filter (headIs id') := List.mem_filter.2 ⟨hsm, hhd⟩
    rw [hT id' hid'] at this
    obtain rfl : s = at_ body id' := by simpa using this
    exact hrun n id' hid' t' w' hl' h') fuel' true [.code body] _ w (by simp [hN]) hval h
  intro cs
  let b : Frame := { (default : Frame) with fn, kind := .normal }
  have henter : Frame.enter P fn ⟨args⟩ .normal = b.at (act (args ++ List.replicate (f.ntmps - args.length) undef)) [.code body] := by
    have harr : (⟨args⟩ : Array Value) ++ Array.replicate (f.ntmps - args.length) undef = ⟨args ++ List.replicate (f.ntmps - args.length) undef⟩ := by
      apply Array.ext'; simp
    simp [Frame.enter, Frame.at, hf, hb, b, act, harr]
  obtain ⟨v, w', fr, hK, hst, h3, h4⟩ := hall b cs rfl rfl
  rw [← henter] at hst
  exact ⟨.returned v, w', fr, hK, hst, h3, h4⟩
end Go.Wk
