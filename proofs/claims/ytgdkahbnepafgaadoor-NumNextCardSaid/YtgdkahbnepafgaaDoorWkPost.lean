import Derived.Test.YtgdkahbnepafgaaDoorWkRow
import Derived.ProofKit
import Derived.LaidMore
import Derived.OpenShut
import Derived.Stop.Joined
namespace Go.Wk
open Go Go.RowKit Go.ChangeShapes Go.WideShapes

theorem trodAll_carry {H : Type} {enc : TypeId × Value → H} {P : Program} (hl : laidOutB P = true) {W W' : World} (he : Ext W W') :
    ∀ {ts : List TypeId} {vs : List Value} {ds : List (DataW H)} {ps : List MemPlace}, (ts.all fun t => P.readableRec t && decide (t < P.types.size)) = true →
      DataW.TrodAll enc P W 0 (fun _ => true) true ts vs ds ps → (∀ x ∈ ps, x.block < W.heap.size) →
      DataW.TrodAll enc P W' 0 (fun b => decide (b < W.heap.size)) true ts vs ds ps
  | [], _, _, _, _, h, _ => by
    obtain ⟨rfl, rfl, rfl⟩ := trodAll_nil h
    exact rfl
  | t :: ts, _, _, _, hr, h, hlt => by
    obtain ⟨v, vs, d, ds, p, q, rfl, rfl, rfl, h1, h2⟩ := trodAll_cons h
    simp only [List.all_cons, Bool.and_eq_true, decide_eq_true_eq] at hr
    refine ⟨p, q, ?_, ?_, rfl⟩
    · exact Below.trod hl hr.1.1 hr.1.2 h1 he (fun x hx => hlt x (List.mem_append_left _ hx))
    · exact trodAll_carry hl he (by simpa using hr.2) h2 (fun x hx => hlt x (List.mem_append_right _ hx))

/-- A law's end: true, and what came in reads as it did. -/
theorem law_post {H : Type} {enc : TypeId × Value → H} {P : Program} {f : Func} {s : ChangeSpec} {apart : Bool} {W W' : World} {args : Array Value} {ds : List (DataW H)} {before : List MemPlace}
    (hl : laidOutB P = true) (hv : s.vars = []) (hr : (f.params.toList.all fun t => P.readableRec t && decide (t < P.types.size)) = true)
    (hW : DataW.Whole enc P f.params.toList s.vars apart W args.toList ds [] before) (he : Ext W W') {tb : TypeId} (hrt : f.resultTypes = #[tb]) (hb : P.underlying tb = some .bool)
    (hfn : s.fn H (ds ++ []) = { results := [.lit (.bool true)], args := ds }) :
    s.post enc P f apart true false false W args (.bool true) W' := by
  have hlt := hW.lt
  have hW' := hW
  obtain ⟨p, q, hA, hV, rfl, _, _⟩ := hW'
  rw [hv] at hV
  obtain ⟨_, rfl⟩ := trodVars_none hV
  refine ⟨ds, [], p ++ [], [], p, [], hW, ?_, ?_, ?_, Below.frame he _, fun h => by cases h⟩
  · rw [hfn, hrt]
    exact trodAll_mk1 (shut_bool hb true)
  · rw [hfn]
    exact trodAll_carry hl he hr hA (fun x hx => hlt x (by simpa using hx))
  · rw [hfn, hv]
    rfl

/-- From the way in which calls are spoken of here to the kit's. -/
theorem calls_of_callF {P : Program} {f : FuncId} {args : List Value} {w : World} {k : Value → World → Prop}
    (hf : (callFunc f ⟨args⟩).run P w = .ok (.enter f ⟨args⟩) w) (h : CallF P f args w k) : Calls P f ⟨args⟩ w fun e W' => ∃ v, e = .returned v ∧ k v W' := by
  unfold CallF at h
  rw [hf] at h
  refine Calls.mono (show Calls P f ⟨args⟩ w (Ret k) from h) fun e W' he => ?_
  cases e <;> first | exact ⟨_, rfl, he⟩ | exact False.elim he
end Go.Wk
