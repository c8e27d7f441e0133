import Derived.Test.YtgdkahbnepafgaaDoorWkExec
namespace Go.Wk
open Go

theorem optmap_ev (t : List Value) (x : Option Operand) : (x.map (ev t)) = x.map (ev t) := rfl

theorem lcPT_run {P : Program} {o : Oper} {t : List Value} {k : Value → Prop} (h : lcPT P o.op t k) :
    ∃ v, (∀ w, (execOp (ev t) o).run P w = .ok (.value v) w) ∧ k v := by
  obtain ⟨dst, op, type, pos, after, guard⟩ := o
  simp only at h
  unfold lcPT at h
  split at h
  · exact ⟨_, fun w => rfl, h⟩
  · exact ⟨_, fun w => rfl, h⟩
  · -- pick
    split at h
    · rename_i c hc
      cases c with
      | true => exact ⟨_, fun w => by simp [execOp, hc, asBool], h⟩
      | false => exact ⟨_, fun w => by simp [execOp, hc, asBool], h⟩
    · exact h.elim
  · -- binOp
    rename_i op ty x y yt
    obtain ⟨v, hr, hk⟩ := binLc_run (xo := x) (yo := y) h
    refine ⟨v, fun w => ?_, hk⟩
    have := hr w
    simp only [execOp]
    rw [Sem.run_bind, this]
    rfl
  · -- unOp
    obtain ⟨v, hr, hk⟩ := unPT_run (P := P) h
    exact ⟨v, fun w => by simp [execOp, hr w], hk⟩
  · obtain ⟨v, hr, hk⟩ := cvLc_run h
    exact ⟨v, fun w => by simp [execOp, hr w], hk⟩
  · -- makeFunc
    refine ⟨_, fun w => ?_, h⟩
    simp [execOp, Instr.makeFunc]
    constructor <;> (apply Array.ext'; simp)
  · -- makeInterface
    rename_i ty x
    cases hc : P.concrete ty with
    | false => rw [hc] at h; exact h.elim
    | true =>
      rw [hc] at h
      exact ⟨_, fun w => by simp [execOp, run_makeInterface w ty _ hc], h⟩
  · -- build
    rename_i ty parts
    split at h
    · rename_i cs hb
      refine ⟨_, fun w => ?_, h⟩
      have hb' := built_of hb
      have : (parts.map fun (i, x) => (i, ev t x)).toList = parts.toList.map fun p => (p.1, ev t p.2) := by simp
      rw [← this] at hb'
      simp only [execOp, Sem.run_bind, run_build w ty _ _ hb']
      rfl
    · exact h.elim
  · -- nilCheck
    rename_i x
    split at h
    · rename_i p hp
      obtain ⟨a, rfl, hk⟩ := ptrSome_elim h
      exact ⟨_, fun w => by simp [execOp, hp], hk⟩
    · rename_i f fi ca hp
      exact ⟨_, fun w => by simp [execOp, hp], h⟩
    · exact h.elim
  · -- fieldAddr
    rename_i s x f
    split at h
    · rename_i p hp
      obtain ⟨a, rfl, hk⟩ := ptrSome_elim h
      split at hk
      · rename_i fd hfd
        obtain ⟨fs, hu, hf⟩ := fieldOf_run hfd
        split at hk
        · rename_i n hn
          refine ⟨_, fun w => ?_, hk⟩
          simp [execOp, hp, Instr.fieldAt, run_underlying hu, hf, Instr.sureAddr, fieldPlace, run_sizeOf' hn]
        · exact hk.elim
      · exact hk.elim
    · exact h.elim
  · -- field
    rename_i s x f
    split at h
    · rename_i cs hc
      split at h
      · rename_i fd hfd
        obtain ⟨fs, hu, hf⟩ := fieldOf_run hfd
        obtain ⟨v, hr, hk⟩ := partPT_run h
        exact ⟨v, fun w => by simp [execOp, hc, Instr.field, run_underlying hu, hf, asAgg, hr w], hk⟩
      · exact h.elim
    · exact h.elim
  · -- indexAddr
    rename_i ty x i
    split at h
    · rename_i κ n hi
      split at h
      · rename_i e hu
        split at h
        · rename_i p len cap hx
          obtain ⟨a, rfl, h⟩ := ptrSome_elim h
          split at h
          · rename_i s hs
            obtain ⟨h1, h2, hk⟩ := h
            rw [idxPT_eq] at hk
            exact ⟨_, fun w => by simp [execOp, hi, hx, Instr.indexAt, asIntOf, run_underlying hu, h1, h2, run_sizeOf' hs], hk⟩
          · exact h.elim
        · exact h.elim
      · rename_i m e hu
        split at h
        · rename_i p hx
          obtain ⟨a, rfl, h⟩ := ptrSome_elim h
          split at h
          · rename_i s hs
            obtain ⟨h1, h2, hk⟩ := h
            rw [idxPT_eq] at hk
            exact ⟨_, fun w => by simp [execOp, hi, hx, Instr.indexAt, asIntOf, run_underlying hu, h1, h2, run_sizeOf' hs, Instr.sureAddr], hk⟩
          · exact h.elim
        · exact h.elim
      · exact h.elim
    · exact h.elim
  · -- index
    rename_i ty x i
    split at h
    · rename_i κ n hi
      split at h
      · rename_i hu
        split at h
        · rename_i s hx
          obtain ⟨h1, b, hb, hk⟩ := h
          have hb' : s[n.toNat]? = some b := by
            have hlt : n.toNat < s.data.toList.length := (List.getElem?_eq_some_iff.1 hb).1
            have hlt' : n.toNat < s.size := by simpa using hlt
            rw [getElem?_pos s n.toNat hlt']
            have := (List.getElem?_eq_some_iff.1 hb).2
            rw [← this]; simp; rfl
          exact ⟨_, fun w => by simp [execOp, hi, hx, Instr.index, asIntOf, run_underlying hu, h1, hb'], hk⟩
        · exact h.elim
      · rename_i m e hu
        split at h
        · rename_i cs hx
          split at h
          · rename_i s hs
            obtain ⟨h1, h2, hk⟩ := h
            rw [szMul_eq] at hk
            obtain ⟨v, hr, hk⟩ := partPT_run hk
            exact ⟨v, fun w => by simp [execOp, hi, hx, Instr.index, asIntOf, run_underlying hu, h1, h2, run_sizeOf' hs, hr w], hk⟩
          · exact h.elim
        · exact h.elim
      · exact h.elim
    · exact h.elim
  · -- extract
    rename_i x i
    split at h
    · rename_i vs hx
      split at h
      · rename_i v hv
        exact ⟨_, fun w => by simp [execOp, hx, Instr.extract, hv], h⟩
      · exact h.elim
    · exact h.elim
  · -- slice
    rename_i ty x lo hi mx
    split at h
    · rename_i hu
      split at h
      · rename_i s hx
        split at h
        · obtain ⟨l, hh, m, hr, hk⟩ := boundsPT_run h P
          refine ⟨_, fun w => ?_, hk⟩
          simp [execOp, hx, Instr.sliceAt, Instr.slice, run_underlying hu, hr]
        · exact h.elim
      · exact h.elim
    · rename_i e hu
      split at h
      · rename_i a len cap hx
        split at h
        · rename_i s hs
          obtain ⟨l, hh, m, hr, hk⟩ := boundsPT_run h P
          refine ⟨_, fun w => ?_, hk⟩
          simp [execOp, hx, Instr.sliceAt, Instr.slice, run_underlying hu, hr, run_sizeOf' hs, sliceRes]
        · exact h.elim
      · exact h.elim
    · rename_i n e hu
      split at h
      · rename_i p hx
        obtain ⟨a, rfl, h⟩ := ptrSome_elim h
        split at h
        · rename_i s hs
          obtain ⟨l, hh, m, hr, hk⟩ := boundsPT_run h P
          refine ⟨_, fun w => ?_, hk⟩
          simp [execOp, hx, Instr.sliceAt, run_underlying hu, hr, run_sizeOf' hs, sliceRes, Instr.sureAddr]
          split <;> simp
        · exact h.elim
      · exact h.elim
    · exact h.elim
  · -- call
    rename_i c
    obtain ⟨callee, args, argTypes⟩ := c
    simp only at h
    have harr : ∀ (xs : List Operand), args.toList = xs → args = ⟨xs⟩ := fun xs hx => by rw [← hx]
    have htyp : ∀ (xs : List TypeId), argTypes.toList = xs → argTypes = ⟨xs⟩ := fun xs hx => by rw [← hx]
    split at h
    · rename_i b
      split at h
      · split at h
        · rename_i ty x h1 h2
          obtain rfl := harr _ h2
          obtain rfl := htyp _ h1
          split at h
          · rename_i e a n c hu hx
            exact ⟨_, fun w => by simp [execOp, resolve, invoke, builtin, hx, Builtin.len_, run_underlying hu, goInt], h⟩
          · rename_i s hu hx
            exact ⟨_, fun w => by simp [execOp, resolve, invoke, builtin, hx, Builtin.len_, run_underlying hu, goInt], h⟩
          · exact h.elim
        · exact h.elim
      · split at h
        · rename_i ty x h1 h2
          obtain rfl := harr _ h2
          obtain rfl := htyp _ h1
          split at h
          · rename_i e a n c hu hx
            exact ⟨_, fun w => by simp [execOp, resolve, invoke, builtin, hx, Builtin.cap_, run_underlying hu, goInt], h⟩
          · exact h.elim
        · exact h.elim
      · split at h
        · rename_i x y h2
          obtain rfl := harr _ h2
          split at h
          · rename_i κ a κ' b hx hy
            exact ⟨_, fun w => by simp [execOp, resolve, invoke, builtin, hx, hy, Builtin.min_, Builtin.min2], h⟩
          · exact h.elim
        · exact h.elim
      · split at h
        · rename_i x y h2
          obtain rfl := harr _ h2
          split at h
          · rename_i κ a κ' b hx hy
            exact ⟨_, fun w => by simp [execOp, resolve, invoke, builtin, hx, hy, Builtin.max_, Builtin.max2], h⟩
          · exact h.elim
        · rename_i x y z h2
          obtain rfl := harr _ h2
          split at h
          · rename_i κ a κ' b κ'' c hx hy hz
            exact ⟨_, fun w => by simp [execOp, resolve, invoke, builtin, hx, hy, hz, Builtin.max_, Builtin.max2], h⟩
          · exact h.elim
        · exact h.elim
      · exact h.elim
    · exact h.elim
  · exact h.elim
end Go.Wk
