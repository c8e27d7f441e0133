import Derived.Test.YtgdkahbnepafgaaDoorWkLc
namespace Go.Wk
open Go

/-- Is it an operation that looks at nothing but the frame? -/
def isLoc (P : Program) (o : Op) (t : List Value) : Bool :=
  match o with
  | .alloc _ | .box _ _ | .buildSlice .. | .load _ _ | .store .. | .makeSlice .. => false
  | .binOp op _ x _ _ =>
    match ev t x with
    | .int _ _ | .string _ | .bool _ => true
    | .float _ _ => !isArith op
    | _ => false
  | .convert _ d x =>
    match P.underlying d with
    | some (.int _) | some (.float _) => true
    | some .string => match ev t x with | .string _ => true | _ => false
    | _ => false
  | .call c =>
    match c.callee with
    | .builtin b =>
      match b with
      | .len | .cap => true
      | .min | .max =>
        match c.args.toList with
        | x :: _ => match ev t x with | .int _ _ => true | _ => false
        | _ => false
      | _ => false
    | _ => false
  | _ => true

def mkPT (P : Program) (ty : TypeId) (l c : Value) (w : World) (k : Value → World → Prop) : Prop :=
  match P.underlying ty with
  | some (.slice e) =>
    match P.info? e with
    | some i =>
      match i.zero.map cellsL with
      | some z =>
        match l with
        | .int _ n =>
          match c with
          | .int _ m => 0 ≤ n ∧ n ≤ m ∧ ((i.bytes : Nat) : Int) * m ≤ 281474976710656 ∧ m ≤ 9223372036854775807 ∧
              newB ((List.range (szMul m.toNat i.size)).map fun j => z.getD (j % z.length) default) e w fun a w' => k (.slice (some a) n.toNat m.toNat) w'
          | _ => False
        | _ => False
      | none => False
    | none => False
  | _ => False

def callPT (P : Program) (ty : TypeId) (f : Value) (args : List Value) (w : World) (k : Value → World → Prop) : Prop :=
  match f with
  | .func (.func g) fi ca => CallF P g (fi.toList ++ args ++ ca.toList) w fun v w' => shV P ty v fun v' => k v' w'
  | _ => False

def woPT (P : Program) (o : Oper) (t : List Value) (w : World) (k : Value → World → Prop) : Prop :=
  match o.op with
  | .alloc e =>
    match zeroOf P e with
    | some cs => newB cs e w fun a w' => k (.pointer (some a)) w'
    | none => False
  | .box e x => newB (cellsL (ev t x)) e w fun a w' => k (.pointer (some a)) w'
  | .buildSlice ty n parts =>
    match P.underlying ty with
    | some (.slice e) =>
      match szOf P e with
      | some s =>
        match zeroOf P e with
        | some z =>
          match litL z s n (parts.toList.map fun p => (p.1, ev t p.2)) with
          | some cs => br (decide (szMul n s ≤ 16777216)) (newB cs e w fun a w' => k (.slice (some a) n n) w') False
          | none => False
        | none => False
      | none => False
    | _ => False
  | .load ty a =>
    match ev t a with
    | .pointer p => ptrSome p fun a => ldPT P ty a w k
    | _ => False
  | .store ty a v =>
    match ev t a with
    | .pointer p => ptrSome p fun a => br (sizeIs P ty (cellsL (ev t v)).length) (stPT a 0 (cellsL (ev t v)) w fun w' => k undef w') False
    | _ => False
  | .makeSlice ty l c => mkPT P ty (ev t l) (ev t c) w k
  | .binOp op ty x y _ =>
    match ev t x with
    | .float κ a =>
      match ev t y with
      | .float κ' b =>
        match isArith op with
        | true => br (decide (κ = κ')) (fop op κ a b w fun r w' => k (.float κ r) w') False
        | false => False
      | _ => False
    | vx => Raw P (do eqGuard op ty x y vx (ev t y); binOp op ty vx (ev t y)) w fun v w' => ∃ b, v = .bool b ∧ k (.bool b) w'
  | .convert s d x => Raw P (convert s d (ev t x)) w fun v w' => shV P o.type v fun v' => k v' w'
  | .call c =>
    match c.callee with
    | .value f => callPT P o.type (ev t f) (c.args.toList.map (ev t)) w k
    | .builtin b =>
      match b with
      | .append => Raw P (Builtin.append_ c.argTypes o.type ⟨c.args.toList.map (ev t)⟩) w fun v w' => ∃ a n m, v = .slice a n m ∧ k (.slice a n m) w'
      | .copy => Raw P (Builtin.copy_ c.argTypes o.type ⟨c.args.toList.map (ev t)⟩) w fun v w' => ∃ i, v = .int .i64 i ∧ k (.int .i64 i) w'
      | .min => Raw P (Builtin.min_ c.argTypes o.type ⟨c.args.toList.map (ev t)⟩) w fun v w' => shV P o.type v fun v' => k v' w'
      | .max => Raw P (Builtin.max_ c.argTypes o.type ⟨c.args.toList.map (ev t)⟩) w fun v w' => shV P o.type v fun v' => k v' w'
      | _ => False
    | _ => False
  | _ => False

theorem Raw_elim {P : Program} {s : Sem Value} {w : World} {k : Value → World → Prop} (h : Raw P s w k) : ∃ v w', s.run P w = .ok v w' ∧ k v w' := by
  unfold Raw at h
  split at h
  · rename_i v w' e; exact ⟨v, w', e, h⟩
  · exact h.elim

theorem args_map (args : Array Operand) (t : List Value) : args.map (ev t) = ⟨args.toList.map (ev t)⟩ := by
  apply Array.ext'; simp

theorem woPT_sound {P : Program} {o : Oper} {t : List Value} {w : World} {k : Value → World → Prop} (h : woPT P o t w k) :
    upon P k ((execOp (ev t) o).run P w) := by
  have val : ∀ {v w'}, (execOp (ev t) o).run P w = .ok (.value v) w' → k v w' → upon P k ((execOp (ev t) o).run P w) := by
    intro v w' e hk; rw [e]; exact hk
  obtain ⟨dst, op, type, pos, after, guard⟩ := o
  simp only [woPT] at h
  split at h
  · -- alloc
    rename_i e
    split at h
    · rename_i cs hz
      obtain ⟨v, hv, rfl⟩ := zeroOf_run hz w
      refine val (w' := w.alloc (.cells ⟨cellsL v⟩ e)) ?_ h
      simp [execOp, Instr.alloc, hv, newVar, newRow, cells_eq]
    · exact h.elim
  · -- box
    rename_i e x
    refine val (w' := w.alloc (.cells ⟨cellsL (ev t x)⟩ e)) ?_ h
    simp [execOp, Instr.box, newVar, newRow, cells_eq]
  · -- buildSlice
    rename_i ty n parts
    split at h
    · rename_i e hu
      split at h
      · rename_i s hs
        split at h
        · rename_i z hz
          split at h
          · rename_i cs hl
            obtain ⟨hb, h⟩ := br_dec h
            have hp : (parts.map fun (i, x) => (i, ev t x)).toList = parts.toList.map fun p => (p.1, ev t p.2) := by simp
            rw [← hp] at hl
            refine val (w' := w.alloc (.cells ⟨cs⟩ e)) ?_ h
            simp only [execOp, Sem.run_bind, run_buildSlice hu hs hz hb hl w, Result.andThen_ok]
            rfl
          · exact h.elim
        · exact h.elim
      · exact h.elim
    · exact h.elim
  · -- load
    rename_i ty a
    split at h
    · rename_i p hp
      obtain ⟨a, rfl, h⟩ := ptrSome_elim h
      obtain ⟨v, hr, hk, _⟩ := ldPT_sound h
      exact val (by simp [execOp, hp, Instr.loadAt, Instr.sureAddr, hr]) hk
    · exact h.elim
  · -- store
    rename_i ty ao v
    split at h
    · rename_i p hp
      obtain ⟨a, rfl, h⟩ := ptrSome_elim h
      cases hs : sizeIs P ty (cellsL (ev t v)).length with
      | false => rw [hs] at h; exact h.elim
      | true =>
        rw [hs] at h
        obtain ⟨w', hr, hk⟩ := stPT_sound (P := P) h
        have hr' := run_storeVar hs hr
        have : (execOp (ev t) { dst, op := .store ty ao v, type, pos, after, guard }).run P w = .ok .skip w' := by
          simp [execOp, hp, Instr.storeAt, Instr.sureAddr, hr']
        rw [this]
        exact hk
    · exact h.elim
  · -- makeSlice
    rename_i ty l c
    unfold mkPT at h
    split at h
    · rename_i e hu
      split at h
      · rename_i i hi
        split at h
        · rename_i z hz
          split at h
          · rename_i κ n hl
            split at h
            · rename_i κ' m hc
              obtain ⟨h1, h2, h3, h4, h⟩ := h
              cases hzz : i.zero with
              | none => simp [hzz] at hz
              | some zv =>
                simp [hzz] at hz
                have hr := run_make (P := P) w ty e i zv hu hi hzz κ κ' n m h1 h2 h3 h4
                have harr : madeCells zv.cells (m.toNat * i.size) = ⟨(List.range (szMul m.toNat i.size)).map fun j => z.getD (j % z.length) default⟩ := by
                  unfold madeCells
                  rw [szMul_eq]
                  apply Array.ext'
                  simp only [Array.toList_map, Array.toList_range]
                  apply List.map_congr_left
                  intro j _
                  rw [cells_eq, hz]
                  simp [getElem!_def, List.getD]
                  cases z[j % z.length]? <;> rfl
                rw [harr] at hr
                refine val (w' := _) ?_ h
                simp [execOp, hl, hc, hr]
            · exact h.elim
          · exact h.elim
        · exact h.elim
      · exact h.elim
    · exact h.elim
  · -- binOp
    rename_i op ty x y yt
    split at h
    · rename_i κ a hx
      split at h
      · rename_i κ' b hy
        split at h
        · rename_i ha
          obtain ⟨rfl, h'⟩ := br_dec h
          have hop : op = .add ∨ op = .sub ∨ op = .mul ∨ op = .quo := by
            cases op <;> simp [isArith] at ha <;> simp
          obtain ⟨r, w', hr, hk⟩ := fop_sound (P := P) (t := ty) hop h'
          have hg : eqGuard op ty x y (.float κ a) (.float κ b) = pure () := eqGuard_at_float ..
          exact val (v := .float κ r) (w' := w') (by simp [execOp, hx, hy, hg, hr]) hk
        · exact h.elim
      · exact h.elim
    · rename_i hx
      obtain ⟨v, w', hr, b, rfl, hk⟩ := Raw_elim h
      refine val (v := .bool b) (w' := w') ?_ hk
      simp only [execOp]
      rw [Sem.run_bind, hr]
      rfl
  · obtain ⟨v, w', hr, hk⟩ := Raw_elim h
    exact val (by simp [execOp, hr]) (shV_elim hk)
  · -- call
    rename_i c
    obtain ⟨callee, args, argTypes⟩ := c
    simp only at h
    split at h
    · rename_i f
      unfold callPT at h
      split at h
      · rename_i g fi ca hf
        unfold CallF at h
        have : (execOp (ev t) { dst, op := .call { callee := .value f, args, argTypes }, type, pos, after, guard }).run P w =
            (callFunc g ⟨fi.toList ++ args.toList.map (ev t) ++ ca.toList⟩).run P w := by
          simp only [execOp, resolve, args_map, hf, Deferred.ofValue]
          simp [invoke]
          congr 2
          apply Array.ext'
          simp
        rw [this]
        exact upon_mono (fun v w' hk => shV_elim hk) h
      · exact h.elim
    · rename_i b
      split at h
      · obtain ⟨v, w', hr, a, n, m, rfl, hk⟩ := Raw_elim h
        exact val (by simp [execOp, resolve, args_map, invoke, builtin, hr]) hk
      · obtain ⟨v, w', hr, i, rfl, hk⟩ := Raw_elim h
        exact val (by simp [execOp, resolve, args_map, invoke, builtin, hr]) hk
      · obtain ⟨v, w', hr, hk⟩ := Raw_elim h
        exact val (by simp [execOp, resolve, args_map, invoke, builtin, hr]) (shV_elim hk)
      · obtain ⟨v, w', hr, hk⟩ := Raw_elim h
        exact val (by simp [execOp, resolve, args_map, invoke, builtin, hr]) (shV_elim hk)
      · exact h.elim
    · exact h.elim
  · exact h.elim

/-- One operation. -/
def opPT (P : Program) (o : Oper) (t : List Value) (w : World) (k : Value → World → Prop) : Prop :=
  match isLoc P o.op t with
  | true => lcPT P o.op t fun v => k v w
  | false => woPT P o t w k

theorem opPT_sound {P : Program} {o : Oper} {t : List Value} {w : World} {k : Value → World → Prop} (h : opPT P o t w k) :
    upon P k ((execOp (ev t) o).run P w) := by
  unfold opPT at h
  split at h
  · obtain ⟨v, hr, hk⟩ := lcPT_run h
    rw [hr w]; exact hk
  · exact woPT_sound h

theorem opWp {P : Program} {o : Oper} {t : List Value} {w : World} {k : Value → World → Prop} {next : Act → World → Prop} {Q : Exit → Act → World → Prop}
    (h : upon P k ((execOp (ev t) o).run P w)) (hn : ∀ v w', k v w' → next (act (put t o.dst v)) w') : o.wp P (act t) w next Q := by
  unfold Oper.wp
  rw [act_eval']
  generalize (execOp (ev t) o).run P w = r at *
  cases r with
  | ok n w' =>
    cases n <;> simp only [upon] at h <;> simp only [Oper.upon] <;> first
      | exact h.elim
      | (rw [act_put]; exact hn _ _ h)
      | skip
    refine h.mono fun e w'' he => ?_
    cases e <;> simp only [Ret] at he
    · show next ((act t).put o.dst _) w''
      rw [act_put]; exact hn _ _ he
  | halt x w' => exact h.elim
end Go.Wk
