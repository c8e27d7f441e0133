import Derived.Test.YtgdkahbnepafgaaDoorWkOp2
namespace Go.Wk
open Go

/-! ### operators that look at nothing but their operands -/
theorem br_dec {c : Prop} [Decidable c] {X : Prop} (h : br (decide c) X False) : c ∧ X := by
  cases hk : decide c with
  | false => rw [hk] at h; exact h.elim
  | true => rw [hk] at h; exact ⟨of_decide_eq_true hk, h⟩
theorem br_not {b : Bool} {X : Prop} (h : br b False X) : b = false ∧ X := by
  cases b with
  | false => exact ⟨rfl, h⟩
  | true => exact h.elim

def intPT (op : BinOp) (κ : IntKind) (a b : Int) (k : Value → Prop) : Prop :=
  match op with
  | .add => k (.int κ (κ.wrap (a + b)))
  | .sub => k (.int κ (κ.wrap (a - b)))
  | .mul => k (.int κ (κ.wrap (a * b)))
  | .quo => br (b == 0) False (k (.int κ (κ.wrap (a.tdiv b))))
  | .rem => br (b == 0) False (k (.int κ (a.tmod b)))
  | .and => k (.int κ (bits .and κ a b))
  | .or => k (.int κ (bits .or κ a b))
  | .xor => k (.int κ (bits .xor κ a b))
  | .andNot => k (.int κ (bits .andNot κ a b))
  | .eql => k (.bool (a == b))
  | .neq => k (.bool (a != b))
  | .lss => k (.bool (decide (a < b)))
  | .leq => k (.bool (decide (a ≤ b)))
  | .gtr => k (.bool (decide (a > b)))
  | .geq => k (.bool (decide (a ≥ b)))
  | _ => False

def shiftN (κ : IntKind) (b : Int) : Nat := min b.toNat κ.bits
def shiftPT (op : BinOp) (κ : IntKind) (a b : Int) (k : Value → Prop) : Prop :=
  match op with
  | .shl => br (decide (b < 0)) False (k (.int κ (κ.wrap (a * 2 ^ shiftN κ b))))
  | .shr => br (decide (b < 0)) False (k (.int κ (a.fdiv (2 ^ shiftN κ b))))
  | _ => False

def fcmpPT (op : BinOp) (κ : FloatKind) (a b : Nat) (k : Value → Prop) : Prop :=
  match op with
  | .eql => k (.bool (feq κ a b))
  | .neq => k (.bool (fne κ a b))
  | .lss => k (.bool (flt κ a b))
  | .leq => k (.bool (fle κ a b))
  | .gtr => k (.bool (fgt κ a b))
  | .geq => k (.bool (fge κ a b))
  | _ => False

def strPT (op : BinOp) (a b : ByteArray) (k : Value → Prop) : Prop :=
  match op with
  | .add => ((a.size + b.size : Nat) : Int) ≤ 9223372036854775807 ∧ k (.string (a ++ b))
  | .eql => k (.bool (a.toList == b.toList))
  | .neq => k (.bool (!(a.toList == b.toList)))
  | _ => False

def isShift : BinOp → Bool | .shl | .shr => true | _ => false
def isArith : BinOp → Bool | .add | .sub | .mul | .quo => true | _ => false

def binLc (P : Program) (op : BinOp) (ty : TypeId) (x y : Value) (k : Value → Prop) : Prop :=
  match x with
  | .int κ a =>
    match y with
    | .int κ' b =>
      match isShift op with
      | true => shiftPT op κ a b k
      | false => br (decide (κ = κ')) (intPT op κ a b k) False
    | _ => False
  | .float κ a =>
    match y with
    | .float κ' b => br (decide (κ = κ')) (fcmpPT op κ a b k) False
    | _ => False
  | .string a =>
    match y with
    | .string b => strPT op a b k
    | _ => False
  | .bool a =>
    match y with
    | .bool b =>
      match P.underlying ty with
      | some .bool =>
        match op with
        | .eql => k (.bool (a == b))
        | .neq => k (.bool (!(a == b)))
        | _ => False
      | _ => False
    | _ => False
  | _ => False

section
variable {P : Program} {op : BinOp} {ty : TypeId} {xo yo : Operand} {k : Value → Prop}
theorem intPT_run {κ : IntKind} {a b : Int} (h : intPT op κ a b k) :
    ∃ v, (∀ w, (do eqGuard op ty xo yo (.int κ a) (.int κ b); binOp op ty (.int κ a) (.int κ b) : Sem Value).run P w = .ok v w) ∧ k v := by
  have hg : eqGuard op ty xo yo (.int κ a) (.int κ b) = pure () := eqGuard_at_int ..
  unfold intPT at h
  cases op <;> simp only at h <;> first
    | exact h.elim
    | (refine ⟨_, fun w => ?_, h⟩; simp [hg, binOp, Op.intArith, Op.intCmp]; done)
    | (refine ⟨_, fun w => ?_, h⟩; simp [hg, binOp_and, binOp_or, binOp_xor, binOp_andNot, intBits_and, intBits_or, intBits_xor, intBits_andNot]; done)
    | skip
  all_goals
    obtain ⟨hb, h⟩ := br_not h
    have hb' : b ≠ 0 := by simpa using hb
    exact ⟨_, fun w => by simp [hg, binOp, Op.intDiv, hb'], h⟩

theorem shiftPT_run {κ κ' : IntKind} {a b : Int} (h : shiftPT op κ a b k) :
    ∃ v, (∀ w, (do eqGuard op ty xo yo (.int κ a) (.int κ' b); binOp op ty (.int κ a) (.int κ' b) : Sem Value).run P w = .ok v w) ∧ k v := by
  have hg : eqGuard op ty xo yo (.int κ a) (.int κ' b) = pure () := eqGuard_at_int ..
  unfold shiftPT at h
  cases op <;> simp only at h <;> first
    | exact h.elim
    | skip
  all_goals
    obtain ⟨hb, h⟩ := br_not h
    have hb' : ¬ b < 0 := by simpa using hb
    exact ⟨_, fun w => by simp [hg, binOp, Op.shift, hb', shiftN], h⟩

theorem fcmpPT_run {κ : FloatKind} {a b : Nat} (h : fcmpPT op κ a b k) :
    ∃ v, (∀ w, (do eqGuard op ty xo yo (.float κ a) (.float κ b); binOp op ty (.float κ a) (.float κ b) : Sem Value).run P w = .ok v w) ∧ k v := by
  have hg : eqGuard op ty xo yo (.float κ a) (.float κ b) = pure () := eqGuard_at_float ..
  unfold fcmpPT at h
  cases op <;> simp only at h <;> first
    | exact h.elim
    | (refine ⟨_, fun w => ?_, h⟩; simp [hg, binOp, Op.floatCmp, feq, fne, flt, fle, fgt, fge]; done)

theorem strPT_run {a b : ByteArray} (h : strPT op a b k) :
    ∃ v, (∀ w, (do eqGuard op ty xo yo (.string a) (.string b); binOp op ty (.string a) (.string b) : Sem Value).run P w = .ok v w) ∧ k v := by
  have hg : eqGuard op ty xo yo (.string a) (.string b) = pure () := eqGuard_at_string ..
  unfold strPT at h
  cases op <;> simp only at h <;> first
    | exact h.elim
    | (refine ⟨_, fun w => ?_, h⟩; simp [hg, binOp, Op.stringOp]; done)
    | skip
  obtain ⟨h1, h2⟩ := h
  have h3 : ¬ ((a.size + b.size : Nat) : Int) > IntKind.i64.max := by rw [IntKind.max_i64]; omega
  exact ⟨_, fun w => by simp only [hg, binOp, Op.stringOp, if_neg h3]; rfl, h2⟩

theorem binLc_run {x y : Value} (h : binLc P op ty x y k) :
    ∃ v, (∀ w, (do eqGuard op ty xo yo x y; binOp op ty x y : Sem Value).run P w = .ok v w) ∧ k v := by
  unfold binLc at h
  split at h
  · split at h
    · split at h
      · exact shiftPT_run h
      · obtain ⟨rfl, h'⟩ := br_dec h
        exact intPT_run h'
    · exact h.elim
  · split at h
    · obtain ⟨rfl, h'⟩ := br_dec h
      exact fcmpPT_run h'
    · exact h.elim
  · split at h
    · exact strPT_run h
    · exact h.elim
  · split at h
    · split at h
      · rename_i hu
        split at h
        · exact ⟨_, fun w => by rw [eqGuard_at_bool]; exact run_eql_bool w _ _ _ hu, h⟩
        · exact ⟨_, fun w => by rw [eqGuard_at_bool]; exact run_neq_bool w _ _ _ hu, h⟩
        · exact h.elim
      · exact h.elim
    · exact h.elim
  · exact h.elim
end

def unPT (op : UnOp) (x : Value) (k : Value → Prop) : Prop :=
  match x with
  | .int κ n =>
    match op with
    | .neg => k (.int κ (κ.wrap (0 - n)))
    | .xor => k (.int κ (bits .xor κ (if κ.signed then -1 else κ.max) n))
    | _ => False
  | .float κ b =>
    match op with
    | .neg => k (.float κ (Op.negFloat κ b))
    | _ => False
  | .bool b =>
    match op with
    | .not => k (.bool !b)
    | _ => False
  | _ => False

theorem unPT_run {P : Program} {op : UnOp} {x : Value} {k : Value → Prop} (h : unPT op x k) :
    ∃ v, (∀ w, (Op.unary op x).run P w = .ok v w) ∧ k v := by
  unfold unPT at h
  split at h
  · split at h
    · exact ⟨_, fun w => by simp [Op.unary, Op.intArith], h⟩
    · exact ⟨_, fun w => rfl, h⟩
    · exact h.elim
  · split at h
    · exact ⟨_, fun w => rfl, h⟩
    · exact h.elim
  · split at h
    · exact ⟨_, fun w => rfl, h⟩
    · exact h.elim
  · exact h.elim

def cvLc (P : Program) (src dst : TypeId) (x : Value) (k : Value → Prop) : Prop :=
  match (P.underlying src).isSome with
  | true =>
    match P.underlying dst with
    | some (.int κ) =>
      match x with
      | .int _ n => k (.int κ (κ.wrap n))
      | .float s b => ∃ n, floatToIntVal s b κ = some n ∧ k (.int κ n)
      | _ => False
    | some (.float κ) =>
      match x with
      | .int _ n => k (.float κ (floatOfInt κ n))
      | .float s b => br (decide (s = κ)) (k (.float κ b)) False
      | _ => False
    | some .string =>
      match x with
      | .string s => k (.string s)
      | _ => False
    | _ => False
  | false => False

theorem cvLc_run {P : Program} {src dst : TypeId} {x : Value} {k : Value → Prop} (h : cvLc P src dst x k) :
    ∃ v, (∀ w, (convert src dst x).run P w = .ok v w) ∧ k v := by
  unfold cvLc at h
  split at h
  case h_2 => exact h.elim
  rename_i hs
  obtain ⟨d, hd⟩ := Option.isSome_iff_exists.1 hs
  split at h
  · rename_i κ hu
    split at h
    · exact ⟨_, fun w => by simp [convert, run_underlying hd, run_underlying hu, Conv.intToInt], h⟩
    · obtain ⟨n, hn, h⟩ := h
      exact ⟨_, fun w => run_convert_float_int w _ _ _ _ _ _ hs hu hn, h⟩
    · exact h.elim
  · rename_i κ hu
    split at h
    · exact ⟨_, fun w => run_convert_int_float w _ _ _ _ _ hs hu, h⟩
    · obtain ⟨rfl, h'⟩ := br_dec h
      exact ⟨_, fun w => run_convert_float_float w _ _ _ _ _ _ hs hu (by simp [floatToFloatBits]), h'⟩
    · exact h.elim
  · rename_i hu
    split at h
    · refine ⟨_, fun w => ?_, h⟩
      cases d <;> simp [convert, run_underlying hd, run_underlying hu]
    · exact h.elim
  · exact h.elim

/-- A struct's field, by value. -/
def partPT (P : Program) (ty : TypeId) (cs : List Value) (off : Nat) (k : Value → Prop) : Prop :=
  match aggT P ty with
  | true => match szOf P ty with | some n => k (.agg ⟨(cs.drop off).take n⟩) | none => False
  | false => match P.underlying ty with
    | some _ => match cs[off]? with | some v => k v | none => False
    | none => False

theorem aggT_run {P : Program} {ty : TypeId} {d : TypeDesc} (hd : P.underlying ty = some d) (w : World) : (isAgg ty).run P w = .ok (aggT P ty) w := by
  unfold isAgg aggT
  simp only [Sem.run_bind, run_underlying hd, Result.andThen_ok, hd]
  cases d <;> rfl

theorem partPT_run {P : Program} {ty : TypeId} {cs : List Value} {off : Nat} {k : Value → Prop} (h : partPT P ty cs off k) :
    ∃ v, (∀ w, (part ty ⟨cs⟩ off).run P w = .ok v w) ∧ k v := by
  unfold partPT at h
  cases ha : aggT P ty with
  | true =>
    rw [ha] at h
    simp only at h
    have hd : ∃ d, P.underlying ty = some d := by
      unfold aggT at ha
      split at ha <;> first | exact ⟨_, ‹_›⟩ | cases ha
    obtain ⟨d, hd⟩ := hd
    split at h
    · rename_i n hn
      refine ⟨_, fun w => ?_, h⟩
      have := aggT_run hd w
      rw [ha] at this
      simp [part, this, run_sizeOf' hn, List.take_drop]
    · exact h.elim
  | false =>
    rw [ha] at h
    simp only at h
    split at h
    · rename_i d hd
      split at h
      · rename_i v hv
        refine ⟨_, fun w => ?_, h⟩
        have := aggT_run hd w
        rw [ha] at this
        simp [part, this, hv]
      · exact h.elim
    · exact h.elim

def fieldOf (P : Program) (s : TypeId) (f : Nat) : Option Field :=
  match P.underlying s with
  | some (.struct fs) => fs.toList[f]?
  | _ => none

theorem fieldOf_run {P : Program} {s : TypeId} {f : Nat} {fd : Field} (h : fieldOf P s f = some fd) :
    ∃ fs, P.underlying s = some (.struct fs) ∧ fs[f]? = some fd := by
  unfold fieldOf at h
  split at h
  · rename_i fs hu; exact ⟨fs, hu, by simpa using h⟩
  · cases h

/-- The place of an element. -/
def idxPT (a : Addr) (i : Int) (s : Nat) (k : Value → Prop) : Prop :=
  match s with
  | 1 => k (.pointer (some (a.add i.toNat)))
  | s => k (.pointer (some (a.add (i.toNat * s))))
theorem idxPT_eq (a : Addr) (i : Int) (s : Nat) (k : Value → Prop) : idxPT a i s k = k (.pointer (some (a.add (i.toNat * s)))) := by
  unfold idxPT
  split
  · rw [Nat.mul_one]
  · rfl

/-- Operations that look at nothing but the frame, and leave the world alone. -/
def lcPT (P : Program) (o : Op) (t : List Value) (k : Value → Prop) : Prop :=
  match o with
  | .move x => k (ev t x)
  | .assign x => k (ev t x)
  | .pick c a b =>
    match ev t c with
    | .bool c => br c (k (ev t a)) (k (ev t b))
    | _ => False
  | .binOp op ty x y _ => binLc P op ty (ev t x) (ev t y) k
  | .unOp op _ x => unPT op (ev t x) k
  | .convert s d x => cvLc P s d (ev t x) k
  | .makeFunc fn fi ca => k (.func fn ⟨fi.toList.map (ev t)⟩ ⟨ca.toList.map (ev t)⟩)
  | .makeInterface ty x => br (P.concrete ty) (k (.iface ty (ev t x))) False
  | .build ty parts =>
    match builtL P ty (parts.toList.map fun p => (p.1, ev t p.2)) with
    | some cs => k (.agg ⟨cs⟩)
    | none => False
  | .nilCheck x =>
    match ev t x with
    | .pointer p => ptrSome p fun a => k (.pointer (some a))
    | .func (.func f) fi ca => k (.func (.func f) fi ca)
    | _ => False
  | .fieldAddr s x f =>
    match ev t x with
    | .pointer p => ptrSome p fun a =>
      match fieldOf P s f with
      | some fd => match szOf P fd.type with
        | some (_ + 1) => k (.pointer (some (a.add fd.offset)))
        | _ => False
      | none => False
    | _ => False
  | .field s x f =>
    match ev t x with
    | .agg ⟨cs⟩ =>
      match fieldOf P s f with
      | some fd => partPT P fd.type cs fd.offset k
      | none => False
    | _ => False
  | .indexAddr ty x i =>
    match ev t i with
    | .int _ i =>
      match P.underlying ty with
      | some (.slice e) =>
        match ev t x with
        | .slice p len _ => ptrSome p fun a =>
          match szOf P e with
          | some s => 0 ≤ i ∧ i < (len : Int) ∧ idxPT a i s k
          | none => False
        | _ => False
      | some (.array n e) =>
        match ev t x with
        | .pointer p => ptrSome p fun a =>
          match szOf P e with
          | some s => 0 ≤ i ∧ i < (n : Int) ∧ idxPT a i s k
          | none => False
        | _ => False
      | _ => False
    | _ => False
  | .index ty x i =>
    match ev t i with
    | .int _ i =>
      match P.underlying ty with
      | some .string =>
        match ev t x with
        | .string s => 0 ≤ i ∧ ∃ b : UInt8, s.data.toList[i.toNat]? = some b ∧ k (.int .u8 b.toNat)
        | _ => False
      | some (.array n e) =>
        match ev t x with
        | .agg ⟨cs⟩ =>
          match szOf P e with
          | some s => 0 ≤ i ∧ i < (n : Int) ∧ partPT P e cs (szMul i.toNat s) k
          | none => False
        | _ => False
      | _ => False
    | _ => False
  | .extract x i =>
    match ev t x with
    | .tuple ⟨vs⟩ => match vs[i]? with | some v => k v | none => False
    | _ => False
  | .slice ty x lo hi mx =>
    match P.underlying ty with
    | some .string =>
      match ev t x with
      | .string s =>
        match mx with
        | none => boundsPT s.size s.size (lo.map (ev t)) (hi.map (ev t)) none fun l h _ => k (.string (s.extract l h))
        | some _ => False
      | _ => False
    | some (.slice e) =>
      match ev t x with
      | .slice a len cap =>
        match szOf P e with
        | some s => boundsPT len cap (lo.map (ev t)) (hi.map (ev t)) (mx.map (ev t)) fun l h m => k (sliceRes a l h m s)
        | none => False
      | _ => False
    | some (.array n e) =>
      match ev t x with
      | .pointer p => ptrSome p fun a =>
        match szOf P e with
        | some s => boundsPT n n (lo.map (ev t)) (hi.map (ev t)) (mx.map (ev t)) fun l h m => k (sliceRes (some a) l h m s)
        | none => False
      | _ => False
    | _ => False
  | .call c =>
    match c.callee with
    | .builtin b =>
      match b with
      | .len =>
        match c.argTypes.toList, c.args.toList with
        | [ty], [x] =>
          match P.underlying ty, ev t x with
          | some (.slice _), .slice _ n _ => k (.int .i64 n)
          | some .string, .string s => k (.int .i64 s.size)
          | _, _ => False
        | _, _ => False
      | .cap =>
        match c.argTypes.toList, c.args.toList with
        | [ty], [x] =>
          match P.underlying ty, ev t x with
          | some (.slice _), .slice _ _ n => k (.int .i64 n)
          | _, _ => False
        | _, _ => False
      | .min =>
        match c.args.toList with
        | [x, y] =>
          match ev t x, ev t y with
          | .int κ a, .int _ b => k (.int κ (if b < a then b else a))
          | _, _ => False
        | _ => False
      | .max =>
        match c.args.toList with
        | [x, y] =>
          match ev t x, ev t y with
          | .int κ a, .int _ b => k (.int κ (if b > a then b else a))
          | _, _ => False
        | [x, y, z] =>
          match ev t x, ev t y, ev t z with
          | .int κ a, .int _ b, .int _ c => k (.int κ (if c > (if b > a then b else a) then c else (if b > a then b else a)))
          | _, _, _ => False
        | _ => False
      | _ => False
    | _ => False
  | _ => False
end Go.Wk
