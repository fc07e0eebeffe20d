/- The operations that only compute, on abstract values. By a session's own hand. -/
import Derived.Test.YtlpenkjkggopiaaGreatMA
import Derived.Laws.Sem
set_option linter.unusedSimpArgs false
set_option linter.unusedVariables false
namespace Go.Mir

inductive TD where
  | bool | int (k : IntKind) | string | pointer (e : TypeId) | slice (e : TypeId) | array (n : Nat) (e : TypeId)
  | struct (fs : List (Nat × TypeId)) | map (k e : TypeId) | func | unsafeP | other

structure TK where
  desc : TD
  size : Nat
  bytes : Nat
  zero : List Value

abbrev Tab := Nat → Option TK

def TDOK : TypeDesc → TD → Prop
  | .bool, .bool => True
  | .int k, .int k' => k = k'
  | .string, .string => True
  | .pointer e, .pointer e' => e = e'
  | .slice e, .slice e' => e = e'
  | .array n e, .array n' e' => n = n' ∧ e = e'
  | .struct fs, .struct l => fs.toList.map (fun f => (f.offset, f.type)) = l
  | .map k e, .map k' e' => k = k' ∧ e = e'
  | .func _ _ _, .func => True
  | .unsafePointer, .unsafeP => True
  | d, .other => (match d with | .struct _ | .array _ _ => False | _ => True)
  | _, _ => False

def TKOK (P : Program) (t : Nat) (k : TK) : Prop :=
  ∃ i d z, P.info? t = some i ∧ i.size = k.size ∧ i.bytes = k.bytes ∧ i.zero = some z ∧ z.cells.toList = k.zero ∧ ((∀ v ∈ k.zero, Value.closed1 v = true) ∧ k.zero.length = k.size) ∧
    P.underlying t = some d ∧ TDOK d k.desc ∧ (match k.desc with | .struct _ | .array _ _ => z = .agg z.cells | _ => k.size = 1 ∧ closed z = true ∧ z.cells = #[z])

def TabOK (P : Program) (tab : Tab) : Prop := ∀ t k, tab t = some k → TKOK P t k

def TD.agg : TD → Bool
  | .struct _ | .array _ _ => true
  | _ => false

section
variable {P : Program} {tab : Tab}

theorem run_underlying {t : Nat} {d : TypeDesc} (h : P.underlying t = some d) (w : World) : (underlying t).run P w = .ok d w := by
  simp [underlying, h]
theorem run_typeInfo {t : Nat} {i : TypeInfo} (h : P.info? t = some i) (w : World) : (typeInfo t).run P w = .ok i w := by
  simp [typeInfo, h]
theorem run_sizeOf {t : Nat} {i : TypeInfo} (h : P.info? t = some i) (w : World) : (sizeOf t).run P w = .ok i.size w := by
  simp [sizeOf, run_typeInfo h]
theorem run_zeroValue {t : Nat} {i : TypeInfo} {z : Value} (h : P.info? t = some i) (hz : i.zero = some z) (w : World) : (zeroValue t).run P w = .ok z w := by
  simp [zeroValue, run_typeInfo h, hz]
theorem run_isAgg {t : Nat} {d : TypeDesc} {d' : TD} (h : P.underlying t = some d) (hd : TDOK d d') (w : World) : (isAgg t).run P w = .ok d'.agg w := by
  cases d <;> cases d' <;> first | (exact hd.elim; done) | (simp [isAgg, run_underlying h, TD.agg]; done)
end

/-! ### operands -/

/-- a value, taken apart and put together: so that a look-up ends in a constructor -/
def force : Value → Option Value
  | .bool b => some (.bool b)
  | .int k n => some (.int k n)
  | .string s => some (.string s)
  | .pointer a => some (.pointer a)
  | .slice a l c => some (.slice a l c)
  | .map r => some (.map r)
  | .func f a b => some (.func f a b)
  | .nilFunc => some .nilFunc
  | .nilIface => some .nilIface
  | .agg cs => some (.agg cs)
  | .tuple cs => some (.tuple cs)
  | .chan r => some (.chan r)
  | _ => none

theorem force_eq {v w : Value} (h : force v = some w) : w = v := by
  cases v <;> first | (cases h; rfl) | cases h

def ev (ρ : Env) : Operand → Option Value
  | .tmp t => force (ρ t)
  | .const v => bif closed v then some v else none
  | .global _ => none
  | .func f => some (.func (.func f) #[] #[])

theorem ev_rel {r : Ren} {ρ : Env} {a : Act} (he : ERel r ρ a.tmps) {x : Operand} {v : Value} (h : ev ρ x = some v) : VRel r v (a.eval x) := by
  cases x with
  | tmp t => rw [force_eq h]; exact he t
  | const c =>
    simp only [ev] at h
    cases hc : closed c with
    | false => simp [hc] at h
    | true => simp only [hc, cond_true, Option.some.injEq] at h; subst h; exact rel_closed r hc
  | global g => cases h
  | func f => cases h; exact .func f rfl (fun i h1 _ => absurd h1 (by simp))

/-! ### two operands -/

def aint (op : BinOp) (k : IntKind) (a b : Int) : Option Value :=
  match op with
  | .add => some (.int k (k.wrap (a + b)))
  | .sub => some (.int k (k.wrap (a - b)))
  | .mul => some (.int k (k.wrap (a * b)))
  | .quo => if b = 0 then none else some (.int k (k.wrap (a.tdiv b)))
  | .rem => if b = 0 then none else some (.int k (a.tmod b))
  | .and => some (.int k (k.wrap (BitVec.ofInt k.bits a &&& BitVec.ofInt k.bits b).toNat))
  | .or => some (.int k (k.wrap (BitVec.ofInt k.bits a ||| BitVec.ofInt k.bits b).toNat))
  | .xor => some (.int k (k.wrap (BitVec.ofInt k.bits a ^^^ BitVec.ofInt k.bits b).toNat))
  | .andNot => some (.int k (k.wrap (BitVec.ofInt k.bits a &&& ~~~BitVec.ofInt k.bits b).toNat))
  | .eql => some (.bool (a == b))
  | .neq => some (.bool (a != b))
  | .lss => some (.bool (decide (a < b)))
  | .leq => some (.bool (decide (a ≤ b)))
  | .gtr => some (.bool (decide (a > b)))
  | .geq => some (.bool (decide (a ≥ b)))
  | .shl => if b < 0 then none else some (.int k (k.wrap (a * 2 ^ (min b.toNat k.bits))))
  | .shr => if b < 0 then none else some (.int k (a.fdiv (2 ^ (min b.toNat k.bits))))

def astr (op : BinOp) (x y : ByteArray) : Option Value :=
  match op with
  | .add => if x.size + y.size < 2 ^ 63 then some (.string (x ++ y)) else none
  | .eql => some (.bool (x.toList == y.toList))
  | .neq => some (.bool (!(x.toList == y.toList)))
  | .lss => some (.bool (Op.bytesLess x.toList y.toList))
  | _ => none

/-- == of what is no number and no text -/
def aeq (d : TD) (x y : Value) : Option Bool :=
  match d, x, y with
  | .bool, .bool a, .bool b => some (a == b)
  | .pointer _, .pointer none, .pointer b => some b.isNone
  | .pointer _, .pointer (some _), .pointer none => some false
  | .slice _, .slice none _ _, .slice b _ _ => some b.isNone
  | .slice _, .slice (some _) _ _, .slice none _ _ => some false
  | .map _ _, .map none, .map b => some b.isNone
  | .map _ _, .map (some _), .map none => some false
  | .func, .nilFunc, .nilFunc => some true
  | .func, .nilFunc, .func _ _ _ => some false
  | .func, .func _ _ _, .nilFunc => some false
  | _, _, _ => none

def sameKind : IntKind → IntKind → Bool
  | .i8, .i8 | .i16, .i16 | .i32, .i32 | .i64, .i64 | .u8, .u8 | .u16, .u16 | .u32, .u32 | .u64, .u64 => true
  | _, _ => false

theorem sameKind_eq {a b : IntKind} (h : sameKind a b = true) : a = b := by cases a <;> cases b <;> first | rfl | cases h

def isShift : BinOp → Bool
  | .shl | .shr => true
  | _ => false

/-- two pointers into one row, of a type that has a size -/
def aeqp (tab : Tab) (d : TD) (x y : Value) : Option Bool :=
  match d, x, y with
  | .pointer e, .pointer (some a), .pointer (some b) => match tab e with
    | some k => if k.size ≠ 0 ∧ a.block = b.block ∧ a.spot = none ∧ b.spot = none then some (a.off == b.off) else none
    | none => none
  | d, x, y => aeq d x y

def aother (tab : Tab) (op : BinOp) (t : Nat) (x y : Value) : Option Value :=
  match op with
  | .eql => match tab t with
    | some d => (aeqp tab d.desc x y).map .bool
    | none => none
  | .neq => match tab t with
    | some d => (aeqp tab d.desc x y).map fun b => .bool !b
    | none => none
  | _ => none

def abin (tab : Tab) (op : BinOp) (t : Nat) (x y : Value) : Option Value :=
  match x, y with
  | .int k a, .int k' b => bif isShift op || sameKind k k' then aint op k a b else none
  | .string a, .string b => astr op a b
  | x, y => aother tab op t x y

section
variable {P : Program} {tab : Tab}

theorem aint_run {op : BinOp} {k k' : IntKind} {a b : Int} {v : Value} {t : Nat} (h : aint op k a b = some v) (hk : isShift op = true ∨ k = k') (w : World) :
    (binOp op t (.int k a) (.int k' b)).run P w = .ok v w := by
  cases op <;> simp only [aint, Option.some.injEq] at h <;> try subst h
  case shl =>
    split at h
    · cases h
    · rename_i hb; cases h; simp [binOp, Op.shift, hb]
  case shr =>
    split at h
    · cases h
    · rename_i hb; cases h; simp [binOp, Op.shift, hb]
  case quo =>
    obtain rfl := hk.resolve_left (by simp [isShift])
    split at h
    · cases h
    · rename_i hb; cases h; simp [binOp, Op.intDiv, hb]
  case rem =>
    obtain rfl := hk.resolve_left (by simp [isShift])
    split at h
    · cases h
    · rename_i hb; cases h; simp [binOp, Op.intDiv, hb]
  all_goals
    obtain rfl := hk.resolve_left (by simp [isShift])
    simp [binOp, Op.intArith, Op.intBits, Op.intCmp]

theorem astr_run {op : BinOp} {x y : ByteArray} {v : Value} {t : Nat} (h : astr op x y = some v) (w : World) :
    (binOp op t (.string x) (.string y)).run P w = .ok v w := by
  cases op <;> simp only [astr, Option.some.injEq, reduceCtorEq] at h <;> try subst h
  case add =>
    split at h
    · cases h
      rename_i hs
      have : ¬ (((x.size + y.size : Nat) : Int) > IntKind.i64.max) := by simp [IntKind.max, IntKind.signed, IntKind.bits]; omega
      simp only [binOp, Op.stringOp, this, if_false, Sem.run_pure]
    · cases h
  all_goals simp [binOp, Op.stringOp]

theorem equal_unfold (t : Nat) (x y : Value) : Op.equal t x y = Op.equalIn (9999 + 1) t x y := rfl

theorem aeq_run {r : Ren} (hT : TabOK P tab) {t : Nat} {d : TK} (ht : tab t = some d) {x y x' y' : Value} {b : Bool} (h : aeq d.desc x y = some b) (hx : VRel r x x') (hy : VRel r y y')
    (w : World) : (Op.equal t x' y').run P w = .ok b w := by
  obtain ⟨i, e, z, _, _, _, _, _, _, hu, hd, _⟩ := hT t d ht
  rw [equal_unfold]
  unfold Op.equalIn
  rw [Sem.run_bind, run_underlying hu, Result.andThen_ok]
  revert hd h
  generalize d.desc = q
  intro h hd
  unfold aeq at h
  split at h <;> cases e <;> first | exact hd.elim | skip
  all_goals cases hx <;> cases hy <;> cases h <;> rfl

def notAgg : Value → Value → Bool
  | .nilIface, .nilIface => false
  | .agg _, .agg _ => false
  | _, _ => true

theorem eqGuard_run {op : BinOp} {t : Nat} {x y : Operand} {a b : Value} (h : notAgg a b = true) (w : World) :
    (eqGuard op t x y a b).run P w = .ok () w := by
  unfold eqGuard
  cases op <;> first | rfl | (cases a <;> first | rfl | (cases b <;> first | rfl | cases h))

def scalarPair : Value → Value → Bool
  | .int _ _, .int _ _ => true
  | .string _, .string _ => true
  | .float _ _, .float _ _ => true
  | .complex _ _ _, .complex _ _ _ => true
  | _, _ => false

theorem binOp_eq {t : Nat} {x y : Value} (hs : scalarPair x y = false) : binOp .eql t x y = (do pure (.bool (← Op.equal t x y))) ∧ binOp .neq t x y = (do pure (.bool (!(← Op.equal t x y)))) := by
  cases x <;> first | exact ⟨rfl, rfl⟩ | (cases y <;> first | (cases hs; done) | exact ⟨rfl, rfl⟩)

theorem aeq_pair {r : Ren} {d : TD} {x y x' y' : Value} {b : Bool} (h : aeq d x y = some b) (hx : VRel r x x') (hy : VRel r y y') :
    scalarPair x' y' = false ∧ notAgg x' y' = true := by
  unfold aeq at h
  split at h <;> cases hx <;> cases hy <;> cases h <;> exact ⟨rfl, rfl⟩

theorem aeqp_run {r : Ren} (hT : TabOK P tab) {t : Nat} {d : TK} (ht : tab t = some d) {x y x' y' : Value} {b : Bool} (h : aeqp tab d.desc x y = some b) (hx : VRel r x x') (hy : VRel r y y')
    (w : World) : (Op.equal t x' y').run P w = .ok b w := by
  have hd0 := hT t d ht
  obtain ⟨i, e, z, _, _, _, _, _, _, hu, hd, _⟩ := hd0
  by_cases hp : ∃ e a c, d.desc = .pointer e ∧ x = .pointer (some a) ∧ y = .pointer (some c)
  · obtain ⟨el, p, q, hde, rfl, rfl⟩ := hp
    rw [hde] at h hd
    simp only [aeqp] at h
    split at h
    · rename_i k hk
      split at h
      · rename_i hc
        obtain ⟨h1, h2, h3, h4⟩ := hc
        cases h
        cases hx with | ptr hn => ?_
        cases hy with | ptr hm => ?_
        simp only at h2
        subst h2
        rw [hn] at hm; cases hm
        cases e <;> first | exact hd.elim | skip
        cases hd
        obtain ⟨ik, _, _, hik, hiks, _⟩ := hT _ k hk
        rw [equal_unfold]
        unfold Op.equalIn
        rw [Sem.run_bind, run_underlying hu, Result.andThen_ok]
        simp [run_sizeOf hik, hiks, h1, sameAddr]
        rw [Bool.eq_iff_iff]; simp
      · cases h
    · cases h
  · refine aeq_run hT ht ?_ hx hy w
    unfold aeqp at h
    split at h
    · rename_i e a c hde
      exact absurd ⟨e, a, c, hde, rfl, rfl⟩ hp
    · exact h

theorem aeqp_pair {r : Ren} {d : TD} {x y x' y' : Value} {b : Bool} (h : aeqp tab d x y = some b) (hx : VRel r x x') (hy : VRel r y y') :
    scalarPair x' y' = false ∧ notAgg x' y' = true := by
  unfold aeqp at h
  split at h
  · cases hx; cases hy; exact ⟨rfl, rfl⟩
  · exact aeq_pair h hx hy

theorem aother_some {op : BinOp} {t : Nat} {x y v : Value} (h : aother tab op t x y = some v) :
    ∃ d b, tab t = some d ∧ aeqp tab d.desc x y = some b ∧ ((op = .eql ∧ v = .bool b) ∨ (op = .neq ∧ v = .bool !b)) := by
  cases op <;> simp only [aother, reduceCtorEq] at h
  all_goals
    cases ht : tab t with
    | none => simp [ht] at h
    | some d =>
      simp only [ht] at h
      cases hb : aeqp tab d.desc x y with
      | none => simp [hb] at h
      | some b => simp [hb] at h; exact ⟨d, b, rfl, hb, by simp [h]⟩

theorem aother_run {r : Ren} (hT : TabOK P tab) {op : BinOp} {t : Nat} {xo yo : Operand} {x y x' y' v : Value} (h : aother tab op t x y = some v) (hx : VRel r x x') (hy : VRel r y y') (w : World) :
    (do eqGuard op t xo yo x' y'; binOp op t x' y' : Sem Value).run P w = .ok v w := by
  obtain ⟨d, b, ht, hb, ho⟩ := aother_some h
  obtain ⟨h1, h2⟩ := aeqp_pair hb hx hy
  rw [Sem.run_bind, eqGuard_run h2, Result.andThen_ok]
  have hq := aeqp_run hT ht hb hx hy w
  rcases ho with ⟨rfl, rfl⟩ | ⟨rfl, rfl⟩
  · rw [(binOp_eq h1).1, Sem.run_bind, hq]; rfl
  · rw [(binOp_eq h1).2, Sem.run_bind, hq]; rfl

theorem abin_run {r : Ren} (hT : TabOK P tab) {op : BinOp} {t : Nat} {xo yo : Operand} {x y x' y' v : Value} (h : abin tab op t x y = some v) (hx : VRel r x x') (hy : VRel r y y') (w : World) :
    (do eqGuard op t xo yo x' y'; binOp op t x' y' : Sem Value).run P w = .ok v w := by
  unfold abin at h
  split at h
  · rename_i k a k' b
    cases hx; cases hy
    cases hs : (isShift op || sameKind k k') with
    | false => simp [hs] at h
    | true =>
      simp only [hs, cond_true] at h
      have hk : isShift op = true ∨ k = k' := by
        simp only [Bool.or_eq_true] at hs
        exact hs.imp id sameKind_eq
      rw [Sem.run_bind, eqGuard_run rfl, Result.andThen_ok, aint_run h hk]
  · cases hx; cases hy
    rw [Sem.run_bind, eqGuard_run rfl, Result.andThen_ok, astr_run h]
  · exact aother_run hT h hx hy w

/-- what two operands give names nothing -/
theorem abin_rel {r : Ren} {op : BinOp} {t : Nat} {x y v : Value} (h : abin tab op t x y = some v) : VRel r v v := by
  unfold abin at h
  split at h
  · rename_i k a k' b
    cases hs : (isShift op || sameKind k k') with
    | false => simp [hs] at h
    | true =>
      simp only [hs, cond_true] at h
      cases op <;> simp only [aint] at h <;> (try split at h) <;> cases h <;> constructor
  · cases op <;> simp only [astr] at h <;> (try split at h) <;> cases h <;> constructor
  · obtain ⟨d, b, _, _, ho⟩ := aother_some h
    rcases ho with ⟨_, rfl⟩ | ⟨_, rfl⟩ <;> constructor
end
end Go.Mir

