/- A program that runs code over abstract states, made so that Lean's kernel computes it fast. By a session's own hand. -/
import Derived.Test.YtlpenkjkggopiaaGreatMQ
import Derived.Test.YtlpenkjkggopiaaGreatMS
set_option linter.unusedSimpArgs false
set_option linter.unusedVariables false
namespace Go.Mir

/-- a tree by number -/
inductive PT (α : Type) where
  | leaf
  | node (l : PT α) (v : α) (r : PT α)

noncomputable def PT.get {α : Type} (d : α) (t : PT α) : Nat → α :=
  PT.rec (motive := fun _ => Nat → α) (fun _ => d)
    (fun _ v _ gl gr n => Bool.rec (motive := fun _ => α) (Bool.rec (motive := fun _ => α) (gr (Nat.sub (Nat.div n 2) 1)) (gl (Nat.div n 2)) (Nat.beq (Nat.mod n 2) 1)) v (Nat.beq n 0)) t

/-- a tree with one more entry: all of it is built before it is handed on -/
noncomputable def PT.one {α β : Type} (d x : α) : (fuel : Nat) → Nat → (PT α → β) → β :=
  fun fuel => Nat.rec (motive := fun _ => Nat → (PT α → β) → β) (fun _ k => k .leaf)
    (fun _ ih n k => Bool.rec (motive := fun _ => β) (Bool.rec (motive := fun _ => β) (ih (Nat.sub (Nat.div n 2) 1) (fun r => k (.node .leaf d r))) (ih (Nat.div n 2) (fun l => k (.node l d .leaf))) (Nat.beq (Nat.mod n 2) 1)) (k (.node .leaf x .leaf)) (Nat.beq n 0)) fuel

noncomputable def PT.setK {α β : Type} (d : α) (t : PT α) : Nat → α → (PT α → β) → β :=
  PT.rec (motive := fun _ => Nat → α → (PT α → β) → β)
    (fun n x k => PT.one d x (Nat.succ n) n k)
    (fun l v r sl sr n x k => Bool.rec (motive := fun _ => β) (Bool.rec (motive := fun _ => β) (sr (Nat.sub (Nat.div n 2) 1) x (fun r' => k (.node l v r'))) (sl (Nat.div n 2) x (fun l' => k (.node l' v r))) (Nat.beq (Nat.mod n 2) 1)) (k (.node l x r)) (Nat.beq n 0)) t

noncomputable def forceNat {β : Type} (n : Nat) (k : Nat → β) : β := Nat.rec (k 0) (fun m _ => k (Nat.succ m)) n
noncomputable def forceInt {β : Type} (n : Int) (k : Int → β) : β := Int.rec (fun m => forceNat m fun m => k (.ofNat m)) (fun m => forceNat m fun m => k (.negSucc m)) n
noncomputable def forceList {α β : Type} (f : α → (α → β) → β) (l : List α) : (List α → β) → β :=
  List.rec (motive := fun _ => (List α → β) → β) (fun k => k []) (fun x _ ih k => f x fun x => ih fun l => k (x :: l)) l
noncomputable def forceByte {β : Type} (b : UInt8) (k : UInt8 → β) : β := forceNat b.toNat fun n => k (UInt8.ofNat n)
noncomputable def forceAddr {β : Type} (a : Addr) (k : Addr → β) : β :=
  forceNat a.block fun b => forceNat a.off fun o => match a.spot with
    | none => k ⟨b, o, none⟩
    | some s => forceNat s fun s => k ⟨b, o, some s⟩
/-- a value, computed -/
noncomputable def forceV {β : Type} : Nat → Value → (Value → β) → β :=
  fun fuel => Nat.rec (motive := fun _ => Value → (Value → β) → β) (fun v k => k v)
    (fun _ ih v k => match v with
      | .bool b => bif b then k (.bool true) else k (.bool false)
      | .int kd n => forceInt n fun n => k (.int kd n)
      | .string s => forceList forceByte s.data.toList fun l => k (.string ⟨⟨l⟩⟩)
      | .pointer none => k (.pointer none)
      | .pointer (some a) => forceAddr a fun a => k (.pointer (some a))
      | .slice none l c => forceNat l fun l => forceNat c fun c => k (.slice none l c)
      | .slice (some a) l c => forceAddr a fun a => forceNat l fun l => forceNat c fun c => k (.slice (some a) l c)
      | .map (some n) => forceNat n fun n => k (.map (some n))
      | .agg cs => forceList ih cs.toList fun l => k (.agg ⟨l⟩)
      | .tuple cs => forceList ih cs.toList fun l => k (.tuple ⟨l⟩)
      | .func f fs cs => forceList ih cs.toList fun l => k (.func f fs ⟨l⟩)
      | v => k v) fuel
noncomputable def forceBool {β : Type} (b : Bool) (k : Bool → β) : β := Bool.rec (motive := fun _ => β) (k false) (k true) b
/-- sixteen entries -/
structure R16 (α : Type) where
  a0 : α
  a1 : α
  a2 : α
  a3 : α
  a4 : α
  a5 : α
  a6 : α
  a7 : α
  a8 : α
  a9 : α
  a10 : α
  a11 : α
  a12 : α
  a13 : α
  a14 : α
  a15 : α

def R16.all {α : Type} (x : α) : R16 α := ⟨x, x, x, x, x, x, x, x, x, x, x, x, x, x, x, x⟩
/-- how an entry is looked up -/
def selK {α β : Type} (k : (R16 α → α) → β) : Nat → β
  | 0 => k R16.a0
  | 1 => k R16.a1
  | 2 => k R16.a2
  | 3 => k R16.a3
  | 4 => k R16.a4
  | 5 => k R16.a5
  | 6 => k R16.a6
  | 7 => k R16.a7
  | 8 => k R16.a8
  | 9 => k R16.a9
  | 10 => k R16.a10
  | 11 => k R16.a11
  | 12 => k R16.a12
  | 13 => k R16.a13
  | 14 => k R16.a14
  | _ => k R16.a15
noncomputable def U0 {α β : Type} (f : α → (α → β) → β) (t : R16 α) (k : R16 α → β) : β := R16.rec (motive := fun _ => β) (fun a0 a1 a2 a3 a4 a5 a6 a7 a8 a9 a10 a11 a12 a13 a14 a15 => f a0 fun x => k ⟨x, a1, a2, a3, a4, a5, a6, a7, a8, a9, a10, a11, a12, a13, a14, a15⟩) t
noncomputable def U1 {α β : Type} (f : α → (α → β) → β) (t : R16 α) (k : R16 α → β) : β := R16.rec (motive := fun _ => β) (fun a0 a1 a2 a3 a4 a5 a6 a7 a8 a9 a10 a11 a12 a13 a14 a15 => f a1 fun x => k ⟨a0, x, a2, a3, a4, a5, a6, a7, a8, a9, a10, a11, a12, a13, a14, a15⟩) t
noncomputable def U2 {α β : Type} (f : α → (α → β) → β) (t : R16 α) (k : R16 α → β) : β := R16.rec (motive := fun _ => β) (fun a0 a1 a2 a3 a4 a5 a6 a7 a8 a9 a10 a11 a12 a13 a14 a15 => f a2 fun x => k ⟨a0, a1, x, a3, a4, a5, a6, a7, a8, a9, a10, a11, a12, a13, a14, a15⟩) t
noncomputable def U3 {α β : Type} (f : α → (α → β) → β) (t : R16 α) (k : R16 α → β) : β := R16.rec (motive := fun _ => β) (fun a0 a1 a2 a3 a4 a5 a6 a7 a8 a9 a10 a11 a12 a13 a14 a15 => f a3 fun x => k ⟨a0, a1, a2, x, a4, a5, a6, a7, a8, a9, a10, a11, a12, a13, a14, a15⟩) t
noncomputable def U4 {α β : Type} (f : α → (α → β) → β) (t : R16 α) (k : R16 α → β) : β := R16.rec (motive := fun _ => β) (fun a0 a1 a2 a3 a4 a5 a6 a7 a8 a9 a10 a11 a12 a13 a14 a15 => f a4 fun x => k ⟨a0, a1, a2, a3, x, a5, a6, a7, a8, a9, a10, a11, a12, a13, a14, a15⟩) t
noncomputable def U5 {α β : Type} (f : α → (α → β) → β) (t : R16 α) (k : R16 α → β) : β := R16.rec (motive := fun _ => β) (fun a0 a1 a2 a3 a4 a5 a6 a7 a8 a9 a10 a11 a12 a13 a14 a15 => f a5 fun x => k ⟨a0, a1, a2, a3, a4, x, a6, a7, a8, a9, a10, a11, a12, a13, a14, a15⟩) t
noncomputable def U6 {α β : Type} (f : α → (α → β) → β) (t : R16 α) (k : R16 α → β) : β := R16.rec (motive := fun _ => β) (fun a0 a1 a2 a3 a4 a5 a6 a7 a8 a9 a10 a11 a12 a13 a14 a15 => f a6 fun x => k ⟨a0, a1, a2, a3, a4, a5, x, a7, a8, a9, a10, a11, a12, a13, a14, a15⟩) t
noncomputable def U7 {α β : Type} (f : α → (α → β) → β) (t : R16 α) (k : R16 α → β) : β := R16.rec (motive := fun _ => β) (fun a0 a1 a2 a3 a4 a5 a6 a7 a8 a9 a10 a11 a12 a13 a14 a15 => f a7 fun x => k ⟨a0, a1, a2, a3, a4, a5, a6, x, a8, a9, a10, a11, a12, a13, a14, a15⟩) t
noncomputable def U8 {α β : Type} (f : α → (α → β) → β) (t : R16 α) (k : R16 α → β) : β := R16.rec (motive := fun _ => β) (fun a0 a1 a2 a3 a4 a5 a6 a7 a8 a9 a10 a11 a12 a13 a14 a15 => f a8 fun x => k ⟨a0, a1, a2, a3, a4, a5, a6, a7, x, a9, a10, a11, a12, a13, a14, a15⟩) t
noncomputable def U9 {α β : Type} (f : α → (α → β) → β) (t : R16 α) (k : R16 α → β) : β := R16.rec (motive := fun _ => β) (fun a0 a1 a2 a3 a4 a5 a6 a7 a8 a9 a10 a11 a12 a13 a14 a15 => f a9 fun x => k ⟨a0, a1, a2, a3, a4, a5, a6, a7, a8, x, a10, a11, a12, a13, a14, a15⟩) t
noncomputable def U10 {α β : Type} (f : α → (α → β) → β) (t : R16 α) (k : R16 α → β) : β := R16.rec (motive := fun _ => β) (fun a0 a1 a2 a3 a4 a5 a6 a7 a8 a9 a10 a11 a12 a13 a14 a15 => f a10 fun x => k ⟨a0, a1, a2, a3, a4, a5, a6, a7, a8, a9, x, a11, a12, a13, a14, a15⟩) t
noncomputable def U11 {α β : Type} (f : α → (α → β) → β) (t : R16 α) (k : R16 α → β) : β := R16.rec (motive := fun _ => β) (fun a0 a1 a2 a3 a4 a5 a6 a7 a8 a9 a10 a11 a12 a13 a14 a15 => f a11 fun x => k ⟨a0, a1, a2, a3, a4, a5, a6, a7, a8, a9, a10, x, a12, a13, a14, a15⟩) t
noncomputable def U12 {α β : Type} (f : α → (α → β) → β) (t : R16 α) (k : R16 α → β) : β := R16.rec (motive := fun _ => β) (fun a0 a1 a2 a3 a4 a5 a6 a7 a8 a9 a10 a11 a12 a13 a14 a15 => f a12 fun x => k ⟨a0, a1, a2, a3, a4, a5, a6, a7, a8, a9, a10, a11, x, a13, a14, a15⟩) t
noncomputable def U13 {α β : Type} (f : α → (α → β) → β) (t : R16 α) (k : R16 α → β) : β := R16.rec (motive := fun _ => β) (fun a0 a1 a2 a3 a4 a5 a6 a7 a8 a9 a10 a11 a12 a13 a14 a15 => f a13 fun x => k ⟨a0, a1, a2, a3, a4, a5, a6, a7, a8, a9, a10, a11, a12, x, a14, a15⟩) t
noncomputable def U14 {α β : Type} (f : α → (α → β) → β) (t : R16 α) (k : R16 α → β) : β := R16.rec (motive := fun _ => β) (fun a0 a1 a2 a3 a4 a5 a6 a7 a8 a9 a10 a11 a12 a13 a14 a15 => f a14 fun x => k ⟨a0, a1, a2, a3, a4, a5, a6, a7, a8, a9, a10, a11, a12, a13, x, a15⟩) t
noncomputable def U15 {α β : Type} (f : α → (α → β) → β) (t : R16 α) (k : R16 α → β) : β := R16.rec (motive := fun _ => β) (fun a0 a1 a2 a3 a4 a5 a6 a7 a8 a9 a10 a11 a12 a13 a14 a15 => f a15 fun x => k ⟨a0, a1, a2, a3, a4, a5, a6, a7, a8, a9, a10, a11, a12, a13, a14, x⟩) t
/-- how an entry is turned -/
noncomputable def updK {α β γ : Type} (k : ((α → (α → β) → β) → R16 α → (R16 α → β) → β) → γ) : Nat → γ
  | 0 => k U0
  | 1 => k U1
  | 2 => k U2
  | 3 => k U3
  | 4 => k U4
  | 5 => k U5
  | 6 => k U6
  | 7 => k U7
  | 8 => k U8
  | 9 => k U9
  | 10 => k U10
  | 11 => k U11
  | 12 => k U12
  | 13 => k U13
  | 14 => k U14
  | _ => k U15

/-- a slot: a number of 64 bits that is no less than 0, a truth value, or what else -/
inductive EV where
  | nat (n : Nat)
  | bool (b : Bool)
  | oth (v : Value)
def EV.val : EV → Value
  | .nat n => .int .i64 (.ofNat n)
  | .bool b => .bool b
  | .oth v => v
noncomputable def toEV {β : Type} (v : Value) (k : EV → β) : β := match v with
  | .int .i64 (.ofNat n) => forceNat n fun n => k (.nat n)
  | .bool b => forceBool b fun b => k (.bool b)
  | v => forceV 3 v fun v => k (.oth v)

/-- 256 slots -/
abbrev ET := R16 (R16 EV)
noncomputable def e0 : ET := .all (.all (.oth undef))
noncomputable def getE (n : Nat) : ET → EV := selK (fun f => selK (fun g e => g (f e)) (Nat.mod n 16)) (Nat.div n 16)
noncomputable def envOf (e : ET) : Env := fun n => bif Nat.blt n 256 then (getE n e).val else undef

inductive RX where
  | normal | exit (i : Nat) | ret
def RX.state : RX → LoopState
  | .normal => .ready
  | _ => .done
def RX.pend : RX → Option Code
  | .normal => none
  | .exit i => some (.exit i)
  | .ret => some .ret
/-- a row: its entries in a tree, and how many they are -/
inductive RB where
  | non
  | dead
  | cells (d : EV) (t : PT EV) (len elem : Nat) (opn wr : Bool)
  | amap (es : List (Value × Value))
  /-- a loop over a function: its frame, its rounds' code, the function that it stands in, how it is left -/
  | loop (e : ET) (N : Nat) (ps : Array Tmp) (a b : Code) (g : Nat) (x : RX)
noncomputable def RB.opt : RB → Option Blk
  | .non => none
  | .dead => some .dead
  | .cells d t n e opn wr => some (.cells ((List.range n).map fun i => (t.get d i).val) e opn wr)
  | .amap es => some (.amap es)
  | .loop e N ps a b _ x => some (.loop (envOf e) N ps a b x.state x.pend)
abbrev MT := PT RB
noncomputable def heapOf (m : MT) (nx : Nat) : Heap := ⟨fun n => (m.get .non n).opt, nx⟩

/-- the row that an operation writes -/
noncomputable def goal (ρ : Env) (o : Oper) : Option Nat := match o.op with
  | .store _ x _ => match ev ρ x with | some (.pointer (some a)) => some a.block | _ => none
  | .mapUpdate _ x _ _ => match ev ρ x with | some (.map a) => a | _ => none
  | .insert _ x _ _ => match ev ρ x with | some (.map a) => a | _ => none
  | .call c => match evs ρ c.args.toList with
    | some (.slice (some a) _ _ :: _) => some a.block
    | some (.pointer (some a) :: _) => some a.block
    | _ => none
  | _ => none

/-- values laid into a tree, from a place on -/
noncomputable def fillK {β : Type} (d : EV) (l : List Value) : Nat → PT EV → (Nat → PT EV → β) → β :=
  List.rec (motive := fun _ => Nat → PT EV → (Nat → PT EV → β) → β) (fun n t k => k n t) (fun v _ ih n t k => toEV v fun v => t.setK d n v fun t => forceNat (Nat.succ n) fun n => ih n t k) l
structure RR where
  x : RX
  e : ET
  m : MT
  nx : Nat

noncomputable def rowK (b : Blk) (k : RB → Option RR) : Option RR := match b with
  | .dead => k .dead
  | .cells c e opn wr => fillK (.nat 0) c 0 .leaf fun n t => forceBool opn fun opn => forceBool wr fun wr => k (.cells (.nat 0) t n e opn wr)
  | .amap es => forceList (fun p k => forceV 3 p.1 fun a => forceV 3 p.2 fun b => k (a, b)) es fun es => k (.amap es)
  | .loop .. => none
noncomputable def turnK (m : MT) (h' : Heap) (n : Nat) (k : MT → Option RR) : Option RR := match h'.get n with
  | none => k m
  | some b => rowK b fun b => m.setK .non n b k

/-- what is entered: a function, or a loop's round -/
inductive Ent where
  | fn (g : FuncId)
  | yld (n : Nat)
  | it (g : FuncId)
abbrev Kont := ET → MT → Nat → Option RR
abbrev Step := ET → MT → Nat → Kont → Option RR
/-- what is known of calls -/
abbrev Caller := Ent → List EV → MT → Nat → Option (EV × MT × Nat)

abbrev Setter := EV → ET → (ET → Option RR) → Option RR
abbrev NatOp := Nat → Nat → (EV → Option RR) → (Unit → Option RR) → Option RR

/-- operands, and operations, made ready -/
inductive CO where
  | tmp (f : ET → EV)
  | cst (v : Option EV)

inductive CI where
  | mov (x : CO) (set : Setter)
  | bin (fast : NatOp) (slow : Value → Value → Option Value) (x y : CO) (set : Setter)
  | load (agg : Bool) (size : Nat) (x : CO) (set : Setter)
  | loadBad
  | op1 (f : Value → Option Value) (x : CO) (set : Setter)
  | op2 (f : Value → Value → Option Value) (x y : CO) (set : Setter)
  | pick (c x y : CO) (set : Setter)
  | val (o : Oper) (set : Setter)
  | rd (o : Oper) (set : Setter)
  | alloc (o : Oper) (set : Setter)
  | store (t size : Nat) (x v : CO)
  | append (o : Oper) (e : Nat) (sz bytes : Nat) (s x : CO) (set : Setter)
  | makeZero (e bytes : Nat) (z : EV) (l c : CO) (set : Setter)
  | eff (o : Oper) (set : Setter)
  | call (f : CO) (args : List CO) (set : Setter)
  | pcall (f : CO) (args : List CO) (set : Setter)
  | guard (s : CO) (want : Bool) (set : Setter) (c : CI)
  | bad

/-! numbers that are no less than 0, and small -/
noncomputable def isI64 (k : IntKind) : Bool := match k with
  | .i64 => true
  | _ => false
noncomputable def fit (n : Nat) (k : EV → Option RR) (slow : Unit → Option RR) : Option RR := Bool.rec (motive := fun _ => Option RR) (slow ()) (forceNat n fun n => k (.nat n)) (Nat.ble n 9223372036854775807)
noncomputable def kBool (b : Bool) (k : EV → Option RR) : Option RR := Bool.rec (motive := fun _ => Option RR) (k (.bool false)) (k (.bool true)) b
noncomputable def nAdd : NatOp := fun a b k slow => fit (Nat.add a b) k slow
noncomputable def nSub : NatOp := fun a b k slow => Bool.rec (motive := fun _ => Option RR) (slow ()) (fit (Nat.sub a b) k slow) (Nat.ble b a)
noncomputable def nMul : NatOp := fun a b k slow => fit (Nat.mul a b) k slow
noncomputable def nLss : NatOp := fun a b k _ => kBool (Nat.ble (Nat.succ a) b) k
noncomputable def nLeq : NatOp := fun a b k _ => kBool (Nat.ble a b) k
noncomputable def nGtr : NatOp := fun a b k _ => kBool (Nat.ble (Nat.succ b) a) k
noncomputable def nGeq : NatOp := fun a b k _ => kBool (Nat.ble b a) k
noncomputable def nEql : NatOp := fun a b k _ => kBool (Nat.beq a b) k
noncomputable def nNeq : NatOp := fun a b k _ => Bool.rec (motive := fun _ => Option RR) (k (.bool true)) (k (.bool false)) (Nat.beq a b)
noncomputable def nNone : NatOp := fun _ _ _ slow => slow ()
noncomputable def natBin {γ : Type} (k : NatOp → γ) (op : BinOp) : γ := match op with
  | .add => k nAdd
  | .sub => k nSub
  | .mul => k nMul
  | .lss => k nLss
  | .leq => k nLeq
  | .gtr => k nGtr
  | .geq => k nGeq
  | .eql => k nEql
  | .neq => k nNeq
  | _ => k nNone

noncomputable def ocase {α : Type} (x : Option α) (k : α → Option RR) : Option RR := Option.rec (motive := fun _ => Option RR) none k x
noncomputable def CO.ev (x : CO) (e : ET) (k : EV → Option RR) : Option RR := CO.rec (motive := fun _ => Option RR) (fun f => k (f e)) (fun v => ocase v k) x
/-- what may be looked at -/
noncomputable def EV.see (x : EV) (k : Value → Option RR) : Option RR := EV.rec (motive := fun _ => Option RR) (fun n => k (.int .i64 (.ofNat n))) (fun b => k (.bool b)) (fun v => ocase (force v) k) x
noncomputable def retV (set : Setter) (e : ET) (m : MT) (nx : Nat) (k : Kont) (v : Value) : Option RR := toEV v fun v => set v e fun e => k e m nx

/-- a value that may be moved -/
noncomputable def movable (x : EV) (k : EV → Option RR) : Option RR := EV.rec (motive := fun _ => Option RR) (fun n => k (.nat n)) (fun b => k (.bool b)) (fun v => ocase (force v) fun v => k (.oth v)) x
noncomputable def sMov (x : CO) (set : Setter) : Step := fun e m nx k => x.ev e fun v => movable v fun v => set v e fun e => k e m nx
noncomputable def slowBin (slow : Value → Value → Option Value) (set : Setter) (x y : EV) : Step := fun e m nx k => x.see fun x => y.see fun y => ocase (slow x y) (retV set e m nx k)
noncomputable def sBin (fast : NatOp) (slow : Value → Value → Option Value) (x y : CO) (set : Setter) : Step := fun e m nx k =>
  x.ev e fun x => y.ev e fun y => EV.rec (motive := fun _ => Option RR)
    (fun a => EV.rec (motive := fun _ => Option RR) (fun b => fast a b (fun v => set v e fun e => k e m nx) fun _ => slowBin slow set x y e m nx k)
      (fun _ => slowBin slow set x y e m nx k) (fun _ => slowBin slow set x y e m nx k) y)
    (fun _ => slowBin slow set x y e m nx k) (fun _ => slowBin slow set x y e m nx k) x

section
variable (tab : Tab) (call : Caller)
/-- entries, one after the other -/
noncomputable def readK (d : EV) (t : PT EV) (n : Nat) : Nat → (List Value → Option RR) → Option RR :=
  Nat.rec (motive := fun _ => Nat → (List Value → Option RR) → Option RR) (fun _ k => k []) (fun _ ih o k => EV.rec (motive := fun _ => Option RR) (fun a => ih (Nat.succ o) fun l => k (.int .i64 (.ofNat a) :: l)) (fun a => ih (Nat.succ o) fun l => k (.bool a :: l)) (fun v => ih (Nat.succ o) fun l => k (v :: l)) (t.get d o)) n
/-- a place that a pointer names -/
noncomputable def ptrK (x : EV) (k : Nat → Nat → Option RR) : Option RR := EV.rec (motive := fun _ => Option RR) (fun _ => none) (fun _ => none) (fun v => match v with
  | .pointer (some ⟨n, o, none⟩) => k n o
  | _ => none) x
/-- the entries of a row -/
noncomputable def cellsK (m : MT) (n : Nat) (k : EV → PT EV → Nat → Nat → Bool → Bool → Option RR) : Option RR := RB.rec (motive := fun _ => Option RR) none none (fun d t len e opn wr => k d t len e opn wr) (fun _ => none) (fun _ _ _ _ _ _ _ => none) (m.get .non n)
noncomputable def sLoad (agg : Bool) (size : Nat) (x : CO) (set : Setter) : Step := fun e m nx k => x.ev e fun x => ptrK x fun n o => cellsK m n fun d t len _ _ _ =>
  Bool.rec (motive := fun _ => Option RR) (Bool.rec (motive := fun _ => Option RR) none (set (t.get d o) e fun e => k e m nx) (Nat.ble (Nat.succ o) len))
    (Bool.rec (motive := fun _ => Option RR) none (readK d t size o fun l => set (.oth (.agg ⟨l⟩)) e fun e => k e m nx) (Nat.ble (Nat.add o size) len)) agg
/-- is it one cell? -/
noncomputable def one1 (v : Value) (k : EV → Option RR) : Option RR := match v with
  | .agg _ => none
  | .tuple _ => none
  | .chan _ => none
  | v => k (.oth v)
noncomputable def wrK (d : EV) (l : List Value) : Nat → PT EV → (Nat → PT EV → Option RR) → Option RR :=
  List.rec (motive := fun _ => Nat → PT EV → (Nat → PT EV → Option RR) → Option RR) (fun n t k => k n t) (fun v _ ih n t k => toEV v fun v => EV.rec (motive := fun _ => Option RR) (fun a => t.setK d n (.nat a) fun t => ih (Nat.succ n) t k) (fun a => t.setK d n (.bool a) fun t => ih (Nat.succ n) t k) (fun v => one1 v fun v => t.setK d n v fun t => ih (Nat.succ n) t k) v) l
/-- a value's cells, laid into a row -/
noncomputable def putCells (d : EV) (t : PT EV) (n size : Nat) (v : EV) (k : PT EV → Option RR) : Option RR := EV.rec (motive := fun _ => Option RR)
  (fun a => Bool.rec (motive := fun _ => Option RR) none (t.setK d n (.nat a) k) (Nat.beq size 1)) (fun a => Bool.rec (motive := fun _ => Option RR) none (t.setK d n (.bool a) k) (Nat.beq size 1))
  (fun v => match v with
    | .agg cs => wrK d cs.toList n t fun n' t => Bool.rec (motive := fun _ => Option RR) none (k t) (Nat.beq n' (Nat.add n size))
    | v => one1 v fun v => Bool.rec (motive := fun _ => Option RR) none (t.setK d n v k) (Nat.beq size 1)) v
noncomputable def sStore (size : Nat) (x v : CO) : Step := fun e m nx k => x.ev e fun x => v.ev e fun v => movable v fun v => ptrK x fun n o => cellsK m n fun d t len el opn wr =>
  Bool.rec (motive := fun _ => Option RR) none (Bool.rec (motive := fun _ => Option RR) none (putCells d t o size v fun t => m.setK .non n (.cells d t len el opn true) fun m => forceNat (Nat.succ nx) fun nx => k e m nx) (Nat.ble (Nat.add o size) len)) wr
/-- a slice, taken apart -/
noncomputable def sliceK (x : EV) (nil : Nat → Nat → Option RR) (k : Nat → Nat → Nat → Nat → Nat → Option RR) : Option RR := EV.rec (motive := fun _ => Option RR) (fun _ => none) (fun _ => none) (fun v => match v with
  | .slice none l c => nil l c
  | .slice (some ⟨b, o, some sz⟩) len cap => k b o sz len cap
  | _ => none) x
noncomputable def natK (x : EV) (k : Nat → Option RR) : Option RR := EV.rec (motive := fun _ => Option RR) k (fun _ => none) (fun _ => none) x
noncomputable def both (a b : Bool) (x : Option RR) : Option RR := Bool.rec (motive := fun _ => Option RR) none (Bool.rec (motive := fun _ => Option RR) none x b) a
noncomputable def sMake (e0 bytes : Nat) (z : EV) (l c : CO) (set : Setter) : Step := fun e m nx k => l.ev e fun l => c.ev e fun c => natK l fun l => natK c fun c =>
  both (Nat.ble l c) (Nat.ble (Nat.mul bytes c) 281474976710656) (both (Nat.ble (Nat.succ c) 9223372036854775808) true
    (m.setK .non nx (.cells z .leaf c e0 false true) fun m => set (.oth (.slice (some ⟨nx, 0, some 1⟩) l c)) e fun e => forceNat (Nat.succ nx) fun nx => k e m nx))
noncomputable def sOp1 (f : Value → Option Value) (x : CO) (set : Setter) : Step := fun e m nx k => x.ev e fun x => x.see fun x => ocase (f x) (retV set e m nx k)
noncomputable def sOp2 (f : Value → Value → Option Value) (x y : CO) (set : Setter) : Step := fun e m nx k => x.ev e fun x => x.see fun x => y.ev e fun y => y.see fun y => ocase (f x y) (retV set e m nx k)
noncomputable def sPick (c x y : CO) (set : Setter) : Step := fun e m nx k => c.ev e fun c => c.see fun c => x.ev e fun x => x.see fun x => y.ev e fun y => y.see fun y => ocase (apick c x y) (retV set e m nx k)
noncomputable def sVal (o : Oper) (set : Setter) : Step := fun e m nx k => ocase (aval tab (envOf e) o) (retV set e m nx k)
noncomputable def sAlloc (o : Oper) (set : Setter) : Step := fun e m nx k => ocase (aalloc tab (envOf e) o) fun p => rowK p.2 fun b => m.setK .non nx b fun m => forceNat (Nat.succ nx) fun nx' => retV set e m nx' k (p.1 nx)
noncomputable def sRd (o : Oper) (set : Setter) : Step := fun e m nx k => Option.rec (motive := fun _ => Option RR) (ocase (aval tab (envOf e) o) (retV set e m nx k)) (fun p => ocase (m.get .non p.1).opt fun b => ocase (p.2 b) (retV set e m nx k)) (ard tab (envOf e) o)
noncomputable def sEff (o : Oper) (set : Setter) : Step := fun e m nx k => ocase (aeff tab (envOf e) nx o (heapOf m (nx + 1))) fun p => match goal (envOf e) o with
    | some n => turnK m p.2 n fun m => turnK m p.2 nx fun m => forceNat (Nat.succ nx) fun nx => retV set e m nx k p.1
    | none => turnK m p.2 nx fun m => forceNat (Nat.succ nx) fun nx => retV set e m nx k p.1
/-- entries of one row laid into another -/
noncomputable def copyK (d : EV) (t : PT EV) (d' : EV) (n : Nat) : Nat → Nat → PT EV → (PT EV → Option RR) → Option RR :=
  Nat.rec (motive := fun _ => Nat → Nat → PT EV → (PT EV → Option RR) → Option RR) (fun _ _ q k => k q)
    (fun _ ih o p q k => EV.rec (motive := fun _ => Option RR) (fun a => q.setK d' p (.nat a) fun q => ih (Nat.succ o) (Nat.succ p) q k) (fun a => q.setK d' p (.bool a) fun q => ih (Nat.succ o) (Nat.succ p) q k)
      (fun v => one1 v fun v => q.setK d' p v fun q => ih (Nat.succ o) (Nat.succ p) q k) (t.get d o)) n
/-- by a truth value -/
noncomputable def chk (b : Bool) (x y : Option RR) : Option RR := Bool.rec (motive := fun _ => Option RR) y x b
noncomputable def small (len n bytes : Nat) (x y : Option RR) : Option RR := chk (Nat.ble (Nat.mul (Nat.add (Nat.mul 2 (Nat.add len n)) 192) bytes) 281474976710656) (chk (Nat.ble (Nat.succ (Nat.add len n)) 1152921504606846976) x y) y
/-- a slice at the end of its row, made longer: slow is told where a rule does not hold -/
noncomputable def growK (e0 sz bytes : Nat) (b o len cap n : Nat) (d' : EV) (t' : PT EV) (o' : Nat) (d : EV) (t : PT EV) (clen el : Nat) (opn wr : Bool) (set : Setter) (slow : Unit → Option RR) : Step := fun e m nx k =>
  chk (Nat.ble (Nat.add o (Nat.mul cap sz)) clen)
    (chk (Nat.ble (Nat.add len n) cap)
      (chk wr (copyK d' t' d (Nat.mul n sz) o' (Nat.add o (Nat.mul len sz)) t fun q => m.setK .non b (.cells d q clen el opn true) fun m => forceNat (Nat.add len n) fun n => set (.oth (.slice (some ⟨b, o, some sz⟩) n cap)) e fun e => forceNat (Nat.succ nx) fun nx => k e m nx) (slow ()))
      (chk (Nat.ble len cap) (chk (Nat.beq o 0) (chk (Nat.beq el e0) (small len n bytes
        (chk (Bool.rec (motive := fun _ => Bool) true (Nat.ble (Nat.succ (Nat.mul cap sz)) clen) opn)
          (copyK d' t' d (Nat.mul n sz) o' (Nat.mul len sz) t fun q => m.setK .non nx (.cells d q (Nat.mul (Nat.add len n) sz) e0 true true) fun m => forceNat (Nat.add len n) fun n => set (.oth (.slice (some ⟨nx, 0, some sz⟩) n n)) e fun e => forceNat (Nat.succ nx) fun nx => k e m nx)
          (chk wr (copyK d' t' d (Nat.mul n sz) o' (Nat.mul len sz) t fun q => m.setK .non b .dead fun m => m.setK .non nx (.cells d q (Nat.mul (Nat.add len n) sz) e0 true true) fun m => forceNat (Nat.add len n) fun n => set (.oth (.slice (some ⟨nx, 0, some sz⟩) n n)) e fun e => forceNat (Nat.succ nx) fun nx => k e m nx) (slow ())))
        (slow ())) (slow ())) (slow ())) (slow ())))
    (slow ())
noncomputable def sAppend (tab : Tab) (o0 : Oper) (e0 sz bytes : Nat) (s x : CO) (set : Setter) : Step := fun e m nx k => s.ev e fun s => x.ev e fun x =>
  sliceK x (fun _ _ => sEff tab o0 set e m nx k) fun b' o' sz' n _ => cellsK m b' fun d' t' clen' _ _ _ =>
  chk (Nat.beq sz' sz) (chk (Nat.ble (Nat.add o' (Nat.mul n sz)) clen') (chk (Nat.ble 1 n) (chk (Nat.ble 1 sz)
    (sliceK s
      (fun l c => chk (Nat.beq l 0) (chk (Nat.beq c 0) (small 0 n bytes (copyK d' t' d' (Nat.mul n sz) o' 0 .leaf fun q => m.setK .non nx (.cells d' q (Nat.mul n sz) e0 true true) fun m => set (.oth (.slice (some ⟨nx, 0, some sz⟩) n n)) e fun e => forceNat (Nat.succ nx) fun nx => k e m nx) (sEff tab o0 set e m nx k)) (sEff tab o0 set e m nx k)) (sEff tab o0 set e m nx k))
      fun b o sz2 len cap => chk (Nat.beq sz2 sz) (cellsK m b fun d t clen el opn wr => growK e0 sz bytes b o len cap n d' t' o' d t clen el opn wr set (fun _ => sEff tab o0 set e m nx k) e m nx k) (sEff tab o0 set e m nx k))
    (sEff tab o0 set e m nx k)) (sEff tab o0 set e m nx k)) (sEff tab o0 set e m nx k)) (sEff tab o0 set e m nx k)
/-- operands, one by one -/
noncomputable def argsK (l : List CO) (e : ET) : (List EV → Option RR) → Option RR :=
  List.rec (motive := fun _ => (List EV → Option RR) → Option RR) (fun k => k []) (fun x _ ih k => x.ev e fun v => movable v fun v => ih fun vs => k (v :: vs)) l
/-- what a closure has caught -/
noncomputable def caughtK (l : List Value) : (List EV → Option RR) → Option RR :=
  List.rec (motive := fun _ => (List EV → Option RR) → Option RR) (fun k => k []) (fun x _ ih k => toEV x fun v => ih fun vs => k (v :: vs)) l
noncomputable def addK (l : List EV) (r : List EV) : (List EV → Option RR) → Option RR :=
  List.rec (motive := fun _ => (List EV → Option RR) → Option RR) (fun k => k r) (fun x _ ih k => ih fun vs => k (x :: vs)) l
/-- the function that a value names, and what it has caught -/
noncomputable def funcOf (v : Value) (k : Ent → List Value → Option RR) : Option RR := match v with
  | .func (.func g) ⟨[]⟩ cs => k (.fn g) cs.toList
  | .func (.yield n) ⟨[]⟩ ⟨[]⟩ => k (.yld n) []
  | _ => none
noncomputable def sCall (f : CO) (args : List CO) (set : Setter) : Step := fun e m nx k => f.ev e fun f => EV.rec (motive := fun _ => Option RR) (fun _ => none) (fun _ => none)
  (fun f => funcOf f fun g cs => caughtK cs fun cs => argsK args e fun vs => addK vs cs fun vs => ocase (call g vs m nx) fun r => set r.1 e fun e => k e r.2.1 r.2.2) f
/-- does it name no memory? -/
def closedArg (v : Value) : Bool := match v with
  | .agg ds => ds.all Value.closed1
  | v => Value.closed1 v
noncomputable def closedEV (v : EV) : Bool := EV.rec (motive := fun _ => Bool) (fun _ => true) (fun _ => true) closedArg v
/-- a call that hangs on its operands alone: it is run where there is no memory -/
noncomputable def sPCall (f : CO) (args : List CO) (set : Setter) : Step := fun e m nx k => f.ev e fun f => EV.rec (motive := fun _ => Option RR) (fun _ => none) (fun _ => none)
  (fun f => funcOf f fun g cs => Ent.rec (motive := fun _ => Option RR) (fun g => List.rec (motive := fun _ => Option RR) (argsK args e fun vs => chk (vs.all closedEV) (ocase (call (.fn g) vs .leaf 0) fun r => chk (closed r.1.val) (set r.1 e fun e => k e m nx) none) none) (fun _ _ _ => none) cs) (fun _ => none) (fun _ => none) g) f
noncomputable def sGuard (s : CO) (want : Bool) (set : Setter) (c : Step) : Step := fun e m nx k => s.ev e fun s => EV.rec (motive := fun _ => Option RR) (fun _ => none)
  (fun b => Bool.rec (motive := fun _ => Option RR) (Bool.rec (motive := fun _ => Option RR) (c e m nx k) (set (.oth undef) e fun e => k e m nx) want) (Bool.rec (motive := fun _ => Option RR) (set (.oth undef) e fun e => k e m nx) (c e m nx k) want) b)
  (fun v => match v with | .tuple _ => set (.oth undef) e fun e => k e m nx | _ => none) s
noncomputable def sCI (c : CI) : Step := CI.rec (motive := fun _ => Step) sMov sBin sLoad (fun _ _ _ _ => none) sOp1 sOp2 sPick (sVal tab) (sRd tab) (sAlloc tab) (fun _ => sStore) (sAppend tab) sMake (sEff tab) (sCall call) (sPCall call) (fun s w d _ ih => sGuard s w d ih) (fun _ _ _ _ => none) c
end

noncomputable def setK {γ : Type} (d : Option Nat) (k : Setter → γ) : γ := match d with
  | none => k fun _ e k => k e
  | some d => updK (β := Option RR) (fun f => updK (β := Option RR) (fun g => k fun v e k => f (g fun _ q => q v) e k) (Nat.mod d 16)) (Nat.div d 16)
noncomputable def compO (x : Operand) : CO := match x with
  | .tmp t => bif Nat.blt t 256 then selK (fun f => selK (fun g => .tmp fun e => g (f e)) (Nat.mod t 16)) (Nat.div t 16) else .cst none
  | .const v => .cst (bif closed v then toEV v some else none)
  | .global _ => .cst none
  | .func f => .cst (some (.oth (.func (.func f) #[] #[])))

noncomputable def compOp (tab : Tab) (o : Oper) (set : Setter) : CI := match o.op with
  | .move x => .mov (compO x) set
  | .assign x => .mov (compO x) set
  | .binOp op t x y _ => natBin (fun f => .bin f (abin tab op t) (compO x) (compO y) set) op
  | .load t x => match tab t with
    | some k => .load k.desc.agg k.size (compO x) set
    | none => .bad
  | .indexAddr t x i => .op2 (aindexAddr tab t) (compO x) (compO i) set
  | .fieldAddr t x f => .op1 (fun x => afieldAddr tab t x f) (compO x) set
  | .field t x f => .op1 (fun x => afield tab t x f) (compO x) set
  | .extract x i => .op1 (fun x => aextract x i) (compO x) set
  | .nilCheck x => .op1 anil (compO x) set
  | .unOp op _ x => .op1 (aun op) (compO x) set
  | .pick c a b => .pick (compO c) (compO a) (compO b) set
  | .store t x v => match tab t with
    | some k => (match o.dst with
      | none => .store t k.size (compO x) (compO v)
      | some _ => .eff o set)
    | none => .bad
  | .lookup .. => .rd o set
  | .convert s d _ => match tab s, tab d with
    | some ⟨.slice _, _, _, _⟩, _ => .rd o set
    | some ⟨.pointer _, _, _, _⟩, some ⟨.unsafeP, _, _, _⟩ => .rd o set
    | some ⟨.unsafeP, _, _, _⟩, some ⟨.pointer _, _, _, _⟩ => .rd o set
    | _, some ⟨.slice _, _, _, _⟩ => .alloc o set
    | _, _ => .val o set
  | .makeSlice t l c => match tab t with
    | some ⟨.slice e, _, _, _⟩ => match tab e with
      | some ⟨_, 1, b, [z]⟩ => toEV z fun z => .makeZero e b z (compO l) (compO c) set
      | _ => .alloc o set
    | _ => .alloc o set
  | .alloc .. | .box .. | .buildSlice .. | .makeMap .. => .alloc o set
  | .mapUpdate .. | .insert .. => .eff o set
  | .call c => match c.callee with
    | .builtin .append => match c.argTypes.toList, c.args.toList with
      | [t0, t1], [a, b] => match tab t0, tab t1 with
        | some ⟨.slice e, _, _, _⟩, some ⟨.slice _, _, _, _⟩ => match tab e with
          | some k => .append o e k.size k.bytes (compO a) (compO b) set
          | none => .bad
        | _, _ => .eff o set
      | _, _ => .eff o set
    | .builtin .len => match c.args.toList, c.argTypes.toList with
      | [a], t :: _ => (match tab t with
        | some ⟨.map _ _, _, _, _⟩ => .rd o set
        | _ => .op1 (alen tab t) (compO a) set)
      | _, _ => .bad
    | .builtin .copy | .builtin .unsafeString => .eff o set
    | .builtin _ => .val o set
    | .value f => .call (compO f) (c.args.toList.map compO) set
    | _ => .bad
  | _ => .val o set

noncomputable def compGd (N : Nat) (ops : Array Oper) (o : Oper) (comp : Setter → CI) : CI := bif okDst N o.dst && Nat.ble N 256 then setK o.dst fun set => (match o.guard with
  | none => comp set
  | some (j, want) => match (ops[j]?).bind (·.dst) with
    | some s => .guard (compO (.tmp s)) want set (comp set)
    | none => .bad) else .bad
noncomputable def compG (tab : Tab) (N : Nat) (ops : Array Oper) (o : Oper) : CI := compGd N ops o (compOp tab o)
noncomputable def compP (N : Nat) (ops : Array Oper) (o : Oper) : CI := compGd N ops o fun set => match o.op with
  | .call c => match c.callee with
    | .value f => .pcall (compO f) (c.args.toList.map compO) set
    | _ => .bad
  | _ => .bad

/-! ### regions whose order is open -/
inductive OpKind where
  | val | rd | call | alloc | other
noncomputable def opKind (tab : Tab) (o : Oper) : OpKind := match o.op with
  | .move _ | .assign _ | .binOp .. | .unOp .. | .indexAddr .. | .fieldAddr .. | .field .. | .index .. | .extract .. | .nilCheck _ | .pick .. | .build .. | .slice .. | .makeFunc .. => .val
  | .load .. | .lookup .. => .rd
  | .convert s d _ => match tab s, tab d with
    | some ⟨.slice _, _, _, _⟩, _ => .rd
    | some ⟨.pointer _, _, _, _⟩, some ⟨.unsafeP, _, _, _⟩ => .rd
    | some ⟨.unsafeP, _, _, _⟩, some ⟨.pointer _, _, _, _⟩ => .rd
    | _, some ⟨.slice _, _, _, _⟩ => .alloc
    | _, _ => .val
  | .alloc .. | .box .. | .buildSlice .. | .makeMap .. | .makeSlice .. => .alloc
  | .call c => match c.callee with
    | .value _ => .call
    | .builtin .len => (match c.argTypes.toList with
      | t :: _ => (match tab t with
        | some ⟨.map _ _, _, _, _⟩ => .rd
        | _ => .val)
      | [] => .other)
    | .builtin .cap | .builtin .min | .builtin .max | .builtin .unsafeSliceData => .val
    | _ => .other
  | _ => .other
/-- which row a read looks at -/
inductive RW where
  | ptr (x : CO)
  | gen (o : Oper)
noncomputable def compRW (o : Oper) : RW := match o.op with
  | .load _ x => .ptr (compO x)
  | _ => .gen o
inductive DI where
  | step (c : CI)
  | read (i : Nat) (w : RW) (c : CI)
  | keep (c : CI) (ind : List Nat)
  | bad
noncomputable def compD (tab : Tab) (N : Nat) (ops : Array Oper) : List (Nat × Bool) → List Nat → List DI
  | [], _ => []
  | (i, true) :: l, rds => match ops[i]? with
    | none => [.bad]
    | some o => match opKind tab o with
      | .val => .step (compG tab N ops o) :: compD tab N ops l rds
      | .rd => .read i (compRW o) (compG tab N ops o) :: compD tab N ops l (i :: rds)
      | .call => .step (compP N ops o) :: compD tab N ops l rds
      | _ => [.bad]
  | (i, false) :: l, rds => match ops[i]? with
    | none => [.bad]
    | some o => match opKind tab o with
      | .alloc => .step (compG tab N ops o) :: compD tab N ops l rds
      | _ => match rds.filter fun j => !dep ops j i with
        | [] => .step (compG tab N ops o) :: compD tab N ops l rds
        | ind => .keep (compG tab N ops o) ind :: compD tab N ops l rds

/-- code, made ready -/
inductive CC where
  | ops (l : List CI)
  | seq (a b : CC)
  | cond (x : CO) (a b : CC)
  | block (i : Nat) (a : CC)
  | loop (a : CC)
  | skip
  | exit (i : Nat)
  | ret
  | bad
  | draw (l : List DI)
  | range (f : CO) (N : Nat) (ps : Array Tmp) (a b : Code) (g : Nat)

noncomputable def compC (tab : Tab) (ord : Nat → DOrd) (g N : Nat) : Code → CC
  | .region id ops d => bif d then (match ord id with
    | .plain l => .draw (compD tab N ops l [])
    | .late i l => .draw (compD tab N (lateOps ops i) l [])) else .ops (ops.toList.map (compG tab N ops))
  | .seq a b => .seq (compC tab ord g N a) (compC tab ord g N b)
  | .cond c a b => .cond (compO c) (compC tab ord g N a) (compC tab ord g N b)
  | .block i a => .block i (compC tab ord g N a)
  | .loop a => .loop (compC tab ord g N a)
  | .scope a => compC tab ord g N a
  | .skip => .skip
  | .label _ => .skip
  | .exit i => .exit i
  | .ret => .ret
  | .rangeFunc f ps a b => .range (compO f) N ps a b g
  | _ => .bad

/-- are the open regions' orders good? -/
def constOp (x : Operand) : Bool := match x with
  | .tmp _ => false
  | _ => true
noncomputable def lateCheck (tab : Tab) (N : Nat) (ops : Array Oper) (i0 : Nat) : Bool := match ops[i0]? with
  | none => false
  | some o0 => match o0.guard, o0.dst, o0.op with
    | none, some d, .alloc _ => lateRest N ops i0 o0 d && (aalloc tab (fun _ => undef) o0).isSome
    | none, some d, .makeSlice _ l c => constOp l && constOp c && lateRest N ops i0 o0 d && (aalloc tab (fun _ => undef) o0).isSome
    | _, _, _ => false
where
  lateRest (N : Nat) (ops : Array Oper) (i0 : Nat) (o0 : Oper) (d : Nat) : Bool := okDst N (some d) &&
    ((List.range ops.size).all fun k => match ops[k]? with
      | none => true
      | some ok => !(ok.after.toList.any fun e => Region.binds .any e && Nat.beq e.on i0) || (othersOf ops i0).all fun j => dep ops j k) &&
    ((othersOf ops i0).all fun j => match ops[j]? with
      | none => true
      | some oj => o0.apart ops oj)
noncomputable def drawOK (tab : Tab) (N : Nat) (ops : Array Oper) (d : DOrd) : Bool := match d with
  | .plain l => l.length == ops.size && goodOrder ops l (Array.replicate ops.size false)
  | .late i l => lateCheck tab N ops i && (l.length == (lateOps ops i).size && goodOrder (lateOps ops i) l (Array.replicate (lateOps ops i).size false))
noncomputable def drawsIn (tab : Tab) (ord : Nat → DOrd) (N : Nat) : Code → Bool
  | .region id ops d => !d || drawOK tab N ops (ord id)
  | .seq a b => drawsIn tab ord N a && drawsIn tab ord N b
  | .cond _ a b => drawsIn tab ord N a && drawsIn tab ord N b
  | .block _ a => drawsIn tab ord N a
  | .loop a => drawsIn tab ord N a
  | .scope a => drawsIn tab ord N a
  | _ => true

section
variable (tab : Tab) (call : Caller)
abbrev Run := ET → MT → Nat → Option RR
noncomputable def sOps (l : List CI) : Run := List.rec (motive := fun _ => Run) (fun e m nx => some ⟨.normal, e, m, nx⟩) (fun c _ ih e m nx => sCI tab call c e m nx ih) l
/-- the same row? -/
def sameAddr' (a b : Addr) : Bool := Nat.beq a.block b.block && Nat.beq a.off b.off && (match a.spot, b.spot with
  | none, none => true
  | some x, some y => Nat.beq x y
  | _, _ => false)
def sameVal : Nat → Value → Value → Bool
  | _, .bool a, .bool b => a == b
  | _, .int k a, .int k' b => sameKind k k' && a == b
  | _, .string a, .string b => a.data.toList == b.data.toList
  | _, .pointer none, .pointer none => true
  | _, .pointer (some a), .pointer (some b) => sameAddr' a b
  | _, .slice none l c, .slice none l' c' => Nat.beq l l' && Nat.beq c c'
  | _, .slice (some a) l c, .slice (some b) l' c' => sameAddr' a b && Nat.beq l l' && Nat.beq c c'
  | _, .map none, .map none => true
  | _, .map (some a), .map (some b) => Nat.beq a b
  | _, .nilFunc, .nilFunc => true
  | n + 1, .agg ⟨l⟩, .agg ⟨l'⟩ => Nat.beq l.length l'.length && ((l.zip l').all fun p => sameVal n p.1 p.2)
  | n + 1, .tuple ⟨l⟩, .tuple ⟨l'⟩ => Nat.beq l.length l'.length && ((l.zip l').all fun p => sameVal n p.1 p.2)
  | n + 1, .func (.func f) ⟨[]⟩ ⟨l⟩, .func (.func f') ⟨[]⟩ ⟨l'⟩ => Nat.beq f f' && Nat.beq l.length l'.length && ((l.zip l').all fun p => sameVal n p.1 p.2)
  | _, _, _ => false
def sameEV (a b : EV) : Bool := match a, b with
  | .nat x, .nat y => Nat.beq x y
  | .bool x, .bool y => x == y
  | .oth x, .oth y => sameVal 2 x y
  | _, _ => false
noncomputable def sameCells (d : EV) (t : PT EV) (d' : EV) (t' : PT EV) (n : Nat) : Bool := Nat.rec (motive := fun _ => Bool) true (fun i ih => Bool.rec (motive := fun _ => Bool) false ih (sameEV (t.get d i) (t'.get d' i))) n
noncomputable def sameRB (a b : RB) : Bool := match a, b with
  | .non, .non => true
  | .dead, .dead => true
  | .cells d t n e opn wr, .cells d' t' n' e' opn' wr' => Nat.beq n n' && Nat.beq e e' && (opn == opn') && (wr == wr') && sameCells d t d' t' n
  | .amap l, .amap l' => Nat.beq l.length l'.length && ((l.zip l').all fun p => sameVal 2 p.1.1 p.2.1 && sameVal 2 p.1.2 p.2.2)
  | _, _ => false
noncomputable def rowE (w : RW) (e : ET) (k : Option Nat → Option RR) : Option RR := RW.rec (motive := fun _ => Option RR) (fun x => x.ev e fun v => EV.rec (motive := fun _ => Option RR) (fun _ => k none) (fun _ => k none) (fun v => match v with
  | .pointer (some a) => k (some a.block)
  | _ => k none) v) (fun o => k ((ard tab (envOf e) o).map (·.1))) w
noncomputable def keptK (ind : List Nat) (m m' : MT) (pd : List (Nat × Nat)) (x : Option RR) : Option RR :=
  List.rec (motive := fun _ => Option RR) x (fun p _ ih => chk (ind.any (Nat.beq p.1)) (chk (sameRB (m.get .non p.2) (m'.get .non p.2)) ih none) ih) pd
noncomputable def sDraw (l : List DI) : List (Nat × Nat) → Run := List.rec (motive := fun _ => List (Nat × Nat) → Run) (fun _ e m nx => some ⟨.normal, e, m, nx⟩)
  (fun d _ ih pd e m nx => DI.rec (motive := fun _ => Option RR) (fun c => sCI tab call c e m nx (ih pd))
    (fun i w c => rowE tab w e fun n => sCI tab call c e m nx (Option.rec (motive := fun _ => Kont) (ih pd) (fun n => ih ((i, n) :: pd)) n))
    (fun c ind => sCI tab call c e m nx fun e' m' nx' => keptK ind m m' pd (ih pd e' m' nx'))
    none d) l
/-- a loop over a function: the function is called with the loop's yield -/
noncomputable def rRange (f : CO) (N : Nat) (ps : Array Tmp) (a b : Code) (g : Nat) : Run := fun e m nx => f.ev e fun f => EV.rec (motive := fun _ => Option RR) (fun _ => none) (fun _ => none)
  (fun f => funcOf f fun q cs => Ent.rec (motive := fun _ => Option RR) (fun q => caughtK cs fun cs => m.setK .non nx (.loop e N ps a b g .normal) fun m1 =>
    ocase (call (.it q) (.oth (.func (.yield nx) #[] #[]) :: cs) m1 (Nat.succ nx)) fun r => RB.rec (motive := fun _ => Option RR) none none (fun _ _ _ _ _ _ => none) (fun _ => none)
      (fun _ _ _ _ _ _ x => r.2.1.setK .non nx .dead fun m2 => some ⟨x, e, m2, r.2.2⟩) (r.2.1.get .non nx)) (fun _ => none) (fun _ => none) q) f
noncomputable def rxSeq (b : Run) (r : RR) : Option RR := RX.rec (motive := fun _ => Option RR) (b r.e r.m r.nx) (fun _ => some r) (some r) r.x
noncomputable def rcase (x : Option RR) (k : RR → Option RR) : Option RR := Option.rec (motive := fun _ => Option RR) none k x
noncomputable def rSeq (a b : Run) : Run := fun e m nx => rcase (a e m nx) (rxSeq b)
noncomputable def rCond (x : CO) (a b : Run) : Run := fun e m nx => x.ev e fun v => EV.rec (motive := fun _ => Option RR) (fun _ => none) (fun t => Bool.rec (motive := fun _ => Option RR) (b e m nx) (a e m nx) t) (fun _ => none) v
noncomputable def rBlock (i : Nat) (a : Run) : Run := fun e m nx => rcase (a e m nx) fun r => RX.rec (motive := fun _ => Option RR) (some r) (fun j => bif Nat.beq j i then some ⟨.normal, r.e, r.m, r.nx⟩ else some r) (some r) r.x
noncomputable def rLoop (a : Run) : Run := Nat.rec (motive := fun _ => Run) (fun _ _ _ => none) (fun _ ih e m nx => rcase (a e m nx) (rxSeq ih)) 1000000
noncomputable def rCC (c : CC) : Run := CC.rec (motive := fun _ => Run) (sOps tab call) (fun _ _ a b => rSeq a b) (fun x _ _ a b => rCond x a b) (fun i _ a => rBlock i a) (fun _ a => rLoop a)
  (fun e m nx => some ⟨.normal, e, m, nx⟩) (fun i e m nx => some ⟨.exit i, e, m, nx⟩) (fun e m nx => some ⟨.ret, e, m, nx⟩) (fun _ _ _ => none) (fun l => sDraw tab call l []) (rRange call) c
/-- a loop's frame with what is yielded -/
noncomputable def putPsK (N : Nat) (ps : List Tmp) (vs : List EV) : ET → (ET → Option RR) → Option RR :=
  List.rec (motive := fun _ => List EV → ET → (ET → Option RR) → Option RR) (fun vs e k => List.rec (motive := fun _ => Option RR) (k e) (fun _ _ _ => none) vs)
    (fun t _ ih vs e k => List.rec (motive := fun _ => Option RR) none (fun v vs _ => chk (Nat.ble (Nat.succ t) N) (setK (some t) fun set => set v e fun e => ih vs e k) none) vs) ps vs
/-- a round -/
noncomputable def runY (ord : Nat → Nat → DOrd) (n : Nat) (args : List EV) (m : MT) (nx : Nat) : Option (EV × MT × Nat) :=
  RB.rec (motive := fun _ => Option (EV × MT × Nat)) none none (fun _ _ _ _ _ _ => none) (fun _ => none)
    (fun e N ps a b g x => RX.rec (motive := fun _ => Option (EV × MT × Nat))
      (bif Nat.ble N 256 && (drawsIn tab (ord g) N a && drawsIn tab (ord g) N b) then
        Option.rec (motive := fun _ => Option (EV × MT × Nat)) none (fun r => RX.rec (motive := fun _ => Option (EV × MT × Nat)) (some (.bool true, r.m, r.nx)) (fun _ => some (.bool false, r.m, r.nx)) (some (.bool false, r.m, r.nx)) r.x)
          (putPsK N ps.toList args e fun e1 => m.setK .non n .dead fun m1 => rcase (rCC tab call (compC tab (ord g) g N a) e1 m1 nx) fun r => RX.rec (motive := fun _ => Option RR)
            (rcase (rCC tab call (compC tab (ord g) g N b) r.e r.m r.nx) fun r2 => RB.rec (motive := fun _ => Option RR) none (r2.m.setK .non n (.loop e N ps a b g r2.x) fun m3 => some ⟨r2.x, r2.e, m3, r2.nx⟩) (fun _ _ _ _ _ _ => none) (fun _ => none) (fun _ _ _ _ _ _ _ => none) (r2.m.get .non n))
            (fun _ => none) none r.x) else none)
      (fun _ => none) none x) (m.get .non n)
end

/-- how arguments are laid -/
noncomputable def layAt (n : Nat) : Nat → List Setter := fun fuel => Nat.rec (motive := fun _ => Nat → List Setter) (fun _ => []) (fun _ ih n => setK (some n) fun set => set :: ih (n + 1)) fuel n
noncomputable def layK (l : List EV) : List Setter → ET → (ET → Option RR) → Option RR :=
  List.rec (motive := fun _ => List Setter → ET → (ET → Option RR) → Option RR) (fun _ e k => k e)
    (fun v _ ih ss e k => List.rec (motive := fun _ => Option RR) none (fun s ss _ => s v e fun e => ih ss e k) ss) l
noncomputable def lay40 : List Setter := layAt 0 40

/-- a function, made ready -/
structure CF where
  lay : List Setter
  code : CC
  one : Option CO
  many : Option (List CO)
  res : List ResultVar

noncomputable def tmpsOf : List ResultVar → Option (List CO)
  | [] => some []
  | .tmp t :: l => match tmpsOf l with
    | some cs => some (compO (.tmp t) :: cs)
    | none => none
  | _ => none

noncomputable def compF (P : Program) (tab : Tab) (ord : Nat → Nat → DOrd) (g : FuncId) : CF := match P.funcs[g]? with
  | none => ⟨[], .bad, none, none, []⟩
  | some fn => match fn.body with
    | none => ⟨[], .bad, none, none, []⟩
    | some c => ⟨layAt 0 (bif Nat.ble fn.ntmps 40 then fn.ntmps else 40), bif isFn P g then compC tab (ord g) g fn.ntmps c else .bad, match fn.results.toList with
      | [.tmp t] => some (compO (.tmp t))
      | _ => none, tmpsOf fn.results.toList, fn.results.toList⟩

/-- what a function hands back, computed -/
noncomputable def resM (tab : Tab) (res : List ResultVar) (r : RR) : Option (EV × MT × Nat) := match resAll tab (envOf r.e) (heapOf r.m 0) res with
  | none => none
  | some [v] => toEV v fun v => some (v, r.m, r.nx)
  | some vs => toEV (.tuple ⟨vs⟩) fun v => some (v, r.m, r.nx)
noncomputable def res1 (f : ET → EV) (r : RR) : Option (EV × MT × Nat) := EV.rec (motive := fun _ => Option (EV × MT × Nat)) (fun n => some (.nat n, r.m, r.nx)) (fun b => some (.bool b, r.m, r.nx)) (fun v => match force v with
  | some v => some (.oth v, r.m, r.nx)
  | none => none) (f r.e)
noncomputable def valK {β : Type} (v : EV) (k : Value → β) : β := EV.rec (motive := fun _ => β) (fun n => k (.int .i64 (.ofNat n))) (fun b => k (.bool b)) (fun v => k v) v
noncomputable def valsK (l : List CO) (e : ET) : (List Value → Option RR) → Option RR :=
  List.rec (motive := fun _ => (List Value → Option RR) → Option RR) (fun k => k []) (fun x _ ih k => x.ev e fun v => movable v fun v => valK v fun v => ih fun vs => k (v :: vs)) l
noncomputable def resT (l : List CO) (r : RR) : Option (EV × MT × Nat) := Option.rec (motive := fun _ => Option (EV × MT × Nat)) none (fun r => some (getE 0 r.e, r.m, r.nx)) (valsK l r.e fun vs => some ⟨.ret, .all (.all (.oth (.tuple ⟨vs⟩))), r.m, r.nx⟩)
noncomputable def resK (tab : Tab) (one : Option CO) (many : Option (List CO)) (res : List ResultVar) (r : RR) : Option (EV × MT × Nat) := match one, many with
  | some (.tmp f), _ => res1 f r
  | _, some l => resT l r
  | _, _ => resM tab res r

noncomputable def runCF (tab : Tab) (call : Caller) (c : CF) (args : List EV) (m : MT) (nx : Nat) : Option (EV × MT × Nat) :=
  CF.rec (motive := fun _ => Option (EV × MT × Nat)) (fun lay code one many res => Option.rec (motive := fun _ => Option (EV × MT × Nat)) none (fun r => RX.rec (motive := fun _ => Option (EV × MT × Nat)) (resK tab one many res r) (fun _ => none) (resK tab one many res r) r.x) (layK args lay e0 fun e => rCC tab call code e m nx)) c

noncomputable def runF (P : Program) (tab : Tab) (kn : Caller) (ord : Nat → Nat → DOrd) (depth : Nat) : Caller :=
  Nat.rec (motive := fun _ => Caller) (fun _ _ _ _ => none)
    (fun _ ih q args m nx => Option.rec (motive := fun _ => Option (EV × MT × Nat)) (Ent.rec (motive := fun _ => Option (EV × MT × Nat)) (fun g => runCF tab ih (compF P tab ord g) args m nx) (fun n => runY tab ih ord n args m nx) (fun g => runCF tab ih (compF P tab ord g) args m nx) q) some (kn q args m nx)) depth
end Go.Mir

