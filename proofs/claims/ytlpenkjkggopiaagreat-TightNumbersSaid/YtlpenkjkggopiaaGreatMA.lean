/- The abstract heap, and how it is related to the model's worlds. By a session's own hand. -/
import Derived.Calls
import Derived.Orders
import Derived.Laws.Sem
set_option linter.unusedSimpArgs false
set_option linter.unusedVariables false
namespace Go.Mir

/-- where an abstract row lies: its block, where in it, the end of what is its own, how many cells are known, how many cells an element has -/
structure Loc where
  b : Nat
  d : Nat
  size : Nat
  known : Nat
  sz : Nat

inductive Blk where
  | dead
  | cells (c : List Value) (elem : TypeId) (opn wr : Bool)
  | amap (es : List (Value × Value))
  /-- a loop over a function: its frame, its rounds' code, how far it is -/
  | loop (ρ : Nat → Value) (N : Nat) (ps : Array Tmp) (assign body : Code) (st : LoopState) (pend : Option Code)

def Blk.wr : Blk → Bool
  | .dead => false
  | .cells _ _ _ w => w
  | .amap _ => true
  | .loop .. => true

structure Heap where
  get : Nat → Option Blk
  next : Nat

abbrev Ren := Nat → Option Loc

inductive VRel (r : Ren) : Value → Value → Prop
  /-- '.chan none' in a cell: nobody knows what lies there -/
  | junk {v' : Value} (h : v'.oneCell' = true) : VRel r (.chan none) v'
  | bool (b : Bool) : VRel r (.bool b) (.bool b)
  | int (k : IntKind) (n : Int) : VRel r (.int k n) (.int k n)
  | string (s : ByteArray) : VRel r (.string s) (.string s)
  | ptrNil : VRel r (.pointer none) (.pointer none)
  | ptr {n o : Nat} {l : Loc} (h : r n = some l) : VRel r (.pointer (some ⟨n, o, none⟩)) (.pointer (some ⟨l.b, l.d + o, none⟩))
  | sliceNil : VRel r (.slice none 0 0) (.slice none 0 0)
  | slice {n o len cap cap' sz : Nat} {l : Loc} (h : r n = some l) (hz : l.sz = sz) (hl : len ≤ cap) (hc : cap ≤ cap') (hk : o + cap * sz ≤ l.known)
      (hs : l.d + o + cap' * sz ≤ l.size) (hx : o + cap * sz < l.known → cap' = cap) :
      VRel r (.slice (some ⟨n, o, some sz⟩) len cap) (.slice (some ⟨l.b, l.d + o, none⟩) len cap')
  | sliceEnd {n o x sz : Nat} {l : Loc} (h : r n = some l) :
      VRel r (.slice (some ⟨n, o, some sz⟩) 0 0) (.slice (some ⟨l.b, x, none⟩) 0 0)
  | mapNil : VRel r (.map none) (.map none)
  | map {n : Nat} {l : Loc} (h : r n = some l) : VRel r (.map (some n)) (.map (some l.b))
  | nilFunc : VRel r .nilFunc .nilFunc
  | nilIface : VRel r .nilIface .nilIface
  | func (f : FuncId) {cs cs' : Array Value} (hs : cs.size = cs'.size) (h : ∀ (i : Nat) (h1 : i < cs.size) (h2 : i < cs'.size), VRel r cs[i] cs'[i]) :
      VRel r (.func (.func f) #[] cs) (.func (.func f) #[] cs')
  | yield {n : Nat} {l : Loc} (h : r n = some l) : VRel r (.func (.yield n) #[] #[]) (.func (.yield l.b) #[] #[])
  | agg {cs cs' : Array Value} (hs : cs.size = cs'.size) (h : ∀ (i : Nat) (h1 : i < cs.size) (h2 : i < cs'.size), VRel r cs[i] cs'[i]) :
      VRel r (.agg cs) (.agg cs')
  | tuple {cs cs' : Array Value} (hs : cs.size = cs'.size) (h : ∀ (i : Nat) (h1 : i < cs.size) (h2 : i < cs'.size), VRel r cs[i] cs'[i]) :
      VRel r (.tuple cs) (.tuple cs')

/-- two renamings agree on what the first one names -/
def Ren.le (r r' : Ren) : Prop := ∀ n l, r n = some l → r' n = some l

theorem Ren.le_refl (r : Ren) : r.le r := fun _ _ h => h
theorem Ren.le_trans {a b c : Ren} (h : a.le b) (h' : b.le c) : a.le c := fun n l e => h' n l (h n l e)

theorem VRel.mono {r r' : Ren} (hr : r.le r') {v v' : Value} (h : VRel r v v') : VRel r' v v' := by
  induction h with
  | junk h => exact .junk h
  | bool b => exact .bool b
  | int k n => exact .int k n
  | string s => exact .string s
  | ptrNil => exact .ptrNil
  | ptr h => exact .ptr (hr _ _ h)
  | sliceNil => exact .sliceNil
  | slice h hz hl hc hk hs hx => exact .slice (hr _ _ h) hz hl hc hk hs hx
  | sliceEnd h => exact .sliceEnd (hr _ _ h)
  | mapNil => exact .mapNil
  | map h => exact .map (hr _ _ h)
  | nilFunc => exact .nilFunc
  | nilIface => exact .nilIface
  | func f hs _ ih => exact .func f hs ih
  | yield h => exact .yield (hr _ _ h)
  | agg hs _ ih => exact .agg hs ih
  | tuple hs _ ih => exact .tuple hs ih

/-- is it nil? (a nil slice has no room) -/
def Value.closed1 : Value → Bool
  | .bool _ | .int _ _ | .string _ | .pointer none | .map none | .nilFunc | .nilIface => true
  | .slice none 0 0 => true
  | .func (.func _) fs cs => fs.size == 0 && cs.size == 0
  | _ => false

/-- a value that names no memory -/
def closed : Value → Bool
  | .agg cs => cs.all Value.closed1
  | .tuple cs => cs.all fun v => match v with
    | .agg ds => ds.all Value.closed1
    | v => Value.closed1 v
  | v => Value.closed1 v

theorem rel_closed1 (r : Ren) {v : Value} (h : Value.closed1 v = true) : VRel r v v := by
  unfold Value.closed1 at h
  split at h <;> first | (cases h; done) | constructor | skip
  rename_i f fs cs
  simp only [Bool.and_eq_true, beq_iff_eq] at h
  obtain ⟨h1, h2⟩ := h
  have e1 : fs = #[] := Array.eq_empty_of_size_eq_zero h1
  subst e1
  exact .func _ rfl (fun i h1 _ => absurd h1 (by omega))

theorem rel_closed (r : Ren) {v : Value} (h : closed v = true) : VRel r v v := by
  unfold closed at h
  split at h
  · rename_i cs
    exact .agg rfl fun i h1 _ => rel_closed1 r (by rw [Array.all_eq_true] at h; exact h i h1)
  · rename_i cs
    refine .tuple rfl fun i h1 _ => ?_
    rw [Array.all_eq_true] at h
    have := h i h1
    split at this
    · rename_i ds he
      exact (he ▸ .agg rfl fun j h3 _ => rel_closed1 r (by rw [Array.all_eq_true] at this; exact this j h3))
    · exact rel_closed1 r this
  · exact rel_closed1 r h

abbrev Env := Nat → Value
def ERel (r : Ren) (ρ : Env) (tmps : Array Value) : Prop := ∀ i, VRel r (ρ i) (tmps.getD i undef)

/-- what a block of the world is, for an abstract one -/
def BlkRel (r : Ren) (l : Loc) : Blk → Option Obj → Prop
  | .dead, _ => True
  | .cells c e opn wr, some (.cells c' e' fz) =>
    e = e' ∧ c.length = l.known ∧ l.d + l.known ≤ l.size ∧ l.size ≤ c'.size ∧ (opn = false → l.d = 0 ∧ l.size = l.known ∧ c'.size = l.known) ∧
    (∀ (i : Nat) (v : Value), c[i]? = some v → ∃ v', c'[l.d + i]? = some v' ∧ VRel r v v') ∧
    (wr = true → ∀ o, l.d ≤ o → o < l.size → ¬ (fz.1 ≤ o ∧ o < fz.2))
  | .amap es, some (.map es' _) => es.length = es'.size ∧ ∀ (i : Nat) (p : Value × Value), es[i]? = some p → ∃ e, es'[i]? = some e ∧ e.key = p.1 ∧ VRel r p.2 e.val
  | .loop ρ N ps assign body st pend, some (.loop rec) => rec.tmps.size = N ∧ ERel r ρ rec.tmps ∧ rec.params = ps ∧ rec.assign = assign ∧ rec.body = body ∧ rec.state = st ∧ rec.pending = pend
  | _, _ => False

/-- blocks that stay as they are; true: and that no living row lies in -/
structure Prot where
  map : Nat → Option (Obj × Bool)
  ext : Os × Array (Nat × ByteArray)
instance : CoeFun Prot fun _ => Nat → Option (Obj × Bool) := ⟨Prot.map⟩

structure HRel (prot : Prot) (r : Ren) (h : Heap) (w : World) : Prop where
  dom : ∀ n, r n = none ↔ h.get n = none
  fresh : ∀ n, h.next ≤ n → h.get n = none
  blk : ∀ n l k, r n = some l → h.get n = some k → BlkRel r l k w.heap[l.b]?
  inj : ∀ n m l l' k k', n ≠ m → r n = some l → r m = some l' → h.get n = some k → h.get m = some k' → k.wr = true → k' ≠ .dead → l.b ≠ l'.b
  safe : ∀ b o, prot b = some o → w.heap[b]? = some o.1
  keep : ∀ b o, prot b = some o → ∀ n l k, r n = some l → l.b = b → h.get n = some k → k.wr = false ∧ (o.2 = true → k = .dead)
  ext : (w.os, w.output) = prot.ext

def put (ρ : Env) (d : Nat) (v : Value) : Env := fun t => bif Nat.beq t d then v else ρ t
def putO (ρ : Env) (d : Option Nat) (v : Value) : Env := match d with
  | some d => put ρ d v
  | none => ρ

structure Ghost where
  prot : Prot
  r0 : Ren
  n0 : Nat
  N : Nat
  /-- is it a round of a loop, and of which one? -/
  ro : Option Nat := none
  /-- the blocks for what rounds put off -/
  marks : List Nat := []

/-- what a frame has put off, and the record of the loop that it is a round of -/
def Ghost.holds (G : Ghost) (ds : List Deferred) : Prop :=
  ds = G.marks.map (fun D => { target := .collected D, args := #[] }) ∧ G.marks.Nodup ∧ (∀ D ∈ G.marks, G.prot D = some (.deferred (some []), true)) ∧
    ∀ l, G.ro = some l → ∃ rec, G.prot l = some (.loop rec, true)

/-- the abstract state and the model's own -/
def Rel (G : Ghost) (ρ : Env) (h : Heap) (a : Act) (w : World) : Prop :=
  G.holds a.defers ∧ a.tmps.size = G.N ∧ ∃ r : Ren, (∀ n, n < G.n0 → r n = G.r0 n) ∧ G.n0 ≤ h.next ∧ ERel r ρ a.tmps ∧ HRel G.prot r h w

theorem put_same (ρ : Env) (d : Nat) (v : Value) : put ρ d v d = v := by simp [put, Nat.beq_refl]
theorem put_ne (ρ : Env) {d t : Nat} (v : Value) (h : t ≠ d) : put ρ d v t = ρ t := by
  have : Nat.beq t d = false := by
    cases hb : Nat.beq t d
    · rfl
    · exact absurd (Nat.eq_of_beq_eq_true hb) h
  simp [put, this]

theorem ERel.put {r : Ren} {ρ : Env} {tmps : Array Value} (h : ERel r ρ tmps) {d : Nat} (hd : d < tmps.size) {v v' : Value} (hv : VRel r v v') :
    ERel r (put ρ d v) (tmps.setIfInBounds d v') := by
  intro i
  by_cases hi : i = d
  · subst hi
    rw [put_same]
    simpa [Array.getD, hd] using hv
  · rw [put_ne _ _ hi]
    have : (tmps.setIfInBounds d v').getD i undef = tmps.getD i undef := by
      simp [Array.getElem?_setIfInBounds_ne (Ne.symm hi)]
    rw [this]
    exact h i

theorem ERel.mono {r r' : Ren} (hr : r.le r') {ρ : Env} {tmps : Array Value} (h : ERel r ρ tmps) : ERel r' ρ tmps := fun i => (h i).mono hr

/-- the slot that is written lies in the frame -/
def okDst (N : Nat) : Option Nat → Bool
  | some d => Nat.blt d N
  | none => true

theorem ERel.putO {r : Ren} {ρ : Env} {a : Act} (h : ERel r ρ a.tmps) {d : Option Nat} (hd : okDst a.tmps.size d = true) {v v' : Value} (hv : VRel r v v') :
    ERel r (putO ρ d v) (a.put d v').tmps := by
  cases d with
  | none => exact h
  | some d => exact h.put (by simpa [okDst, Nat.blt_eq] using hd) hv

theorem Act.put_size (a : Act) (d : Option Nat) (v : Value) : (a.put d v).tmps.size = a.tmps.size := by
  cases d <;> simp [Act.put]
theorem Act.put_def (a : Act) (d : Option Nat) (v : Value) : (a.put d v).defers = a.defers := by
  cases d <;> rfl

/-! ### what a function's call comes to -/

def ACall (P : Program) (f : FuncId) (args : Array Value) (h : Heap) (K : Value → Heap → Prop) : Prop :=
  ∀ prot r args' w, HRel prot r h w → VRel r (.tuple args) (.tuple args') →
    Calls P f args' w fun e w' => ∃ v v' r' h', e = .returned v' ∧ K v h' ∧ VRel r' v v' ∧ (∀ n, n < h.next → r' n = r n) ∧ h.next ≤ h'.next ∧ HRel prot r' h' w'

theorem ACall.mono {P : Program} {f : FuncId} {args : Array Value} {h : Heap} {K K' : Value → Heap → Prop} (hc : ACall P f args h K)
    (hk : ∀ v h', K v h' → K' v h') : ACall P f args h K' :=
  fun prot r args' w hh ha => (hc prot r args' w hh ha).mono fun _ _ ⟨v, v', r', h', e, k, rest⟩ => ⟨v, v', r', h', e, hk _ _ k, rest⟩

/-- a call that computes: it answers v, and leaves the abstract heap as it is -/
def APure (P : Program) (f : FuncId) (args : Array Value) (v : Value) : Prop :=
  ∀ h, ACall P f args h fun u h' => u = v ∧ h' = h

/-- every name in it is below k -/
inductive Bd (k : Nat) : Value → Prop
  | junk : Bd k (.chan none)
  | bool (b : Bool) : Bd k (.bool b)
  | int (q : IntKind) (n : Int) : Bd k (.int q n)
  | string (s : ByteArray) : Bd k (.string s)
  | ptrNil : Bd k (.pointer none)
  | ptr {n o : Nat} {s : Option Nat} (h : n < k) : Bd k (.pointer (some ⟨n, o, s⟩))
  | sliceNil {a b : Nat} : Bd k (.slice none a b)
  | slice {n o len cap : Nat} {s : Option Nat} (h : n < k) : Bd k (.slice (some ⟨n, o, s⟩) len cap)
  | mapNil : Bd k (.map none)
  | map {n : Nat} (h : n < k) : Bd k (.map (some n))
  | nilFunc : Bd k .nilFunc
  | nilIface : Bd k .nilIface
  | func (f : FuncId) {cs : Array Value} (h : ∀ (i : Nat) (h1 : i < cs.size), Bd k cs[i]) : Bd k (.func (.func f) #[] cs)
  | yield {n : Nat} (h : n < k) : Bd k (.func (.yield n) #[] #[])
  | agg {cs : Array Value} (h : ∀ (i : Nat) (h1 : i < cs.size), Bd k cs[i]) : Bd k (.agg cs)
  | tuple {cs : Array Value} (h : ∀ (i : Nat) (h1 : i < cs.size), Bd k cs[i]) : Bd k (.tuple cs)

def Ren.cut (r : Ren) (k : Nat) : Ren := fun n => if n < k then r n else none
theorem Ren.cut_lt (r : Ren) {k n : Nat} (h : n < k) : r.cut k n = r n := by simp [Ren.cut, h]

theorem VRel.cut {r : Ren} {k : Nat} {v v' : Value} (h : VRel r v v') : Bd k v → VRel (r.cut k) v v' := by
  induction h with
  | junk h => exact fun _ => .junk h
  | bool b => exact fun _ => .bool b
  | int k n => exact fun _ => .int k n
  | string s => exact fun _ => .string s
  | ptrNil => exact fun _ => .ptrNil
  | ptr h => intro hb; cases hb with | ptr hn => exact .ptr (by rw [Ren.cut_lt _ hn]; exact h)
  | sliceNil => exact fun _ => .sliceNil
  | slice h hz hl hc hk hs hx => intro hb; cases hb with | slice hn => exact .slice (by rw [Ren.cut_lt _ hn]; exact h) hz hl hc hk hs hx
  | sliceEnd h => intro hb; cases hb with | slice hn => exact .sliceEnd (by rw [Ren.cut_lt _ hn]; exact h)
  | mapNil => exact fun _ => .mapNil
  | map h => intro hb; cases hb with | map hn => exact .map (by rw [Ren.cut_lt _ hn]; exact h)
  | nilFunc => exact fun _ => .nilFunc
  | nilIface => exact fun _ => .nilIface
  | func f hs _ ih => intro hb; cases hb with | func _ hb => exact .func f hs fun i h1 h2 => ih i h1 h2 (hb i h1)
  | yield h => intro hb; cases hb with | yield hn => exact .yield (by rw [Ren.cut_lt _ hn]; exact h)
  | agg hs _ ih => intro hb; cases hb with | agg hb => exact .agg hs fun i h1 h2 => ih i h1 h2 (hb i h1)
  | tuple hs _ ih => intro hb; cases hb with | tuple hb => exact .tuple hs fun i h1 h2 => ih i h1 h2 (hb i h1)

theorem VRel.bd {r : Ren} {k : Nat} (hr : ∀ n l, r n = some l → n < k) {v v' : Value} (h : VRel r v v') : Bd k v := by
  induction h with
  | junk h => exact .junk
  | bool b => exact .bool b
  | int k n => exact .int k n
  | string s => exact .string s
  | ptrNil => exact .ptrNil
  | ptr h => exact .ptr (hr _ _ h)
  | sliceNil => exact .sliceNil
  | slice h hz hl hc hk hs hx => exact .slice (hr _ _ h)
  | sliceEnd h => exact .slice (hr _ _ h)
  | mapNil => exact .mapNil
  | map h => exact .map (hr _ _ h)
  | nilFunc => exact .nilFunc
  | nilIface => exact .nilIface
  | func f hs _ ih => exact .func f fun i h1 => ih i h1 (by omega)
  | yield h => exact .yield (hr _ _ h)
  | agg hs _ ih => exact .agg fun i h1 => ih i h1 (by omega)
  | tuple hs _ ih => exact .tuple fun i h1 => ih i h1 (by omega)

def BdBlk (k : Nat) : Blk → Prop
  | .dead => True
  | .cells c _ _ _ => ∀ v, v ∈ c → Bd k v
  | .amap es => ∀ p, p ∈ es → Bd k p.2
  | .loop ρ _ _ _ _ _ _ => ∀ i, Bd k (ρ i)

theorem BlkRel.cut {r : Ren} {l : Loc} {k : Nat} {b : Blk} {o : Option Obj} (h : BlkRel r l b o) (hb : BdBlk k b) : BlkRel (r.cut k) l b o := by
  cases b with
  | dead => trivial
  | cells c e opn wr =>
    cases o with
    | none => exact h.elim
    | some o =>
      cases o <;> first | exact h.elim | skip
      obtain ⟨h1, h2, h3, h4, h5, h6, h7⟩ := h
      refine ⟨h1, h2, h3, h4, h5, fun i v hv => ?_, h7⟩
      obtain ⟨v', hv', hvr⟩ := h6 i v hv
      exact ⟨v', hv', hvr.cut (hb v (List.mem_of_getElem? hv))⟩
  | amap es =>
    cases o with
    | none => exact h.elim
    | some o =>
      cases o <;> first | exact h.elim | skip
      obtain ⟨h1, h2⟩ := h
      refine ⟨h1, fun i p hp => ?_⟩
      obtain ⟨e, he, hk, hv⟩ := h2 i p hp
      exact ⟨e, he, hk, hv.cut (hb p (List.mem_of_getElem? hp))⟩
  | loop ρ N ps ca cb st pd =>
    cases o with
    | none => exact h.elim
    | some o =>
      cases o <;> first | exact h.elim | skip
      obtain ⟨h1, h2, h3⟩ := h
      exact ⟨h1, fun i => (h2 i).cut (hb i), h3⟩

theorem BlkRel.mono {r r' : Ren} (hr : r.le r') {l : Loc} {b : Blk} {o : Option Obj} (h : BlkRel r l b o) : BlkRel r' l b o := by
  cases b with
  | dead => trivial
  | cells c e opn wr =>
    cases o with
    | none => exact h.elim
    | some o =>
      cases o <;> first | exact h.elim | skip
      obtain ⟨h1, h2, h3, h4, h5, h6, h7⟩ := h
      refine ⟨h1, h2, h3, h4, h5, fun i v hv => ?_, h7⟩
      obtain ⟨v', hv', hvr⟩ := h6 i v hv
      exact ⟨v', hv', hvr.mono hr⟩
  | amap es =>
    cases o with
    | none => exact h.elim
    | some o =>
      cases o <;> first | exact h.elim | skip
      obtain ⟨h1, h2⟩ := h
      refine ⟨h1, fun i p hp => ?_⟩
      obtain ⟨e, he, hk, hv⟩ := h2 i p hp
      exact ⟨e, he, hk, hv.mono hr⟩
  | loop ρ N ps ca cb st pd =>
    cases o with
    | none => exact h.elim
    | some o =>
      cases o <;> first | exact h.elim | skip
      obtain ⟨h1, h2, h3⟩ := h
      exact ⟨h1, fun i => (h2 i).mono hr, h3⟩

/-- the blocks below k alone -/
def Heap.cut (h : Heap) (k : Nat) : Heap := ⟨fun n => if n < k then h.get n else none, k⟩

/-- what a call made, and nobody names any more, is forgotten -/
theorem HRel.cut {prot : Prot} {r : Ren} {h : Heap} {w : World} (hh : HRel prot r h w) (k : Nat)
    (hb : ∀ n b, n < k → h.get n = some b → BdBlk k b) : HRel prot (r.cut k) (h.cut k) w := by
  have q : ∀ n l, r.cut k n = some l → n < k ∧ r n = some l := fun n l e => by
    unfold Ren.cut at e; split at e
    · exact ⟨‹_›, e⟩
    · cases e
  have q' : ∀ n l, (h.cut k).get n = some l → n < k ∧ h.get n = some l := fun n l e => by
    simp only [Heap.cut] at e; split at e
    · exact ⟨‹_›, e⟩
    · cases e
  refine ⟨fun n => ?_, fun n hn => ?_, ?_, ?_, hh.safe, ?_, hh.ext⟩
  · by_cases hn : n < k
    · simp [Ren.cut, Heap.cut, hn]; exact hh.dom n
    · simp [Ren.cut, Heap.cut, hn]
  · have : ¬ n < k := by simp only [Heap.cut] at hn; omega
    simp [Heap.cut, this]
  · intro n l b hn hk
    exact (hh.blk n l b (q _ _ hn).2 (q' _ _ hk).2).cut (hb n b (q _ _ hn).1 (q' _ _ hk).2)
  · intro n m l l' b b' hnm hn hm hk hk' hw hd
    exact hh.inj n m l l' b b' hnm (q _ _ hn).2 (q _ _ hm).2 (q' _ _ hk).2 (q' _ _ hk').2 hw hd
  · intro b o hbo n l c hn hlb hk
    exact hh.keep b o hbo n l c (q _ _ hn).2 hlb (q' _ _ hk).2

/-- equal as far as anybody can look -/
theorem HRel.congr {prot : Prot} {r : Ren} {h h' : Heap} {w : World} (hh : HRel prot r h w) (hg : ∀ n, h'.get n = h.get n) (hn : h'.next = h.next) :
    HRel prot r h' w := by
  have e : h' = h := by
    cases h; cases h'; simp only [Heap.mk.injEq]
    exact ⟨funext hg, hn⟩
  exact e ▸ hh

theorem HRel.lt {prot : Prot} {r : Ren} {h : Heap} {w : World} (hh : HRel prot r h w) : ∀ n l, r n = some l → n < h.next := fun n l e => by
  rcases Nat.lt_or_ge n h.next with q | q
  · exact q
  · have := (hh.dom n).2 (hh.fresh n q); rw [this] at e; cases e

/-- the blocks that a heap has hold names of its own alone -/
theorem HRel.bd {prot : Prot} {r : Ren} {h : Heap} {w : World} (hh : HRel prot r h w) : ∀ n b, h.get n = some b → BdBlk h.next b := by
  intro n b hb
  cases hr : r n with
  | none => have := (hh.dom n).1 hr; rw [this] at hb; cases hb
  | some l =>
    have hx := hh.blk n l b hr hb
    cases b with
    | dead => trivial
    | cells c e opn wr =>
      generalize w.heap[l.b]? = o at hx
      cases o with
      | none => exact hx.elim
      | some o =>
        cases o <;> first | exact hx.elim | skip
        obtain ⟨h1, h2, h3, h4, h5, h6, h7⟩ := hx
        intro v hv
        obtain ⟨i, hi⟩ := List.getElem?_of_mem hv
        obtain ⟨v', _, hvr⟩ := h6 i v hi
        exact hvr.bd hh.lt
    | amap es =>
      generalize w.heap[l.b]? = o at hx
      cases o with
      | none => exact hx.elim
      | some o =>
        cases o <;> first | exact hx.elim | skip
        obtain ⟨h1, h2⟩ := hx
        intro p hp
        obtain ⟨i, hi⟩ := List.getElem?_of_mem hp
        obtain ⟨e, _, _, hvr⟩ := h2 i p hi
        exact hvr.bd hh.lt
    | loop ρ N ps ca cb st pd =>
      generalize w.heap[l.b]? = o at hx
      cases o with
      | none => exact hx.elim
      | some o =>
        cases o <;> first | exact hx.elim | skip
        exact fun i => (hx.2.1 i).bd hh.lt

/-- h' is h, and new blocks beside it -/
def Heap.Ext (h h' : Heap) : Prop := h.next ≤ h'.next ∧ ∀ n, n < h.next → h'.get n = h.get n

/-- a call that answers what names nothing, and changes nothing that was: all that it made is forgotten -/
theorem APure.mk {P : Program} {f : FuncId} {args : Array Value} {v : Value} (hv : Bd 0 v)
    (hc : ∀ h, (∀ n, h.next ≤ n → h.get n = none) → ACall P f args h fun u h' => u = v ∧ h.Ext h') : APure P f args v := by
  intro h prot r args' w hh ha
  refine (hc h hh.fresh prot r args' w hh ha).mono fun e w' ⟨u, v', r', h', he, ⟨hu, _, hx⟩, hvr, hr, hn, hh'⟩ => ?_
  subst hu
  have hb : ∀ n b, n < h.next → h'.get n = some b → BdBlk h.next b := fun n b hn hb => hh.bd n b (by rw [← hx n hn]; exact hb)
  have h2 := hh'.cut h.next hb
  have e1 : r'.cut h.next = r := funext fun n => by
    by_cases q : n < h.next
    · rw [Ren.cut_lt _ q, hr n q]
    · simp only [Ren.cut, q, if_false]
      exact ((hh.dom n).2 (hh.fresh n (by omega))).symm
  have e2 : h'.cut h.next = h := by
    cases h with
    | mk g k =>
      simp only [Heap.cut, Heap.mk.injEq, and_true]
      refine funext fun n => ?_
      by_cases q : n < k
      · simp only [q, if_true]; exact hx n q
      · simp only [q, if_false]; exact (hh.fresh n (by simpa using q)).symm
  rw [e1, e2] at h2
  refine ⟨u, v', r, h, he, ⟨rfl, rfl⟩, ?_, fun _ _ => rfl, Nat.le_refl _, h2⟩
  have := hvr.cut (k := 0) hv
  exact this.mono fun n l e => by simp [Ren.cut] at e

end Go.Mir

