/- Operations that write memory. By a session's own hand. -/
import Derived.Test.YtlpenkjkggopiaaGreatMH
set_option linter.unusedSimpArgs false
set_option linter.unusedVariables false
namespace Go.Mir

/-- a row that may be written -/
def wrow : Option Blk → Option (List Value × TypeId × Bool)
  | some (.cells c e opn true) => some (c, e, opn)
  | _ => none
def row : Option Blk → Option (List Value × TypeId × Bool)
  | some (.cells c e opn _) => some (c, e, opn)
  | _ => none

def oneCells (l : List Value) : Bool := l.all Value.oneCell'

/-- a value written into a variable -/
def astore (tab : Tab) (t : Nat) (x v : Value) (h : Heap) : Option Heap :=
  match tab t, x with
  | some k, .pointer (some ⟨n, o, none⟩) => match wrow (h.get n) with
    | some (c, e, opn) =>
      if v.cells.size = k.size ∧ o + k.size ≤ c.length ∧ oneCells v.cells.toList = true then some (h.set n (.cells (writeL c o v.cells.toList) e opn true)) else none
    | none => none
  | _, _ => none

def aupd (k v : Value) : List (Value × Value) → List (Value × Value)
  | [] => [(k, v)]
  | p :: l => if sameKey k p.1 then (k, v) :: l else p :: aupd k v l

def amapUpdate (tab : Tab) (t : Nat) (m k v : Value) (h : Heap) : Option Heap :=
  match tab t, m with
  | some ⟨.map kt _, _, _, _⟩, .map (some n) => match tab kt, h.get n with
    | some kk, some (.amap es) => if keysOK kk.desc k es then some (h.set n (.amap (aupd k v es))) else none
    | _, _ => none
  | _, _ => none

/-- what is appended: its cells, and how many elements they are -/
def asrc (tab : Tab) (sz : Nat) (z : List Value) (xt : Option Nat) (x : Value) (h : Heap) : Option (List Value × Nat) :=
  match xt with
  | none => none
  | some t => match tab t, x with
    | some ⟨.int _, _, _, _⟩, .int _ n => if 0 ≤ n ∧ n < 2 ^ 40 then some (repl n.toNat z, n.toNat) else none
    | some ⟨.slice _, _, _, _⟩, .slice none _ _ => some ([], 0)
    | some ⟨.slice _, _, _, _⟩, .slice (some ⟨n, o, some s⟩) len _ => match row (h.get n) with
      | some (c, _, _) => if s = sz ∧ o + len * sz ≤ c.length then some ((c.drop o).take (len * sz), len) else none
      | none => none
    | some ⟨.string, _, _, _⟩, .string s => if sz = 1 then some (strCells s, s.size) else none
    | _, _ => none

/-- append: in place, where that is sure; else into a new row: and where it is not sure, nobody may look at the old one any more -/
def aappend (tab : Tab) (ts : Array TypeId) (name : Nat) (s x : Value) (h : Heap) : Option (Value × Heap) :=
  match ts.toList with
  | [] => none
  | t0 :: tl => match tab t0, s with
    | some ⟨.slice e, _, _, _⟩, .slice base sLen sCap => match tab e with
      | some k => match asrc tab k.size k.zero tl.head? x h with
        | some (new, n) =>
          if k.size = 0 ∨ oneCells new = false then none else
          if sLen + n ≤ sCap then match base with
            | none => some (.slice none 0 0, h)
            | some ⟨b, o, some sz⟩ => if n = 0 then some (.slice (some ⟨b, o, some sz⟩) sLen sCap, h) else match wrow (h.get b) with
              | some (c, e', opn) => if sz = k.size ∧ o + sCap * sz ≤ c.length then
                  some (.slice (some ⟨b, o, some sz⟩) (sLen + n) sCap, h.set b (.cells (writeL c (o + sLen * sz) new) e' opn true)) else none
              | none => none
            | _ => none
          else if (2 * (sLen + n) + 192) * k.bytes > 2 ^ 48 ∨ sLen + n ≥ 2 ^ 60 then none else match base with
            | none => some (.slice (some ⟨name, 0, some k.size⟩) n n, h.set name (.cells new e true true))
            | some ⟨b, o, some sz⟩ => match h.get b with
              | some (.cells c e' opn wr) =>
                if sz = k.size ∧ o + sCap * sz ≤ c.length ∧ e' = e then
                  if opn = false ∨ o + sCap * sz < c.length then
                    some (.slice (some ⟨name, 0, some sz⟩) (sLen + n) (sLen + n), h.set name (.cells ((c.drop o).take (sLen * sz) ++ new) e true true))
                  else if wr then some (.slice (some ⟨name, 0, some sz⟩) (sLen + n) (sLen + n), (h.set b .dead).set name (.cells ((c.drop o).take (sLen * sz) ++ new) e true true))
                  else none
                else none
              | _ => none
            | _ => none
        | none => none
      | none => none
    | _, _ => none

/-- copy -/
def acopy (tab : Tab) (ts : Array TypeId) (d x : Value) (h : Heap) : Option (Value × Heap) :=
  match ts.toList with
  | [] => none
  | t0 :: _ => match tab t0, d with
    | some ⟨.slice e, _, _, _⟩, .slice none _ _ => match tab e, x with
      | some _, .slice _ _ _ => some (.int .i64 0, h)
      | some _, .string _ => some (.int .i64 0, h)
      | _, _ => none
    | some ⟨.slice e, _, _, _⟩, .slice (some ⟨b, o, some sz⟩) len _ => match tab e, wrow (h.get b) with
      | some k, some (c, e', opn) => match x with
        | .slice none _ _ => some (.int .i64 0, h)
        | .slice (some ⟨m, p, some s⟩) n _ => match row (h.get m) with
          | some (cs, _, _) =>
            if sz = k.size ∧ s = k.size ∧ o + len * sz ≤ c.length ∧ p + n * s ≤ cs.length ∧ oneCells ((cs.drop p).take (min n len * s)) = true then
              some (.int .i64 ((min n len : Nat) : Int), h.set b (.cells (writeL c o ((cs.drop p).take (min n len * s))) e' opn true))
            else none
          | none => none
        | .string str => if sz = 1 ∧ k.size = 1 ∧ o + len * sz ≤ c.length then
            some (.int .i64 ((min str.size len : Nat) : Int), h.set b (.cells (writeL c o ((strCells str).take (min str.size len))) e' opn true)) else none
        | _ => none
      | _, _ => none
    | _, _ => none

/-- unsafe.String: the text of bytes, which nobody may write any more -/
def aunsafeStr (tab : Tab) (ts : Array TypeId) (p len : Value) (h : Heap) : Option (Value × Heap) :=
  match ts.toList, p, len with
  | _ :: _, .pointer none, .int _ n => if n = 0 then some (.string .empty, h) else none
  | t :: _, .pointer (some ⟨b, o, none⟩), .int _ n => match tab t with
    | some ⟨.pointer e, _, _, _⟩ => match tab e, h.get b with
      | some ⟨.int .u8, _, _, _⟩, some (.cells c e' opn true) =>
        if 0 < n ∧ n < 2 ^ 62 ∧ o + n.toNat ≤ c.length ∧ e' = e then match bytesOf ((c.drop o).take n.toNat) with
          | some bs => some (.string ⟨bs.toArray⟩, h.set b (.cells c e' opn false))
          | none => none
        else if n = 0 then some (.string .empty, h) else none
      | _, _ => none
    | _ => none
  | _, _, _ => none

/-- what an operation that writes does -/
def aeff (tab : Tab) (ρ : Env) (name : Nat) (o : Oper) (h : Heap) : Option (Value × Heap) :=
  match o.op with
  | .store t x v => match ev ρ x, ev ρ v with
    | some x, some v => (astore tab t x v h).map fun h' => (undef, h')
    | _, _ => none
  | .mapUpdate t m k v => match ev ρ m, ev ρ k, ev ρ v with
    | some m, some k, some v => (amapUpdate tab t m k v h).map fun h' => (undef, h')
    | _, _, _ => none
  | .insert t m k v => match ev ρ m, ev ρ k, ev ρ v with
    | some m, some k, some v => (amapUpdate tab t m k v h).map fun h' => (undef, h')
    | _, _, _ => none
  | .call c => match c.callee, evs ρ c.args.toList with
    | .builtin .append, some [s, x] => aappend tab c.argTypes name s x h
    | .builtin .copy, some [d, x] => acopy tab c.argTypes d x h
    | .builtin .unsafeString, some [p, n] => aunsafeStr tab c.argTypes p n h
    | _, _ => none
  | _ => none

section
variable {P : Program} {tab : Tab} {r : Ren} {ρ : Env} {a : Act}

/-- what is written into a row that may be written -/
theorem write_row {prot : Prot} {h : Heap} {w : World} (hh : HRel prot r h w) {n : Nat} {l : Loc} (hr : r n = some l) {c : List Value} {e : TypeId} {opn : Bool}
    (hk : h.get n = some (.cells c e opn true)) {o : Nat} {vs vs' : List Value} (hv : LRel r vs vs') (ho : ∀ v ∈ vs, v.oneCell' = true) (hlen : o + vs.length ≤ c.length) :
    ∃ w', (storeCells ⟨l.b, l.d + o, none⟩ vs').run P w = .ok () w' ∧ HRel prot r (h.set n (.cells (writeL c o vs) e opn true)) w' := by
  have hb := hh.blk n l _ hr hk
  generalize hw : w.heap[l.b]? = ob at hb
  cases ob with
  | none => exact hb.elim
  | some ob =>
    cases ob <;> first | exact hb.elim | skip
    rename_i c' e' fz
    obtain ⟨h1, h2, h3, h4, h5, h6, h7⟩ := hb
    have hl := hv.length
    obtain ⟨w', hrun, hobj, hsame, hex⟩ := run_storeCells (P := P) (b := l.b) (o := l.d + o) vs' 0 hw (hv.oneCell ho) (by omega) (fun j hj => h7 rfl _ (by omega) (by omega))
    refine ⟨w', hrun, hh.turn hr hk rfl hsame hobj ⟨h1, by rw [writeL_length]; exact h2, h3, by rw [writeA_size]; exact h4, fun q => by rw [writeA_size]; exact h5 q, ?_, h7⟩ hex⟩
    exact write_rel (d := l.d) (o := o) hv h6

theorem wrow_some {b : Option Blk} {c : List Value} {e : TypeId} {opn : Bool} (h : wrow b = some (c, e, opn)) : b = some (.cells c e opn true) := by
  unfold wrow at h
  split at h
  · cases h; rfl
  · cases h
theorem row_some {b : Option Blk} {c : List Value} {e : TypeId} {opn : Bool} (h : row b = some (c, e, opn)) : ∃ wr, b = some (.cells c e opn wr) := by
  unfold row at h
  split at h
  · cases h; exact ⟨_, rfl⟩
  · cases h
theorem named {prot : Prot} {h : Heap} {w : World} (hh : HRel prot r h w) {n : Nat} {k : Blk} (hk : h.get n = some k) : ∃ l, r n = some l := by
  cases hr : r n with
  | none => have := (hh.dom n).1 hr; rw [this] at hk; cases hk
  | some l => exact ⟨l, rfl⟩

theorem oneCells_all {l : List Value} (h : oneCells l = true) : ∀ v ∈ l, v.oneCell' = true := by
  simpa [oneCells] using h

theorem astore_run (hT : TabOK P tab) {t : Nat} {x x' v v' : Value} {h h' : Heap} (hs : astore tab t x v h = some h') (hx : VRel r x x') (hv : VRel r v v') {prot : Prot} {w : World}
    (hh : HRel prot r h w) : ∃ w', (Instr.storeAt t x' v').run P w = .ok () w' ∧ HRel prot r h' w' ∧ h'.next = h.next := by
  unfold astore at hs
  split at hs
  · rename_i k n o ht
    split at hs
    · rename_i c e opn hrow
      split at hs
      · rename_i hc
        obtain ⟨hc1, hc2, hc3⟩ := hc
        cases hs
        cases hx with | ptr hn => ?_
        rename_i l
        have hk := wrow_some hrow
        have hcl := LRel.of_agg hv.cells
        obtain ⟨w', hrun, hrel⟩ := write_row (P := P) hh hn hk hcl (oneCells_all hc3) (by simp [hc1]; omega)
        refine ⟨w', ?_, hrel, rfl⟩
        have hsz : v'.cells.size = k.size := by rw [← agg_size hv.cells, hc1]
        simp [Instr.storeAt, Instr.sureAddr, storeVar, size_of hT ht, hsz, hrun]
      · cases hs
    · cases hs
  · cases hs
end
end Go.Mir

