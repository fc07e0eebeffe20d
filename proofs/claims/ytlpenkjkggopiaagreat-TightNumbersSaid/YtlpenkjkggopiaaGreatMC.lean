/- The operations that only compute: one operand, parts of structs and arrays, indexes, cuts. By a session's own hand. -/
import Derived.Test.YtlpenkjkggopiaaGreatMB
set_option linter.unusedSimpArgs false
set_option linter.unusedVariables false
namespace Go.Mir

def aun (op : UnOp) (x : Value) : Option Value :=
  match op, x with
  | .neg, .int k n => some (.int k (k.wrap (0 - n)))
  | .xor, .int k n => aint .xor k (if k.signed then -1 else k.max) n
  | .not, .bool b => some (.bool !b)
  | _, _ => none

def aconv (d : TD) (d' : TD) (x : Value) : Option Value :=
  match d, d', x with
  | .int _, .int k, .int _ n => some (.int k (k.wrap n))
  | .string, .string, .string s => some (.string s)
  | .pointer _, .unsafeP, .pointer none => some (.pointer none)
  | .unsafeP, .pointer _, .pointer none => some (.pointer none)
  | _, _, _ => none

/-- a part of a struct or an array -/
def apart (k : TK) (cs : Array Value) (off : Nat) : Option Value :=
  if k.desc.agg then some (.agg (cs.extract off (off + k.size))) else cs[off]?

def afield (tab : Tab) (t : Nat) (x : Value) (f : Nat) : Option Value :=
  match tab t, x with
  | some ⟨.struct fs, _, _, _⟩, .agg cs => match fs[f]? with
    | some (off, ft) => match tab ft with
      | some k => apart k cs off
      | none => none
    | none => none
  | _, _ => none

def afieldAddr (tab : Tab) (t : Nat) (x : Value) (f : Nat) : Option Value :=
  match tab t, x with
  | some ⟨.struct fs, _, _, _⟩, .pointer (some ⟨n, o, none⟩) => match fs[f]? with
    | some (off, ft) => match tab ft with
      | some k => if k.size = 0 then none else some (.pointer (some ⟨n, o + off, none⟩))
      | none => none
    | none => none
  | _, _ => none

def aindexAddr (tab : Tab) (t : Nat) (x i : Value) : Option Value :=
  match tab t, x, i with
  | some ⟨.array len e, _, _, _⟩, .pointer (some ⟨n, o, none⟩), .int _ j => match tab e with
    | some k => if 0 ≤ j ∧ j < len then some (.pointer (some ⟨n, o + j.toNat * k.size, none⟩)) else none
    | none => none
  | some ⟨.slice e, _, _, _⟩, .slice (some ⟨n, o, some _⟩) len _, .int _ j => match tab e with
    | some k => if 0 ≤ j ∧ j < len then some (.pointer (some ⟨n, o + j.toNat * k.size, none⟩)) else none
    | none => none
  | _, _, _ => none

def aindex (tab : Tab) (t : Nat) (x i : Value) : Option Value :=
  match tab t, x, i with
  | some ⟨.array len e, _, _, _⟩, .agg cs, .int _ j => match tab e with
    | some k => if 0 ≤ j ∧ j < len then apart k cs (j.toNat * k.size) else none
    | none => none
  | some ⟨.string, _, _, _⟩, .string s, .int _ j => if 0 ≤ j then (match s[j.toNat]? with
    | some b => some (.int .u8 b.toNat)
    | none => none) else none
  | _, _, _ => none

def aextract (x : Value) (i : Nat) : Option Value :=
  match x with
  | .tuple vs => vs[i]?
  | _ => none

/-- a bound of a cut, if it is one -/
def abound (x : Option Value) (dflt : Nat) : Option Int :=
  match x with
  | none => some dflt
  | some (.int _ n) => some n
  | _ => none

/-- a cut of a text, or of a row -/
def aslice (tab : Tab) (t : Nat) (x : Value) (lo hi mx : Option Value) : Option Value :=
  match tab t, x with
  | some ⟨.string, _, _, _⟩, .string s => match mx, abound lo 0, abound hi s.size with
    | none, some l, some h => if 0 ≤ l ∧ l ≤ h ∧ h ≤ s.size then some (.string (s.extract l.toNat h.toNat)) else none
    | _, _, _ => none
  | some ⟨.slice e, _, _, _⟩, .slice a len cap => match tab e with
    | some k => match abound lo 0, abound hi len, abound mx cap with
      | some l, some h, some m =>
        if 0 ≤ l ∧ l ≤ h ∧ h ≤ m ∧ m ≤ cap ∧ (mx.isSome = true → hi.isSome = true) then
          match a with
          | none => some (.slice none 0 0)
          | some ⟨n, o, some sz⟩ => if sz = k.size then some (.slice (some ⟨n, o + l.toNat * sz, some sz⟩) (h - l).toNat (m - l).toNat) else none
          | _ => none
        else none
      | _, _, _ => none
    | none => none
  | _, _ => none

section
variable {P : Program} {tab : Tab} {r : Ren}

theorem aun_run {op : UnOp} {x x' v : Value} (h : aun op x = some v) (hx : VRel r x x') (w : World) :
    VRel r v v ∧ (Op.unary op x').run P w = .ok v w := by
  unfold aun at h
  split at h <;> cases hx <;> cases h <;> refine ⟨by constructor, ?_⟩ <;> simp [Op.unary, Op.intArith, Op.intBits]

theorem aconv_run (hT : TabOK P tab) {s d : Nat} {ks kd : TK} (hs : tab s = some ks) (hd : tab d = some kd) {x x' v : Value} (h : aconv ks.desc kd.desc x = some v)
    (hx : VRel r x x') (w : World) : VRel r v v ∧ (convert s d x').run P w = .ok v w := by
  obtain ⟨_, es, _, _, _, _, _, _, _, hu, hd1, _⟩ := hT s ks hs
  obtain ⟨_, ed, _, _, _, _, _, _, _, hu', hd1', _⟩ := hT d kd hd
  revert hd1 hd1' h
  generalize ks.desc = q
  generalize kd.desc = q'
  intro h hd1 hd1'
  unfold aconv at h
  split at h <;> cases hx <;> cases h <;> cases es <;> (try exact hd1.elim) <;> cases ed <;> (try exact hd1'.elim)
  · cases hd1'
    refine ⟨by constructor, ?_⟩
    simp [convert, run_underlying hu, run_underlying hu', Conv.intToInt]
  · refine ⟨by constructor, ?_⟩
    simp [convert, run_underlying hu, run_underlying hu']
  · refine ⟨by constructor, ?_⟩
    simp [convert, Conv.unsafePointer, run_underlying hu, run_underlying hu']
  · refine ⟨by constructor, ?_⟩
    simp [convert, Conv.unsafePointer, run_underlying hu, run_underlying hu']

theorem apart_run (hT : TabOK P tab) {t : Nat} {k : TK} (ht : tab t = some k) {cs cs' : Array Value} {off : Nat} {v : Value} (h : apart k cs off = some v)
    (hc : VRel r (.agg cs) (.agg cs')) : ∃ v', VRel r v v' ∧ ∀ w, (part t cs' off).run P w = .ok v' w := by
  obtain ⟨i, d, _, hi, hsz, _, _, _, _, hu, hd, _⟩ := hT t k ht
  cases hc with
  | agg hs hc =>
    unfold apart at h
    split at h
    · rename_i ha
      cases h
      refine ⟨_, .agg (cs' := cs'.extract off (off + k.size)) (by simp [hs]) (fun j h1 h2 => ?_), fun w => ?_⟩
      · simp only [Array.getElem_extract]
        simp at h1 h2
        exact hc _ _ _
      · simp [part, run_isAgg hu hd, ha, run_sizeOf hi, hsz]
    · rename_i ha
      obtain ⟨hlt, rfl⟩ := Array.getElem?_eq_some_iff.1 h
      refine ⟨cs'[off]'(by omega), hc _ _ _, fun w => ?_⟩
      have : cs'[off]? = some (cs'[off]'(by omega)) := by simp
      simp [part, run_isAgg hu hd, ha, this]

theorem struct_of (hT : TabOK P tab) {t : Nat} {fs : List (Nat × TypeId)} {a b : Nat} {c : List Value} (ht : tab t = some ⟨.struct fs, a, b, c⟩) :
    ∃ gs, P.underlying t = some (.struct gs) ∧ gs.toList.map (fun f => (f.offset, f.type)) = fs := by
  obtain ⟨i, d, _, _, _, _, _, _, _, hu, hd, _⟩ := hT t _ ht
  cases d <;> first | exact hd.elim | exact ⟨_, hu, hd⟩

theorem array_of (hT : TabOK P tab) {t n e a b : Nat} {c : List Value} (ht : tab t = some ⟨.array n e, a, b, c⟩) : P.underlying t = some (.array n e) := by
  obtain ⟨i, d, _, _, _, _, _, _, _, hu, hd, _⟩ := hT t _ ht
  cases d <;> first | exact hd.elim | (obtain ⟨rfl, rfl⟩ := hd; exact hu)
theorem slice_of (hT : TabOK P tab) {t e a b : Nat} {c : List Value} (ht : tab t = some ⟨.slice e, a, b, c⟩) : P.underlying t = some (.slice e) := by
  obtain ⟨i, d, _, _, _, _, _, _, _, hu, hd, _⟩ := hT t _ ht
  cases d <;> first | exact hd.elim | (obtain rfl := hd; exact hu)
theorem string_of (hT : TabOK P tab) {t a b : Nat} {c : List Value} (ht : tab t = some ⟨.string, a, b, c⟩) : P.underlying t = some .string := by
  obtain ⟨i, d, _, _, _, _, _, _, _, hu, hd, _⟩ := hT t _ ht
  cases d <;> first | exact hd.elim | exact hu
theorem map_of (hT : TabOK P tab) {t k e a b : Nat} {c : List Value} (ht : tab t = some ⟨.map k e, a, b, c⟩) : P.underlying t = some (.map k e) := by
  obtain ⟨i, d, _, _, _, _, _, _, _, hu, hd, _⟩ := hT t _ ht
  cases d <;> first | exact hd.elim | (obtain ⟨rfl, rfl⟩ := hd; exact hu)
theorem pointer_of (hT : TabOK P tab) {t e a b : Nat} {c : List Value} (ht : tab t = some ⟨.pointer e, a, b, c⟩) : P.underlying t = some (.pointer e) := by
  obtain ⟨i, d, _, _, _, _, _, _, _, hu, hd, _⟩ := hT t _ ht
  cases d <;> first | exact hd.elim | (obtain rfl := hd; exact hu)
theorem size_of (hT : TabOK P tab) {t : Nat} {k : TK} (ht : tab t = some k) (w : World) : (sizeOf t).run P w = .ok k.size w := by
  obtain ⟨i, d, _, hi, hs, _⟩ := hT t _ ht
  rw [run_sizeOf hi, hs]

theorem afield_run (hT : TabOK P tab) {t : Nat} {x x' v : Value} {f : Nat} (h : afield tab t x f = some v) (hx : VRel r x x') :
    ∃ v', VRel r v v' ∧ ∀ w, (Instr.field t x' f).run P w = .ok v' w := by
  unfold afield at h
  split at h
  · rename_i fs a b c cs ht
    split at h
    · rename_i off ft hf
      split at h
      · rename_i k hk
        obtain ⟨gs, hu, hg⟩ := struct_of hT ht
        subst hg
        have hf' : ∃ g, gs[f]? = some g ∧ g.offset = off ∧ g.type = ft := by
          rw [List.getElem?_map] at hf
          cases hq : gs.toList[f]? with
          | none => simp [hq] at hf
          | some g => simp [hq] at hf; exact ⟨g, by simpa using hq, hf⟩
        obtain ⟨g, hg, rfl, rfl⟩ := hf'
        cases hx with
        | agg hs hc =>
          obtain ⟨v', hv, hr⟩ := apart_run hT hk h (.agg hs hc)
          exact ⟨v', hv, fun w => by simp [Instr.field, run_underlying hu, hg, asAgg, hr]⟩
      · cases h
    · cases h
  · cases h

theorem afieldAddr_run (hT : TabOK P tab) {t : Nat} {x x' v : Value} {f : Nat} (h : afieldAddr tab t x f = some v) (hx : VRel r x x') :
    ∃ v', VRel r v v' ∧ ∀ w, (Instr.fieldAt t x' f).run P w = .ok v' w := by
  unfold afieldAddr at h
  split at h
  · rename_i fs a b c n o ht
    split at h
    · rename_i off ft hf
      split at h
      · rename_i k hk
        split at h
        · cases h
        · rename_i hz
          cases h
          obtain ⟨gs, hu, hg⟩ := struct_of hT ht
          subst hg
          have hf' : ∃ g, gs[f]? = some g ∧ g.offset = off ∧ g.type = ft := by
            rw [List.getElem?_map] at hf
            cases hq : gs.toList[f]? with
            | none => simp [hq] at hf
            | some g => simp [hq] at hf; exact ⟨g, by simpa using hq, hf⟩
          obtain ⟨g, hg, rfl, rfl⟩ := hf'
          cases hx with
          | ptr hn =>
            rename_i l
            refine ⟨_, .ptr hn, fun w => ?_⟩
            have : (Addr.mk l.b (l.d + o) none).add g.offset = ⟨l.b, l.d + (o + g.offset), none⟩ := by
              unfold Addr.add; split
              · rename_i h0; simp [h0]
              · simp [Nat.add_assoc]
            simp [Instr.fieldAt, run_underlying hu, hg, Instr.sureAddr, fieldPlace, size_of hT hk, hz, this]
      · cases h
    · cases h
  · cases h

theorem addr_add (b o n : Nat) : (Addr.mk b o none).add n = ⟨b, o + n, none⟩ := by
  unfold Addr.add; split
  · rename_i h0; simp [h0]
  · rfl

theorem aindexAddr_run (hT : TabOK P tab) {t : Nat} {x i x' i' v : Value} (h : aindexAddr tab t x i = some v) (hx : VRel r x x') (hi : VRel r i i') :
    ∃ v', VRel r v v' ∧ ∀ w, (Instr.indexAt t x' i').run P w = .ok v' w := by
  unfold aindexAddr at h
  split at h
  · rename_i len e a b c n o k j ht
    split at h
    · rename_i q hq
      split at h
      · rename_i hj
        cases h; cases hi; cases hx with
        | ptr hn =>
          rename_i l
          refine ⟨_, .ptr hn, fun w => ?_⟩
          simp [Instr.indexAt, asIntOf, run_underlying (array_of hT ht), Instr.sureAddr, hj, size_of hT hq, addr_add, Nat.add_assoc]
      · cases h
    · cases h
  · rename_i e a b c n o s len cap k j ht
    split at h
    · rename_i q hq
      split at h
      · rename_i hj
        cases h; cases hi; cases hx with
        | slice hn =>
          rename_i l
          refine ⟨_, .ptr hn, fun w => ?_⟩
          simp [Instr.indexAt, asIntOf, run_underlying (slice_of hT ht), hj, size_of hT hq, addr_add, Nat.add_assoc]
        | sliceEnd hn => exfalso; obtain ⟨h1, h2⟩ := hj; omega
      · cases h
    · cases h
  · cases h

theorem aindex_run (hT : TabOK P tab) {t : Nat} {x i x' i' v : Value} (h : aindex tab t x i = some v) (hx : VRel r x x') (hi : VRel r i i') :
    ∃ v', VRel r v v' ∧ ∀ w, (Instr.index t x' i').run P w = .ok v' w := by
  unfold aindex at h
  split at h
  · rename_i len e a b c cs k j ht
    split at h
    · rename_i q hq
      split at h
      · rename_i hj
        cases hi; cases hx with
        | agg hs hc =>
          obtain ⟨v', hv, hr⟩ := apart_run hT hq h (.agg hs hc)
          refine ⟨v', hv, fun w => ?_⟩
          simp [Instr.index, asIntOf, run_underlying (array_of hT ht), hj, size_of hT hq, hr]
      · cases h
    · cases h
  · rename_i a b c s k j ht
    split at h
    · rename_i hj
      split at h
      · rename_i u hu
        cases h; cases hi; cases hx
        refine ⟨_, .int _ _, fun w => ?_⟩
        simp [Instr.index, asIntOf, run_underlying (string_of hT ht), hj, hu]
      · cases h
    · cases h
  · cases h

theorem aextract_run {x x' v : Value} {i : Nat} (h : aextract x i = some v) (hx : VRel r x x') :
    ∃ v', VRel r v v' ∧ ∀ w, (Instr.extract x' i).run P w = .ok v' w := by
  unfold aextract at h
  split at h
  · cases hx with
    | tuple hs hc =>
      obtain ⟨hlt, rfl⟩ := Array.getElem?_eq_some_iff.1 h
      rename_i cs cs' 
      refine ⟨cs'[i]'(by omega), hc _ _ _, fun w => ?_⟩
      have : cs'[i]? = some (cs'[i]'(by omega)) := by simp
      simp [Instr.extract, this]
  · cases h

inductive ORel (r : Ren) : Option Value → Option Value → Prop
  | none : ORel r none none
  | some {v v' : Value} (h : VRel r v v') : ORel r (some v) (some v')

theorem sliceBound_run {k : IntKind} {i : Int} {y : Nat} {c : BoundsCode} (h : 0 ≤ i ∧ i ≤ y) (w : World) : (Instr.sliceBound (.int k i) y c).run P w = .ok i.toNat w := by
  simp [Instr.sliceBound, asIntOf, h]

theorem abound_int {x x' : Option Value} {d : Nat} {n : Int} (h : abound x d = some n) (hx : ORel r x x') :
    (x = none ∧ x' = none ∧ n = d) ∨ ∃ k, x = some (.int k n) ∧ x' = some (.int k n) := by
  unfold abound at h
  split at h
  · cases hx; cases h; exact .inl ⟨rfl, rfl, rfl⟩
  · cases hx; rename_i hv; cases hv; cases h; exact .inr ⟨_, rfl, rfl⟩
  · cases h

theorem sliceBounds_run {b : Bool} {len cap cap' : Nat} {lo hi mx lo' hi' mx' : Option Value} {l h m : Int} (hl : abound lo 0 = some l) (hh : abound hi len = some h) (hm : abound mx cap = some m)
    (hlo : ORel r lo lo') (hhi : ORel r hi hi') (hmx : ORel r mx mx') (h0 : 0 ≤ l) (h1 : l ≤ h) (h2 : h ≤ m) (h3 : m ≤ cap) (h4 : mx.isSome = true → hi.isSome = true) (hc : cap ≤ cap') :
    ∃ m' : Nat, (mx = none → m' = cap') ∧ (mx.isSome = true → (m' : Int) = m) ∧ m ≤ m' ∧ m' ≤ cap' ∧ ∀ w, (Instr.sliceBounds b len cap' lo' hi' mx').run P w = .ok (l.toNat, h.toNat, m') w := by
  rcases abound_int hm hmx with ⟨rfl, rfl, em⟩ | ⟨k, rfl, rfl⟩
  · refine ⟨cap', fun _ => rfl, fun h => by simp at h, by omega, Nat.le_refl _, fun w => ?_⟩
    rcases abound_int hh hhi with ⟨rfl, rfl, eh⟩ | ⟨k, rfl, rfl⟩ <;> rcases abound_int hl hlo with ⟨rfl, rfl, el⟩ | ⟨k, rfl, rfl⟩
    · simp [Instr.sliceBounds]; omega
    · have q : 0 ≤ l ∧ l ≤ (len : Int) := by omega
      simp [Instr.sliceBounds, sliceBound_run q]; omega
    · have q : 0 ≤ h ∧ h ≤ (cap' : Int) := by omega
      simp [Instr.sliceBounds, sliceBound_run q]; omega
    · have q : 0 ≤ h ∧ h ≤ (cap' : Int) := by omega
      have q' : 0 ≤ l ∧ l ≤ (h.toNat : Int) := by omega
      simp [Instr.sliceBounds, sliceBound_run q, sliceBound_run q']
  · obtain ⟨hv, hv'⟩ : (∃ k', hi = some (.int k' h)) ∧ True := by
      rcases abound_int hh hhi with ⟨rfl, _, _⟩ | ⟨k, rfl, _⟩
      · simp at h4
      · exact ⟨⟨_, rfl⟩, trivial⟩
    obtain ⟨k', rfl⟩ := hv
    have hq : hi' = some (.int k' h) := by cases hhi; rename_i q; cases q; rfl
    subst hq
    refine ⟨m.toNat, fun h => by simp at h, fun _ => by omega, by omega, by omega, fun w => ?_⟩
    have q : 0 ≤ m ∧ m ≤ (cap' : Int) := by omega
    have q2 : 0 ≤ h ∧ h ≤ (m.toNat : Int) := by omega
    rcases abound_int hl hlo with ⟨rfl, rfl, el⟩ | ⟨k, rfl, rfl⟩
    · simp [Instr.sliceBounds, sliceBound_run q, sliceBound_run q2]; omega
    · have q' : 0 ≤ l ∧ l ≤ (h.toNat : Int) := by omega
      simp [Instr.sliceBounds, sliceBound_run q, sliceBound_run q2, sliceBound_run q']

theorem sliceAt_slice {t : Nat} {d : TypeDesc} (hu : P.underlying t = some d) (hd : ∀ n e, d ≠ .array n e) (x : Value) (lo hi mx : Option Value) (w : World) :
    (Instr.sliceAt t x lo hi mx).run P w = (Instr.slice t x lo hi mx).run P w := by
  unfold Instr.sliceAt
  rw [Sem.run_bind, run_underlying hu, Result.andThen_ok]
  cases d <;> first | rfl | exact absurd rfl (hd _ _)

theorem aslice_run (hT : TabOK P tab) {t : Nat} {x x' v : Value} {lo hi mx lo' hi' mx' : Option Value} (h : aslice tab t x lo hi mx = some v) (hx : VRel r x x')
    (hlo : ORel r lo lo') (hhi : ORel r hi hi') (hmx : ORel r mx mx') : ∃ v', VRel r v v' ∧ ∀ w, (Instr.sliceAt t x' lo' hi' mx').run P w = .ok v' w := by
  unfold aslice at h
  split at h
  · rename_i a b c s ht
    split at h
    · rename_i l hh hl hhh
      split at h
      · rename_i hb
        cases h; cases hx; cases hmx
        have hu := string_of hT ht
        obtain ⟨m', hm1, _, _, _, hrun⟩ := sliceBounds_run (P := P) (b := false) (cap := s.size) (cap' := s.size) (mx := none) hl hhh (m := s.size) rfl hlo hhi .none (by omega) (by omega) (by omega) (by omega) (by simp) (Nat.le_refl _)
        refine ⟨_, .string _, fun w => ?_⟩
        rw [sliceAt_slice hu (by simp)]
        simp [Instr.slice, run_underlying hu, hrun]
      · cases h
    · cases h
  · rename_i e a b c q len cap ht
    split at h
    · rename_i k hk
      split at h
      · rename_i l hh m hl hhh hm
        split at h
        · rename_i hb
          obtain ⟨hb1, hb2, hb3, hb4, hb5⟩ := hb
          have hu := slice_of hT ht
          split at h
          · cases h; cases hx
            obtain ⟨m', hm1, hm2, hm3, hm4, hrun⟩ := sliceBounds_run (P := P) (b := true) (cap' := 0) hl hhh hm hlo hhi hmx hb1 hb2 hb3 hb4 hb5 (Nat.le_refl _)
            refine ⟨_, .sliceNil, fun w => ?_⟩
            rw [sliceAt_slice hu (by simp)]
            have e1 : m' = l.toNat := by omega
            have e2 : hh.toNat - l.toNat = 0 := by omega
            have e3 : l.toNat = 0 := by omega
            simp [Instr.slice, run_underlying hu, hrun, size_of hT hk, e1, e2]
          · rename_i n o sz
            split at h
            · rename_i hsz
              cases h; cases hx with
              | slice hn hz hlc hc hkn hs hxx =>
                rename_i cap' lc
                obtain ⟨m', hm1, hm2, hm3, hm4, hrun⟩ := sliceBounds_run (P := P) (b := true) (cap' := cap') hl hhh hm hlo hhi hmx hb1 hb2 hb3 hb4 hb5 hc
                by_cases he : m' = l.toNat
                · have e1 : (hh - l).toNat = 0 := by omega
                  have e2 : (m - l).toNat = 0 := by omega
                  rw [e1, e2]
                  refine ⟨_, .sliceEnd (x := lc.d + o) hn, fun w => ?_⟩
                  rw [sliceAt_slice hu (by simp)]
                  have e3 : hh.toNat - l.toNat = 0 := by omega
                  simp [Instr.slice, run_underlying hu, hrun, size_of hT hk, he, e3]
                · have g1 : (hh - l).toNat = hh.toNat - l.toNat := by omega
                  have g2 : o + l.toNat * sz + (m - l).toNat * sz = o + m.toNat * sz := by
                    rw [Nat.add_assoc, ← Nat.add_mul]; congr 2; omega
                  have g3 : lc.d + (o + l.toNat * sz) + (m' - l.toNat) * sz = lc.d + o + m' * sz := by
                    rw [Nat.add_assoc, Nat.add_assoc, Nat.add_assoc, ← Nat.add_mul]; congr 3; omega
                  have g4 : m.toNat * sz ≤ cap * sz := Nat.mul_le_mul_right _ (by omega)
                  have g5 : m' * sz ≤ cap' * sz := Nat.mul_le_mul_right _ hm4
                  refine ⟨_, .slice (cap' := m' - l.toNat) hn hz (by omega) (by omega) (by rw [g2]; omega) (by rw [g3]; omega) (fun hlt => ?_), fun w => ?_⟩
                  · rw [g2] at hlt
                    cases mx with
                    | none =>
                      have em : m = cap := by simp [abound] at hm; omega
                      have := hm1 rfl
                      have := hxx (by rw [em] at hlt; simpa using hlt)
                      omega
                    | some mv => have := hm2 rfl; omega
                  · rw [sliceAt_slice hu (by simp)]
                    simp [Instr.slice, run_underlying hu, hrun, size_of hT hk, he, addr_add, hsz, g1, Nat.add_assoc]
              | sliceEnd hn =>
                rename_i x0 lc
                obtain ⟨m', hm1, hm2, hm3, hm4, hrun⟩ := sliceBounds_run (P := P) (b := true) (cap' := 0) hl hhh hm hlo hhi hmx hb1 hb2 hb3 hb4 hb5 (Nat.le_refl _)
                have e1 : (hh - l).toNat = 0 := by omega
                have e2 : (m - l).toNat = 0 := by omega
                rw [e1, e2]
                refine ⟨_, .sliceEnd (x := x0) hn, fun w => ?_⟩
                rw [sliceAt_slice hu (by simp)]
                have e0 : m' = l.toNat := by omega
                have e3 : hh.toNat - l.toNat = 0 := by omega
                simp [Instr.slice, run_underlying hu, hrun, size_of hT hk, e0, e3]
            · cases h
          · cases h
        · cases h
      · cases h
    · cases h
  · cases h
end
end Go.Mir

