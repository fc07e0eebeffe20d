/- Operations that read memory. By a session's own hand. -/
import Derived.Test.YtlpenkjkggopiaaGreatMF
import Derived.Lib.Builder
set_option linter.unusedSimpArgs false
set_option linter.unusedVariables false
namespace Go.Mir

def aload (tab : Tab) (t : Nat) (o : Nat) : Blk → Option Value
  | .cells c _ _ _ => match tab t with
    | some k => if k.desc.agg then (if o + k.size ≤ c.length then some (.agg ((c.drop o).take k.size).toArray) else none) else c[o]?
    | none => none
  | _ => none

/-- bytes out of cells -/
def bytesOf : List Value → Option (List UInt8)
  | [] => some []
  | .int .u8 n :: l => match bytesOf l with
    | some bs => some (UInt8.ofNat n.toNat :: bs)
    | none => none
  | _ :: _ => none

def abytes (o n : Nat) : Blk → Option Value
  | .cells c _ _ _ => if o + n ≤ c.length then (match bytesOf ((c.drop o).take n) with
    | some bs => some (.string ⟨bs.toArray⟩)
    | none => none) else none
  | _ => none

def sameKey : Value → Value → Bool
  | .int k a, .int k' b => sameKind k k' && a == b
  | .string a, .string b => a == b
  | _, _ => false

def plainKey (d : TD) : Value → Bool
  | .int _ _ => match d with | .int _ => true | _ => false
  | .string _ => match d with | .string => true | _ => false
  | _ => false

def afind (k : Value) : List (Value × Value) → Option Value
  | [] => none
  | p :: l => if sameKey k p.1 then some p.2 else afind k l

/-- are all keys such as may be looked up? -/
def keysOK (d : TD) (k : Value) (es : List (Value × Value)) : Bool :=
  plainKey d k && es.all fun p => plainKey d p.1 && (match k, p.1 with | .int a _, .int b _ => sameKind a b | _, _ => true)

def alookup (tab : Tab) (t : Nat) (k : Value) (ok : Bool) : Blk → Option Value
  | .amap es => match tab t with
    | some ⟨.map kt et, _, _, _⟩ => match tab kt, tab et with
      | some kk, some ke => if keysOK kk.desc k es && !ke.desc.agg then
          (match afind k es, ke.zero with
          | some v, _ => some (if ok then .tuple #[v, .bool true] else v)
          | none, [z] => some (if ok then .tuple #[z, .bool false] else z)
          | none, _ => none)
        else none
      | _, _ => none
    | _ => none
  | _ => none

def amaplen (tab : Tab) (t : Nat) : Blk → Option Value
  | .amap es => match tab t with
    | some ⟨.map _ _, _, _, _⟩ => some (.int .i64 es.length)
    | _ => none
  | _ => none

/-- a pointer, handed on as an unsafe one -/
def atou (n off : Nat) : Blk → Option Value
  | .cells c _ _ _ => if off < c.length then some (.pointer (some ⟨n, off, none⟩)) else none
  | _ => none
/-- an unsafe pointer to all of a row, taken back -/
def afromu (n e size : Nat) : Blk → Option Value
  | .cells c e' false _ => if e' = e ∧ c.length = size then some (.pointer (some ⟨n, 0, none⟩)) else none
  | _ => none

/-- what an operation that reads one block reads, and what it makes of it -/
def ard (tab : Tab) (ρ : Env) (o : Oper) : Option (Nat × (Blk → Option Value)) :=
  match o.op with
  | .load t x => match ev ρ x with
    | some (.pointer (some ⟨n, off, none⟩)) => some (n, aload tab t off)
    | _ => none
  | .convert s d x => match tab s, tab d, ev ρ x with
    | some ⟨.slice e, _, _, _⟩, some ⟨.string, _, _, _⟩, some (.slice (some ⟨n, off, some sz⟩) len _) => match tab e with
      | some ⟨.int .u8, _, _, _⟩ => if sz = 1 then some (n, abytes off len) else none
      | _ => none
    | some ⟨.pointer e, _, _, _⟩, some ⟨.unsafeP, _, _, _⟩, some (.pointer (some ⟨n, off, none⟩)) => match tab e with
      | some k => if k.size = 0 then none else some (n, atou n off)
      | none => none
    | some ⟨.unsafeP, _, _, _⟩, some ⟨.pointer e, _, _, _⟩, some (.pointer (some ⟨n, 0, none⟩)) => match tab e with
      | some k => if k.size = 0 then none else some (n, afromu n e k.size)
      | none => none
    | _, _, _ => none
  | .lookup t x k ok => match ev ρ x, ev ρ k with
    | some (.map (some n)), some k => some (n, alookup tab t k ok)
    | _, _ => none
  | .call c => match c.callee, c.argTypes.toList, evs ρ c.args.toList with
    | .builtin .len, t :: _, some [.map (some n)] => some (n, amaplen tab t)
    | _, _, _ => none
  | _ => none

section
variable {P : Program} {tab : Tab} {r : Ren} {ρ : Env} {a : Act}

theorem run_isAgg_tab (hT : TabOK P tab) {t : Nat} {k : TK} (ht : tab t = some k) (w : World) : (isAgg t).run P w = .ok k.desc.agg w := by
  obtain ⟨i, d, _, _, _, _, _, _, _, hu, hd, _⟩ := hT t k ht
  exact run_isAgg hu hd w

theorem aload_run (hT : TabOK P tab) {t o : Nat} {k : Blk} {v : Value} (h : aload tab t o k = some v) {l : Loc} {w : World} (hb : BlkRel r l k w.heap[l.b]?) :
    ∃ v', VRel r v v' ∧ (loadVar t ⟨l.b, l.d + o, none⟩).run P w = .ok v' w := by
  unfold aload at h
  split at h
  · rename_i c e opn wr
    split at h
    · rename_i tk ht
      split at h
      · rename_i hagg
        split at h
        · rename_i hlen
          cases h
          obtain ⟨vs', hr, hl, hc⟩ := cells_read hb o tk.size hlen
          refine ⟨.agg vs'.toArray, hr.agg, ?_⟩
          simp [loadVar, run_isAgg_tab hT ht, hagg, size_of hT ht, run_loadCells hl.symm hc]
        · cases h
      · rename_i hagg
        obtain ⟨v', hv, hc⟩ := cell_read hb h
        refine ⟨v', hv, ?_⟩
        simp [loadVar, run_isAgg_tab hT ht, hagg, hc]
    · cases h
  · cases h

theorem bytesOf_run {vs vs' : List Value} (hr : LRel r vs vs') (w : World) : ∀ {bs : List UInt8} (acc : ByteArray), bytesOf vs = some bs →
    (forIn vs' acc (fun c s => (match c with
      | .int .u8 n => pure (ForInStep.yield (s.push (UInt8.ofNat n.toNat)))
      | _ => do
        let _ ← (stuck "bytesToString: byte expected" : Sem PUnit)
        pure (ForInStep.yield s) : Sem (ForInStep ByteArray)))).run P w = .ok ⟨acc.data ++ bs.toArray⟩ w := by
  induction hr with
  | nil => intro bs acc h; cases h; simp
  | cons hv _ ih =>
    rename_i v v' l l' _
    intro bs acc h
    unfold bytesOf at h
    split at h
    · rename_i heq; cases heq
    · rename_i n q heq
      cases heq
      cases hv
      split at h
      · rename_i bs' hbs
        cases h
        simp only [List.forIn_cons, Sem.run_bind, Sem.run_pure, Result.andThen_ok]
        rw [ih (acc.push (UInt8.ofNat n.toNat)) hbs]
        congr 1
        simp [ByteArray.push]
      · cases h
    · cases h

theorem abytes_run {o n : Nat} {k : Blk} {v : Value} (h : abytes o n k = some v) {l : Loc} {w : World} (hb : BlkRel r l k w.heap[l.b]?) (cap : Nat) :
    VRel r v v ∧ (Conv.bytesToString (.slice (some ⟨l.b, l.d + o, none⟩) n cap)).run P w = .ok v w := by
  unfold abytes at h
  split at h
  · split at h
    · rename_i hlen
      split at h
      · rename_i bs hbs
        cases h
        obtain ⟨vs', hr, hl, hc⟩ := cells_read hb o n hlen
        refine ⟨.string _, ?_⟩
        have := bytesOf_run (P := P) hr w ByteArray.empty hbs
        simp only [Conv.bytesToString, Sem.run_bind, run_loadCells hl.symm hc, Result.andThen_ok, List.forIn_toArray]
        refine (congrArg (fun q : Result ByteArray => q.andThen fun a w' => Sem.run P (pure (Value.string a)) w') this).trans ?_
        simp
      · cases h
    · cases h
  · cases h

theorem abytes_some {o n : Nat} {k : Blk} {v : Value} (h : abytes o n k = some v) : ∃ s, v = .string s := by
  unfold abytes at h
  split at h
  · split at h
    · split at h
      · cases h; exact ⟨_, rfl⟩
      · cases h
    · cases h
  · cases h

theorem run_convert_bytes (hT : TabOK P tab) {s d e a1 b1 a2 b2 a3 b3 : Nat} {c1 c2 c3 : List Value} (hs : tab s = some ⟨.slice e, a1, b1, c1⟩) (hd : tab d = some ⟨.string, a2, b2, c2⟩)
    (he : tab e = some ⟨.int .u8, a3, b3, c3⟩) (x : Value) (hx : ∃ a n c, x = .slice a n c) (w : World) : (convert s d x).run P w = (Conv.bytesToString x).run P w := by
  obtain ⟨xa, xn, xc, rfl⟩ := hx
  obtain ⟨_, de, _, _, _, _, _, _, _, hue, hde, _⟩ := hT e _ he
  have hue' : P.underlying e = some (.int .u8) := by
    cases de <;> first | exact hde.elim | (cases hde; exact hue)
  unfold convert
  rw [Sem.run_bind, run_underlying (slice_of hT hs), Result.andThen_ok, Sem.run_bind, run_underlying (string_of hT hd), Result.andThen_ok]
  simp only [Sem.run_bind, run_underlying hue', Result.andThen_ok]

theorem findNow_run {d : TypeDesc} {td : TD} (hd : TDOK d td) {k : Value} : ∀ {es : List (Value × Value)} {es' : List MapEntry} (i : Nat), keysOK td k es = true →
    es.length = es'.length → (∀ (i : Nat) (p : Value × Value), es[i]? = some p → ∃ e, es'[i]? = some e ∧ e.key = p.1 ∧ VRel r p.2 e.val) →
    ∃ q : Option (Nat × Value), Instr.findNow d k es' i = some q ∧ ((afind k es = none ∧ q = none) ∨ ∃ v j v', afind k es = some v ∧ q = some (j, v') ∧ VRel r v v') := by
  intro es
  induction es with
  | nil =>
    intro es' i _ hl _
    cases es' with
    | nil => exact ⟨none, rfl, .inl ⟨rfl, rfl⟩⟩
    | cons x l => simp at hl
  | cons p es ih =>
    intro es' i hk hl hx
    cases es' with
    | nil => simp at hl
    | cons e es' =>
      obtain ⟨e', he', hkey, hv⟩ := hx 0 p rfl
      simp at he'
      subst he'
      simp only [keysOK, List.all_cons, Bool.and_eq_true] at hk
      obtain ⟨hk0, ⟨hk1, hk2⟩, hk3⟩ := hk
      have hs : Instr.sameNow d k e.key = some (sameKey k p.1) := by
        rw [hkey]
        obtain ⟨pk, pv⟩ := p
        simp only at hk1 hk2 ⊢
        cases k <;> simp only [plainKey, Bool.false_eq_true] at hk0
        · cases td <;> simp only [Bool.false_eq_true] at hk0
          cases pk <;> simp only [plainKey, Bool.false_eq_true] at hk1
          cases d <;> first | exact hd.elim | skip
          rename_i ka a kb b _
          obtain rfl := sameKind_eq hk2
          simp [Instr.sameNow, sameKey, hk2]
        · cases td <;> simp only [Bool.false_eq_true] at hk0
          cases pk <;> simp only [plainKey, Bool.false_eq_true] at hk1
          cases d <;> first | exact hd.elim | skip
          simp [Instr.sameNow, sameKey]
      simp only [Instr.findNow, hs, afind]
      cases hq : sameKey k p.1 with
      | true => exact ⟨_, rfl, .inr ⟨_, _, _, rfl, rfl, hv⟩⟩
      | false =>
        have hk' : keysOK td k es = true := by simp only [keysOK, Bool.and_eq_true]; exact ⟨hk0, hk3⟩
        obtain ⟨q, h1, h2⟩ := ih (i + 1) hk' (by simpa using hl) (fun j p' hj => by
          obtain ⟨e'', g1, g2⟩ := hx (j + 1) p' (by simpa using hj)
          exact ⟨e'', by simpa using g1, g2⟩)
        exact ⟨q, h1, h2⟩

theorem checkKey_run {t : Nat} {d : TypeDesc} {td : TD} (hu : P.underlying t = some d) (hd : TDOK d td) {k : Value} (hk : plainKey td k = true) (em : Bool) (w : World) :
    (Instr.checkKey em 10000 t k).run P w = .ok () w := by
  have : ∀ n, (Instr.checkKey em (n + 1) t k).run P w = .ok () w := by
    intro n
    simp only [Instr.checkKey, Sem.run_bind, run_underlying hu, Result.andThen_ok]
    cases k <;> simp only [plainKey, Bool.false_eq_true] at hk <;> cases td <;> simp only [Bool.false_eq_true] at hk <;> cases d <;> first | exact hd.elim | rfl
  exact this 9999

theorem run_getObj {w : World} {b : Nat} {es : Array MapEntry} {c : Nat} (h : w.heap[b]? = some (.map es c)) : (getObj b).run P w = .ok (.map es c) w := by
  simp [getObj, Sem.run, h]

theorem alookup_run (hT : TabOK P tab) {t : Nat} {k : Value} {ok : Bool} {m : Blk} {v : Value} (h : alookup tab t k ok m = some v) {l : Loc} {w : World} (hb : BlkRel r l m w.heap[l.b]?) :
    ∃ v', VRel r v v' ∧ (Instr.lookup t (.map (some l.b)) k ok).run P w = .ok v' w := by
  unfold alookup at h
  split at h
  · rename_i es
    split at h
    · rename_i kt et a b c ht
      split at h
      · rename_i kk ke hkk hke
        split at h
        · rename_i hc
          simp only [Bool.and_eq_true, Bool.not_eq_true'] at hc
          obtain ⟨hc, hna⟩ := hc
          generalize hw : w.heap[l.b]? = ob at hb
          cases ob with
          | none => exact hb.elim
          | some ob =>
            cases ob <;> first | exact hb.elim | skip
            rename_i es' clock
            obtain ⟨h1, h2⟩ := hb
            obtain ⟨_, dk, _, _, _, _, _, _, _, huk, hdk, _⟩ := hT kt kk hkk
            have hpl : plainKey kk.desc k = true := by simp only [keysOK, Bool.and_eq_true] at hc; exact hc.1
            obtain ⟨q, hq, hor⟩ := findNow_run (r := r) (es' := es'.toList) hdk 0 hc (by simpa using h1) (fun i p hp => by
              obtain ⟨e, he, hr⟩ := h2 i p hp
              exact ⟨e, by simpa using he, hr⟩)
            have hfk : (Instr.findKey kt k es'.toList).run P w = .ok q w := by
              simp [Instr.findKey, run_underlying huk, hq]
            have hck := checkKey_run (P := P) huk hdk hpl es'.isEmpty w
            have pair : ∀ {u u' : Value} {t : Bool}, VRel r u u' → VRel r (if ok then .tuple #[u, .bool t] else u) (if ok then .tuple #[u', .bool t] else u') := by
              intro u u' t hu
              split
              · exact LRel.tuple (l := [u, .bool t]) (l' := [u', .bool t]) (.cons hu (.cons (.bool t) .nil))
              · exact hu
            rcases hor with ⟨hn, rfl⟩ | ⟨x, j, x', hs, rfl, hx⟩
            · rw [hn] at h
              split at h
              · rename_i heq; cases heq
              · rename_i z _ heqz
                cases h
                obtain ⟨hz, hzr⟩ := zero_one (r := r) hT hke hna heqz
                refine ⟨_, pair hzr, ?_⟩
                unfold Instr.lookup
                simp only [Sem.run_bind, run_underlying (map_of hT ht), Result.andThen_ok, run_getObj hw, Sem.run_pure, hck, hfk, hz]
              · cases h
            · rw [hs] at h
              cases h
              refine ⟨_, pair hx, ?_⟩
              unfold Instr.lookup
              simp only [Sem.run_bind, run_underlying (map_of hT ht), Result.andThen_ok, run_getObj hw, Sem.run_pure, hck, hfk]
        · cases h
      · cases h
    · cases h
  · cases h

theorem amaplen_run (hT : TabOK P tab) {t : Nat} {m : Blk} {v : Value} (h : amaplen tab t m = some v) {l : Loc} {w : World} (hb : BlkRel r l m w.heap[l.b]?) (t' : TypeId) {ts : Array TypeId} (hts : ts[0]? = some t) :
    VRel r v v ∧ (Builtin.len_ ts t' #[.map (some l.b)]).run P w = .ok v w := by
  unfold amaplen at h
  split at h
  · split at h
    · rename_i es kt et a b c ht
      cases h
      generalize hw : w.heap[l.b]? = ob at hb
      cases ob with
      | none => exact hb.elim
      | some ob =>
        cases ob <;> first | exact hb.elim | skip
        rename_i es' clock
        obtain ⟨h1, _⟩ := hb
        exact ⟨.int _ _, by simp [Builtin.len_, hts, run_underlying (map_of hT ht), run_getObj hw, goInt, h1]⟩
    · cases h
  · cases h

/-- an operation that reads one block -/
theorem unsafe_of (hT : TabOK P tab) {t a b : Nat} {c : List Value} (ht : tab t = some ⟨.unsafeP, a, b, c⟩) : P.underlying t = some .unsafePointer := by
  obtain ⟨i, d, _, _, _, _, _, _, _, hu, hd, _⟩ := hT t _ ht
  cases d <;> first | exact hd.elim | exact hu
theorem shape_of {r : Ren} {l : Loc} {c : List Value} {e : TypeId} {opn wr : Bool} {w : World} (hb : BlkRel r l (.cells c e opn wr) w.heap[l.b]?) :
    ∃ n : Nat, w.shape? l.b = some (e, n) ∧ c.length = l.known ∧ l.d + c.length ≤ n ∧ (opn = false → l.d = 0 ∧ n = c.length) := by
  generalize hw : w.heap[l.b]? = ob at hb
  cases ob with
  | none => exact hb.elim
  | some ob =>
    cases ob <;> first | exact hb.elim | skip
    rename_i c' e' fz
    obtain ⟨h1, h2, h3, h4, h5, _⟩ := hb
    refine ⟨c'.size, by simp [World.shape?, hw, h1], h2, by omega, fun ho => ?_⟩
    obtain ⟨h6, h7, h8⟩ := h5 ho
    exact ⟨h6, by omega⟩
theorem cellsOf_eq {t : TypeId} {i : TypeInfo} (h : P.info? t = some i) : P.cellsOf t = i.size := by
  show ((P.info? t).map (·.size)).getD 0 = _
  rw [h]; rfl
theorem lies_self {u : TypeId} (hz : P.cellsOf u ≠ 0) : liesAt P P.depth u 1 0 u 1 = true := by
  have hd : P.depth = (2 * (P.types.size + Made.depth) + 1) + 1 := rfl
  rw [hd, liesAt]
  have : rowAt P (fun x => sameLayout P P.depth x u) P.depth u 1 0 1 = true := by
    rw [hd, rowAt]
    simp [hz, sameLayout]
  rw [this]; rfl

theorem ard_run (hT : TabOK P tab) (he : ERel r ρ a.tmps) {o : Oper} {n : Nat} {f : Blk → Option Value} (h : ard tab ρ o = some (n, f)) {prot : Prot} {hp : Heap} {w : World}
    (hh : HRel prot r hp w) {k : Blk} (hk : hp.get n = some k) {v : Value} (hv : f k = some v) : ∃ v', VRel r v v' ∧ (execOp a.eval o).run P w = .ok (.value v') w := by
  have hx : ∃ l, r n = some l := by
    cases hr : r n with
    | none => have := (hh.dom n).1 hr; rw [this] at hk; cases hk
    | some l => exact ⟨l, rfl⟩
  obtain ⟨l, hl⟩ := hx
  have hb := hh.blk n l k hl hk
  unfold ard at h
  split at h <;> rename_i ho
  · split at h
    · rename_i m off hx
      cases h
      have hr := ev_rel he hx
      generalize hq : a.eval _ = x' at hr
      cases hr with
      | ptr hn =>
        rw [hl] at hn; cases hn
        obtain ⟨v', hv', hrun⟩ := aload_run hT hv hb
        exact ⟨v', hv', by simp [execOp, ho, hq, Instr.loadAt, Instr.sureAddr, hrun]⟩
    · cases h
  · split at h
    · rename_i e a1 b1 c1 a2 b2 c2 m off sz len cap hs hd hx
      split at h
      · rename_i a3 b3 c3 he'
        split at h
        · rename_i hsz
          cases h
          have hr := ev_rel he hx
          generalize hq : a.eval _ = x' at hr
          cases hr with
          | slice hn =>
            rw [hl] at hn; cases hn
            obtain ⟨hv', hrun⟩ := abytes_run (P := P) hv hb _
            exact ⟨v, hv', by simp only [execOp, ho, Sem.run_bind]; rw [hq, run_convert_bytes hT hs hd he' _ ⟨_, _, _, rfl⟩, hrun]; rfl⟩
          | sliceEnd hn =>
            obtain ⟨s, rfl⟩ := abytes_some hv
            refine ⟨_, .string s, ?_⟩
            simp only [execOp, ho, Sem.run_bind]
            rw [hq, run_convert_bytes hT hs hd he' _ ⟨_, _, _, rfl⟩]
            unfold abytes at hv
            split at hv
            · split at hv
              · simp [bytesOf] at hv
                subst hv
                simp [Conv.bytesToString, loadCells, loadCellsFrom]
                rfl
              · cases hv
            · cases hv
        · cases h
      · cases h
    · rename_i e a1 b1 c1 a2 b2 c2 m off hs hd hx
      split at h
      · rename_i ke hke
        split at h
        · cases h
        · rename_i hz
          cases h
          have hr := ev_rel he hx
          generalize hq : a.eval _ = x' at hr
          cases hr with
          | ptr hn =>
            rw [hl] at hn; cases hn
            unfold atou at hv
            split at hv
            · split at hv
              · rename_i hlt
                cases hv
                obtain ⟨c', hsh, hk, hle, _⟩ := shape_of hb
                obtain ⟨i, _, _, hi, hsz, _⟩ := hT e ke hke
                refine ⟨_, .ptr hl, ?_⟩
                simp only [execOp, ho, Sem.run_bind]
                rw [hq, Lib.run_to_unsafe w ⟨l.b, l.d + off, none⟩ (pointer_of hT hs) (unsafe_of hT hd) hi (by rw [hsz]; exact hz) hsh (by show l.d + off < _; omega)]
                rfl
              · cases hv
            · cases hv
      · cases h
    · rename_i e a1 b1 c1 a2 b2 c2 m hs hd hx
      split at h
      · rename_i ke hke
        split at h
        · cases h
        · rename_i hz
          cases h
          have hr := ev_rel he hx
          generalize hq : a.eval _ = x' at hr
          cases hr with
          | ptr hn =>
            rw [hl] at hn; cases hn
            unfold afromu at hv
            split at hv
            · split at hv
              · rename_i hc
                obtain ⟨rfl, hlen⟩ := hc
                cases hv
                obtain ⟨c', hsh, hk, hle, hex⟩ := shape_of hb
                obtain ⟨h1, h2⟩ := hex rfl
                obtain ⟨i, _, _, hi, hsz, _⟩ := hT _ ke hke
                refine ⟨_, .ptr hl, ?_⟩
                simp only [execOp, ho, Sem.run_bind]
                have hcells := (cellsOf_eq hi).trans hsz
                rw [hq, Lib.run_from_unsafe w ⟨l.b, l.d + 0, none⟩ (unsafe_of hT hs) (pointer_of hT hd) hi hsh (by
                  rw [h2, hlen, hcells, Nat.div_self (Nat.pos_of_ne_zero hz)]
                  show liesAt P P.depth _ 1 (l.d + 0) _ 1 = true
                  rw [h1]
                  exact lies_self (by rw [hcells]; exact hz))]
                rfl
              · cases hv
            · cases hv
      · cases h
    · cases h
  · split at h
    · rename_i t0 xo ko okb _ _ m key hx hkx
      cases h
      have hr := ev_rel he hx
      have hkr := ev_rel he hkx
      generalize hq : a.eval _ = x' at hr
      cases hr with
      | map hn =>
        rw [hl] at hn; cases hn
        obtain ⟨v', hv', hrun⟩ := alookup_run hT hv hb
        have hke : a.eval ko = key := by
          have hpk : ∃ d, plainKey d key = true := by
            unfold alookup at hv
            split at hv
            · split at hv
              · split at hv
                · split at hv
                  · rename_i hc
                    simp only [Bool.and_eq_true, keysOK] at hc
                    exact ⟨_, hc.1.1⟩
                  · cases hv
                · cases hv
              · cases hv
            · cases hv
          obtain ⟨d, hpk⟩ := hpk
          generalize hz : a.eval ko = y at hkr ⊢
          cases hkr <;> first | rfl | (simp [plainKey] at hpk; done)
        exact ⟨v', hv', by simp [execOp, ho, hq, hke, hrun]⟩
    · cases h
  · rename_i c0
    split at h
    · rename_i t tl m hc ht hx
      cases h
      have hr := evs_rel he hx
      generalize hq : List.map a.eval _ = xs at hr
      cases hr with
      | cons hm hr =>
        cases hr
        cases hm with
        | map hn =>
          rw [hl] at hn; cases hn
          have hts : c0.argTypes[0]? = some t := by rw [← Array.getElem?_toList, ht]; rfl
          obtain ⟨hv', hrun⟩ := amaplen_run hT hv hb 0 hts
          refine ⟨v, hv', ?_⟩
          simp only [execOp, ho]
          refine run_builtin hc fun cs => ?_
          have e : c0.args.map a.eval = #[.map (some l.b)] := by apply Array.ext'; simpa using hq
          rw [e]
          simp [builtin, (amaplen_run hT hv hb _ hts).2]
    · cases h
  · cases h
end
end Go.Mir

