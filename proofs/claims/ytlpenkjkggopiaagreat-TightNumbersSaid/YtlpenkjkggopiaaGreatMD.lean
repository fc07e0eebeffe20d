/- Structs and arrays that are built; the operations that only compute, all together. By a session's own hand. -/
import Derived.Test.YtlpenkjkggopiaaGreatMC
set_option linter.unusedSimpArgs false
set_option linter.unusedVariables false
namespace Go.Mir

section
variable {P : Program} {tab : Tab} {r : Ren}

theorem VRel.cells {v v' : Value} (h : VRel r v v') : VRel r (.agg v.cells) (.agg v'.cells) := by
  have one : ∀ {x x' : Value}, VRel r x x' → VRel r (.agg #[x]) (.agg #[x']) := fun hx =>
    .agg rfl fun i h1 h2 => by
      have : i = 0 := by simp at h1; omega
      subst this; exact hx
  cases h with
  | junk h =>
    have : v'.cells = #[v'] := by cases v' <;> first | rfl | cases h
    rw [this]
    exact one (.junk h)
  | agg hs hc => exact .agg hs hc
  | tuple hs hc => exact one (.tuple hs hc)
  | func f hs hc => exact one (.func f hs hc)
  | bool b => exact one (.bool b)
  | int k n => exact one (.int k n)
  | string s => exact one (.string s)
  | ptrNil => exact one .ptrNil
  | ptr h => exact one (.ptr h)
  | sliceNil => exact one .sliceNil
  | slice h hz hl hc hk hs hx => exact one (.slice h hz hl hc hk hs hx)
  | sliceEnd h => exact one (.sliceEnd h)
  | mapNil => exact one .mapNil
  | map h => exact one (.map h)
  | nilFunc => exact one .nilFunc
  | nilIface => exact one .nilIface
  | yield h => exact one (.yield h)

theorem agg_size {cs cs' : Array Value} (h : VRel r (.agg cs) (.agg cs')) : cs.size = cs'.size := by cases h; assumption
theorem agg_get {cs cs' : Array Value} (h : VRel r (.agg cs) (.agg cs')) (i : Nat) (h1 : i < cs.size) (h2 : i < cs'.size) : VRel r cs[i] cs'[i] := by
  cases h with | agg hs hc => exact hc i h1 h2
theorem agg_get? {cs cs' : Array Value} (h : VRel r (.agg cs) (.agg cs')) {i : Nat} {v : Value} (hv : cs[i]? = some v) : ∃ v', cs'[i]? = some v' ∧ VRel r v v' := by
  obtain ⟨hlt, rfl⟩ := Array.getElem?_eq_some_iff.1 hv
  have := agg_size h
  exact ⟨cs'[i]'(by omega), by simp, agg_get h i hlt (by omega)⟩

theorem agg_set {cs cs' : Array Value} (h : VRel r (.agg cs) (.agg cs')) {v v' : Value} (hv : VRel r v v') (i : Nat) :
    VRel r (.agg (cs.setIfInBounds i v)) (.agg (cs'.setIfInBounds i v')) := by
  refine .agg (by simp [agg_size h]) fun j h1 h2 => ?_
  have e1 : j < cs.size := by simpa using h1
  have e2 : j < cs'.size := by simpa using h2
  have q1 : (cs.setIfInBounds i v)[j]'h1 = if i = j then v else cs[j] := by
    by_cases hij : i = j
    · subst hij; simp
    · rw [if_neg hij]; exact Array.getElem_setIfInBounds_ne _ hij
  have q2 : (cs'.setIfInBounds i v')[j]'h2 = if i = j then v' else cs'[j] := by
    by_cases hij : i = j
    · subst hij; simp
    · rw [if_neg hij]; exact Array.getElem_setIfInBounds_ne _ hij
  rw [q1, q2]
  split
  · exact hv
  · exact agg_get h j _ _

theorem agg_of_list {l l' : List Value} (h : VRel r (.agg l.toArray) (.agg l'.toArray)) : l.length = l'.length := by simpa using agg_size h

theorem fold_set {l l' : List Value} (off : Nat) : ∀ (k : Nat) {cs cs' : Array Value}, VRel r (.agg l.toArray) (.agg l'.toArray) → VRel r (.agg cs) (.agg cs') →
    VRel r (.agg ((l.zipIdx k).foldl (fun cs (c, j) => cs.setIfInBounds (off + j) c) cs)) (.agg ((l'.zipIdx k).foldl (fun cs (c, j) => cs.setIfInBounds (off + j) c) cs')) := by
  induction l generalizing l' with
  | nil =>
    intro k cs cs' h hc
    cases l' with
    | nil => exact hc
    | cons x l' => have := agg_of_list h; simp at this
  | cons x l ih =>
    intro k cs cs' h hc
    cases l' with
    | nil => have := agg_of_list h; simp at this
    | cons x' l' =>
      simp only [List.zipIdx_cons, List.foldl_cons]
      have h0 := agg_get h 0 (by simp) (by simp)
      refine ih (k + 1) ?_ (agg_set hc (by simpa using h0) _)
      have hl := agg_of_list h
      refine .agg (by simp at hl; simpa using hl) fun i h1 h2 => ?_
      have := agg_get h (i + 1) (by simp at h1 ⊢; omega) (by simp at h2 ⊢; omega)
      simpa using this

inductive PRel (r : Ren) : List (Nat × Value) → List (Nat × Value) → Prop
  | nil : PRel r [] []
  | cons {i : Nat} {v v' : Value} {l l' : List (Nat × Value)} (h : VRel r v v') (t : PRel r l l') : PRel r ((i, v) :: l) ((i, v') :: l')

theorem zipIdx_foldl (a : Array Value) (f : Array Value → Value × Nat → Array Value) (c : Array Value) : a.zipIdx.foldl f c = (a.toList.zipIdx 0).foldl f c := by
  rw [← Array.foldl_toList]; simp

theorem fill_rel {place : Nat → Option (Nat × Nat)} {l l' : List (Nat × Value)} (hp : PRel r l l') : ∀ {cs cs' c : Array Value}, VRel r (.agg cs) (.agg cs') →
    Instr.fill place cs l = some c → ∃ c', Instr.fill place cs' l' = some c' ∧ VRel r (.agg c) (.agg c') := by
  induction hp with
  | nil => intro cs cs' c h hf; cases hf; exact ⟨cs', rfl, h⟩
  | cons hv _ ih =>
    rename_i i v v' l l' ht
    intro cs cs' c h hf
    simp only [Instr.fill] at hf ⊢
    cases hpl : place i with
    | none => simp [hpl] at hf
    | some os =>
      obtain ⟨off, size⟩ := os
      simp only [hpl] at hf ⊢
      have e1 := agg_size hv.cells
      have e2 := agg_size h
      rw [← e1, ← e2]
      split at hf
      · cases hf
      · rename_i hc
        rw [if_neg hc]
        refine ih ?_ hf
        rw [zipIdx_foldl, zipIdx_foldl]
        refine fold_set off 0 ?_ h
        simpa using hv.cells

end

/-- the places of a struct's fields -/
def places (tab : Tab) : List (Nat × TypeId) → Option (List (Nat × Nat))
  | [] => some []
  | (off, t) :: l => match tab t, places tab l with
    | some k, some q => some ((off, k.size) :: q)
    | _, _ => none

def abuild (tab : Tab) (t : Nat) (parts : List (Nat × Value)) : Option Value :=
  match tab t with
  | some ⟨.struct fs, _, _, z⟩ => match places tab fs with
    | some q => (Instr.fill (q[·]?) z.toArray parts).map .agg
    | none => none
  | some ⟨.array _ e, _, _, z⟩ => match tab e with
    | some k => (Instr.fill (fun i => some (i * k.size, k.size)) z.toArray parts).map .agg
    | none => none
  | _ => none

section
variable {P : Program} {tab : Tab} {r : Ren}

theorem mapM_places (hT : TabOK P tab) (w : World) : ∀ (l : List Field) {q : List (Nat × Nat)}, places tab (l.map fun f => (f.offset, f.type)) = some q →
    (l.mapM fun f => (Prod.mk f.offset <$> sizeOf f.type : Sem (Nat × Nat))).run P w = .ok q w := by
  intro l
  induction l with
  | nil => intro q h; cases h; simp
  | cons f l ih =>
    intro q h
    simp only [List.map_cons, places] at h
    split at h
    · rename_i k q' hk hq
      cases h
      simp [size_of hT hk, ih hq]
    · cases h

theorem zero_of (hT : TabOK P tab) {t : Nat} {k : TK} (ht : tab t = some k) : ∃ z : Value, (∀ w, (zeroValue t).run P w = .ok z w) ∧ z.cells.toList = k.zero ∧ VRel r (.agg z.cells) (.agg z.cells) ∧ VRel r z z := by
  obtain ⟨i, d, z, hi, hs, _, hz, hc, hcl, _, _, hm⟩ := hT t _ ht
  have h1 : VRel r (.agg z.cells) (.agg z.cells) := .agg rfl fun j h1 _ => rel_closed1 r (hcl.1 _ (by rw [← hc]; exact Array.getElem_mem_toList h1))
  refine ⟨z, run_zeroValue hi hz, hc, h1, ?_⟩
  split at hm
  · rw [hm]; exact h1
  · rw [hm]; exact h1
  · exact rel_closed r hm.2.1

theorem zero_one (hT : TabOK P tab) {t : Nat} {k : TK} (ht : tab t = some k) (ha : k.desc.agg = false) {z : Value} (hz : k.zero = [z]) : (∀ w, (zeroValue t).run P w = .ok z w) ∧ VRel r z z := by
  obtain ⟨i, d, z0, hi, hs, _, hz0, hc, hcl, _, _, hm⟩ := hT t k ht
  have e : z0 = z := by
    have q : z0.cells = #[z0] := by
      revert hm ha
      cases k.desc <;> intro ha hm <;> first | (cases ha; done) | exact hm.2.2
    have : z0.cells.toList = [z] := by rw [hc, hz]
    rw [q] at this; simpa using this
  subst e
  exact ⟨run_zeroValue hi hz0, rel_closed1 r (hcl.1 z0 (by rw [hz]; simp))⟩

theorem abuild_run (hT : TabOK P tab) {t : Nat} {ps ps' : List (Nat × Value)} {v : Value} (h : abuild tab t ps = some v) (hp : PRel r ps ps') :
    ∃ v', VRel r v v' ∧ ∀ w, (Instr.build t ps'.toArray).run P w = .ok v' w := by
  unfold abuild at h
  split at h
  · rename_i fs a b z ht
    split at h
    · rename_i q hq
      obtain ⟨gs, hu, hg⟩ := struct_of hT ht
      obtain ⟨z0, hz, hz1, hz2, _⟩ := zero_of (r := r) hT ht
      simp only [Option.map_eq_some_iff] at h
      obtain ⟨c, hc, rfl⟩ := h
      have e : z.toArray = z0.cells := by have hz3 : z0.cells.toList = z := hz1; rw [← hz3]
      rw [e] at hc
      obtain ⟨c', hc', hr⟩ := fill_rel hp hz2 hc
      refine ⟨_, hr, fun w => ?_⟩
      subst hg
      have hm := mapM_places (P := P) hT w gs.toList hq
      have hm2 : (gs.mapM fun f => (Prod.mk f.offset <$> sizeOf f.type : Sem (Nat × Nat))).run P w = .ok q.toArray w := by
        rw [Array.mapM_eq_mapM_toList]
        rw [Sem.run_map, hm]; rfl
      simp [Instr.build, hz, run_underlying hu, hm2, hc']
    · cases h
  · rename_i n e a b z ht
    split at h
    · rename_i k hk
      obtain ⟨z0, hz, hz1, hz2, _⟩ := zero_of (r := r) hT ht
      simp only [Option.map_eq_some_iff] at h
      obtain ⟨c, hc, rfl⟩ := h
      have e : z.toArray = z0.cells := by have hz3 : z0.cells.toList = z := hz1; rw [← hz3]
      rw [e] at hc
      obtain ⟨c', hc', hr⟩ := fill_rel hp hz2 hc
      refine ⟨_, hr, fun w => ?_⟩
      simp [Instr.build, hz, run_underlying (array_of hT ht), size_of hT hk, hc']
    · cases h
  · cases h
end

/-! ### all of them -/

def evs (ρ : Env) : List Operand → Option (List Value)
  | [] => some []
  | x :: l => match ev ρ x, evs ρ l with
    | some v, some vs => some (v :: vs)
    | _, _ => none

def evps (ρ : Env) : List (Nat × Operand) → Option (List (Nat × Value))
  | [] => some []
  | (i, x) :: l => match ev ρ x, evps ρ l with
    | some v, some vs => some ((i, v) :: vs)
    | _, _ => none

def evo (ρ : Env) : Option Operand → Option (Option Value)
  | none => some none
  | some x => match ev ρ x with
    | some v => some (some v)
    | none => none

def alen (tab : Tab) (t : Nat) (x : Value) : Option Value :=
  match tab t, x with
  | some ⟨.string, _, _, _⟩, .string s => some (.int .i64 s.size)
  | some ⟨.slice _, _, _, _⟩, .slice _ n _ => some (.int .i64 n)
  | some ⟨.array n _, _, _, _⟩, _ => some (.int .i64 n)
  | _, _ => none

def acap (tab : Tab) (t : Nat) (x : Value) : Option Value :=
  match tab t, x with
  | some ⟨.slice _, _, _, _⟩, .slice none _ _ => some (.int .i64 0)
  | _, _ => none

def amin : Value → List Value → Option Value
  | x, [] => some x
  | .int k a, .int _ b :: l => amin (.int k (if b < a then b else a)) l
  | _, _ => none

def amax : Value → List Value → Option Value
  | x, [] => some x
  | .int k a, .int _ b :: l => amax (.int k (if b > a then b else a)) l
  | _, _ => none

def abuiltin (tab : Tab) (b : Builtin) (ts : Array TypeId) (vs : List Value) : Option Value :=
  match b, ts.toList, vs with
  | .len, t :: _, [x] => alen tab t x
  | .cap, t :: _, [x] => acap tab t x
  | .min, _, x :: l => amin x l
  | .max, _, x :: l => amax x l
  | .unsafeSliceData, _, [.slice none _ _] => some (.pointer none)
  | .unsafeSliceData, _, [.slice (some ⟨n, o, some _⟩) _ c] => if c = 0 then none else some (.pointer (some ⟨n, o, none⟩))
  | _, _, _ => none

def anil : Value → Option Value
  | .pointer (some a) => some (.pointer (some a))
  | .func (.func f) fs cs => some (.func (.func f) fs cs)
  | _ => none

def apick : Value → Value → Value → Option Value
  | .bool t, .bool a, .bool b => some (.bool (bif t then a else b))
  | .bool t, a, b => some (bif t then a else b)
  | _, _, _ => none

/-- what an operation that only computes gives -/
def aval (tab : Tab) (ρ : Env) (o : Oper) : Option Value :=
  match o.op with
  | .move x => ev ρ x
  | .assign x => ev ρ x
  | .pick c a b => match ev ρ c, ev ρ a, ev ρ b with
    | some c, some a, some b => apick c a b
    | _, _, _ => none
  | .nilCheck x => match ev ρ x with
    | some v => anil v
    | none => none
  | .binOp op t x y _ => match ev ρ x, ev ρ y with
    | some x, some y => abin tab op t x y
    | _, _ => none
  | .unOp op _ x => match ev ρ x with
    | some x => aun op x
    | none => none
  | .convert s d x => match tab s, tab d, ev ρ x with
    | some ks, some kd, some x => aconv ks.desc kd.desc x
    | _, _, _ => none
  | .fieldAddr t x f => match ev ρ x with
    | some x => afieldAddr tab t x f
    | none => none
  | .field t x f => match ev ρ x with
    | some x => afield tab t x f
    | none => none
  | .indexAddr t x i => match ev ρ x, ev ρ i with
    | some x, some i => aindexAddr tab t x i
    | _, _ => none
  | .index t x i => match ev ρ x, ev ρ i with
    | some x, some i => aindex tab t x i
    | _, _ => none
  | .extract x i => match ev ρ x with
    | some x => aextract x i
    | none => none
  | .slice t x lo hi mx => match ev ρ x, evo ρ lo, evo ρ hi, evo ρ mx with
    | some x, some lo, some hi, some mx => aslice tab t x lo hi mx
    | _, _, _, _ => none
  | .build t ps => match evps ρ ps.toList with
    | some vs => abuild tab t vs
    | none => none
  | .makeFunc (.func f) fs cs => match fs.toList, evs ρ cs.toList with
    | [], some vs => some (.func (.func f) #[] vs.toArray)
    | _, _ => none
  | .call c => match c.callee, evs ρ c.args.toList with
    | .builtin b, some vs => abuiltin tab b c.argTypes vs
    | _, _ => none
  | _ => none

section
variable {P : Program} {tab : Tab} {r : Ren} {ρ : Env} {a : Act}

theorem evo_rel (he : ERel r ρ a.tmps) {x : Option Operand} {v : Option Value} (h : evo ρ x = some v) : ORel r v (x.map a.eval) := by
  cases x with
  | none => cases h; exact .none
  | some x =>
    simp only [evo] at h
    split at h
    · rename_i u hu; cases h; exact .some (ev_rel he hu)
    · cases h

theorem evps_rel (he : ERel r ρ a.tmps) : ∀ {l : List (Nat × Operand)} {vs : List (Nat × Value)}, evps ρ l = some vs → PRel r vs (l.map fun p => (p.1, a.eval p.2))
  | [], vs, h => by cases h; exact .nil
  | (i, x) :: l, vs, h => by
    simp only [evps] at h
    split at h
    · rename_i v q hv hq; cases h; exact .cons (ev_rel he hv) (evps_rel he hq)
    · cases h

inductive LRel (r : Ren) : List Value → List Value → Prop
  | nil : LRel r [] []
  | cons {v v' : Value} {l l' : List Value} (h : VRel r v v') (t : LRel r l l') : LRel r (v :: l) (v' :: l')

theorem evs_rel (he : ERel r ρ a.tmps) : ∀ {l : List Operand} {vs : List Value}, evs ρ l = some vs → LRel r vs (l.map a.eval)
  | [], vs, h => by cases h; exact .nil
  | x :: l, vs, h => by
    simp only [evs] at h
    split at h
    · rename_i v q hv hq; cases h; exact .cons (ev_rel he hv) (evs_rel he hq)
    · cases h

theorem LRel.length {l l' : List Value} (h : LRel r l l') : l.length = l'.length := by
  induction h with
  | nil => rfl
  | cons _ _ ih => simp [ih]
theorem LRel.get {l l' : List Value} (h : LRel r l l') : ∀ (i : Nat) (h1 : i < l.length) (h2 : i < l'.length), VRel r l[i] l'[i] := by
  induction h with
  | nil => intro i h1; simp at h1
  | cons hv _ ih =>
    intro i h1 h2
    cases i with
    | zero => exact hv
    | succ i => simpa using ih i (by simpa using h1) (by simpa using h2)
theorem LRel.tuple {l l' : List Value} (h : LRel r l l') : VRel r (.tuple l.toArray) (.tuple l'.toArray) :=
  .tuple (by simpa using h.length) fun i h1 h2 => by simpa using h.get i (by simpa using h1) (by simpa using h2)

theorem amin_run : ∀ {l l' : List Value} {x x' v : Value}, LRel r l l' → VRel r x x' → amin x l = some v →
    ∃ v', VRel r v v' ∧ ∀ w, (l'.foldlM Builtin.min2 x').run P w = .ok v' w
  | [], _, x, x', v, hl, hx, h => by cases hl; simp only [amin] at h; cases h; exact ⟨x', hx, fun _ => rfl⟩
  | y :: l, _, x, x', v, hl, hx, h => by
    cases hl with
    | cons hy ht =>
      cases x <;> cases y <;> simp only [amin, reduceCtorEq] at h
      cases hx; cases hy
      obtain ⟨v', hv, hr⟩ := amin_run ht (.int _ _) h
      exact ⟨v', hv, fun w => by simpa [Builtin.min2] using hr w⟩

theorem amax_run : ∀ {l l' : List Value} {x x' v : Value}, LRel r l l' → VRel r x x' → amax x l = some v →
    ∃ v', VRel r v v' ∧ ∀ w, (l'.foldlM Builtin.max2 x').run P w = .ok v' w
  | [], _, x, x', v, hl, hx, h => by cases hl; simp only [amax] at h; cases h; exact ⟨x', hx, fun _ => rfl⟩
  | y :: l, _, x, x', v, hl, hx, h => by
    cases hl with
    | cons hy ht =>
      cases x <;> cases y <;> simp only [amax, reduceCtorEq] at h
      cases hx; cases hy
      obtain ⟨v', hv, hr⟩ := amax_run ht (.int _ _) h
      exact ⟨v', hv, fun w => by simpa [Builtin.max2] using hr w⟩

theorem run_builtin {b : Builtin} {c : Call} {t : TypeId} {w w' : World} {v : Value} (hc : c.callee = .builtin b)
    (hb : ∀ cs, (builtin b c.argTypes t cs (c.args.map a.eval)).run P w = .ok (.value v) w') :
    (do let d ← resolve a.eval c t; invoke d.target d.args : Sem Next).run P w = .ok (.value v) w' := by
  simp only [resolve, hc, Sem.run_bind, Sem.run_pure, Result.andThen_ok, invoke]
  exact hb _

theorem alen_run (hT : TabOK P tab) {t : Nat} {x x' v : Value} (h : alen tab t x = some v) (hx : VRel r x x') (t' : TypeId) {ts : Array TypeId} (ht : ts[0]? = some t) :
    VRel r v v ∧ ∀ w, (Builtin.len_ ts t' #[x']).run P w = .ok v w := by
  unfold alen at h
  split at h
  · rename_i a b c s hk
    cases hx; cases h
    exact ⟨.int _ _, fun w => by simp [Builtin.len_, ht, run_underlying (string_of hT hk), goInt]⟩
  · rename_i e a b c q n m hk
    cases h
    refine ⟨.int _ _, fun w => ?_⟩
    cases hx <;> simp [Builtin.len_, ht, run_underlying (slice_of hT hk), goInt]
  · rename_i n e a b c hk
    cases h
    exact ⟨.int _ _, fun w => by simp [Builtin.len_, ht, run_underlying (array_of hT hk), goInt]⟩
  · cases h

theorem acap_run (hT : TabOK P tab) {t : Nat} {x x' v : Value} (h : acap tab t x = some v) (hx : VRel r x x') (t' : TypeId) {ts : Array TypeId} (ht : ts[0]? = some t) :
    VRel r v v ∧ ∀ w, (Builtin.cap_ ts t' #[x']).run P w = .ok v w := by
  unfold acap at h
  split at h
  · rename_i e a b c q n hk
    cases h; cases hx
    exact ⟨.int _ _, fun w => by simp [Builtin.cap_, ht, run_underlying (slice_of hT hk), goInt]⟩
  · cases h

theorem sliceData_run {c : Nat} (hc : ¬ c = 0) {a : Addr} {l : Nat} (ts : Array TypeId) (t : TypeId) (cs : Array Bool) (w : World) :
    (builtin .unsafeSliceData ts t cs #[.slice (some a) l c]).run P w = .ok (.value (.pointer (some a))) w := by
  have e : Builtin.unsafeSliceData_ ts t #[.slice (some a) l c] = (if c ≠ 0 then pure (.pointer (some a)) else (do
      if (← viewAt a.block).isSome then pure (.pointer (some a))
      else pure (.pointer (some ⟨← newObj (.view a (← elemOf t)), 0, none⟩)))) := rfl
  simp only [builtin, e, if_pos hc, Sem.run_bind, Sem.run_pure, Result.andThen_ok]

theorem abuiltin_run (hT : TabOK P tab) {b : Builtin} {ts : Array TypeId} {vs vs' : List Value} {v : Value} (h : abuiltin tab b ts vs = some v) (hv : LRel r vs vs') :
    ∃ v', VRel r v v' ∧ ∀ t cs w, (builtin b ts t cs vs'.toArray).run P w = .ok (.value v') w := by
  unfold abuiltin at h
  split at h
  · rename_i t0 tl x hts
    have ht0 : ts[0]? = some t0 := by rw [← Array.getElem?_toList, hts]; rfl
    cases hv with | cons hx ht => ?_
    cases ht
    rename_i x'
    exact ⟨_, (alen_run hT h hx 0 ht0).1, fun t cs w => by simp [builtin, (alen_run hT h hx t ht0).2]⟩
  · rename_i t0 tl x hts
    have ht0 : ts[0]? = some t0 := by rw [← Array.getElem?_toList, hts]; rfl
    cases hv with | cons hx ht => ?_
    cases ht
    exact ⟨_, (acap_run hT h hx 0 ht0).1, fun t cs w => by simp [builtin, (acap_run hT h hx t ht0).2]⟩
  · cases hv with | cons hx ht => ?_
    obtain ⟨v', hv', hr⟩ := amin_run (P := P) ht hx h
    exact ⟨v', hv', fun t cs w => by simp [builtin, Builtin.min_, hr]⟩
  · cases hv with | cons hx ht => ?_
    obtain ⟨v', hv', hr⟩ := amax_run (P := P) ht hx h
    exact ⟨v', hv', fun t cs w => by simp [builtin, Builtin.max_, hr]⟩
  · cases hv with | cons hx ht => ?_
    cases ht; cases hx; cases h
    exact ⟨_, .ptrNil, fun t cs w => rfl⟩
  · cases hv with | cons hx ht => ?_
    cases ht
    split at h
    · cases h
    · rename_i hc
      cases h
      cases hx with
      | slice hn hz hl hcc =>
        refine ⟨_, .ptr hn, fun t cs w => ?_⟩
        have : ¬ (_ : Nat) = 0 := fun e => hc (Nat.le_zero.1 (e ▸ hcc))
        exact sliceData_run this ts t cs w
      | sliceEnd hn => exact absurd rfl hc
  · cases h

theorem apick_rel {c x y c' x' y' v : Value} (h : apick c x y = some v) (hc : VRel r c c') (hx : VRel r x x') (hy : VRel r y y') :
    ∃ t, c' = .bool t ∧ VRel r v (if t then x' else y') := by
  unfold apick at h
  split at h
  · cases hc; cases hx; cases hy; cases h
    rename_i t a b
    refine ⟨t, rfl, ?_⟩
    cases t <;> exact .bool _
  · have key : ∀ t : Bool, VRel r (.bool t) c' → ∀ u v : Value, VRel r u x' → VRel r v y' → ∃ s, c' = .bool s ∧ VRel r (bif t then u else v) (if s then x' else y') := by
      intro t hc u v hu hv
      cases hc
      refine ⟨t, rfl, ?_⟩
      cases t
      · exact hv
      · exact hu
    cases h
    exact key _ hc _ _ hx hy
  · cases h

theorem anil_run {x x' v : Value} (h : anil x = some v) (hx : VRel r x x') {o : Oper} {y : Operand} (ho : o.op = .nilCheck y) (hy : a.eval y = x') :
    VRel r v x' ∧ ∀ w, (execOp a.eval o).run P w = .ok (.value x') w := by
  unfold anil at h
  split at h
  · cases h; cases hx with
    | ptr hn => exact ⟨.ptr hn, fun w => by simp [execOp, ho, hy]⟩
  · cases h; cases hx with
    | func _ hs hc => exact ⟨.func _ hs hc, fun w => by simp [execOp, ho, hy]⟩
  · cases h

/-- what an operation that only computes gives, in whatever world -/
theorem aval_run (hT : TabOK P tab) (he : ERel r ρ a.tmps) {o : Oper} {v : Value} (h : aval tab ρ o = some v) :
    ∃ v', VRel r v v' ∧ ∀ w, (execOp a.eval o).run P w = .ok (.value v') w := by
  unfold aval at h
  split at h <;> rename_i ho
  case h_1 => exact ⟨_, ev_rel he h, fun w => by simp [execOp, ho]⟩
  case h_2 => exact ⟨_, ev_rel he h, fun w => by simp [execOp, ho]⟩
  case h_3 =>
    split at h
    · rename_i hc hx hy
      obtain ⟨t, ht, hv⟩ := apick_rel h (ev_rel he hc) (ev_rel he hx) (ev_rel he hy)
      exact ⟨_, hv, fun w => by simp [execOp, ho, ht, asBool]⟩
    · cases h
  case h_4 =>
    split at h
    · rename_i hx
      obtain ⟨hv, hr⟩ := anil_run (P := P) h (ev_rel he hx) ho rfl
      exact ⟨_, hv, hr⟩
    · cases h
  case h_5 =>
    split at h
    · rename_i hx hy
      exact ⟨v, abin_rel h, fun w => by
        simp only [execOp, ho]
        rw [Sem.run_bind, abin_run hT h (ev_rel he hx) (ev_rel he hy) w]; rfl⟩
    · cases h
  case h_6 =>
    split at h
    · rename_i hx
      exact ⟨v, (aun_run (P := P) h (ev_rel he hx) default).1, fun w => by simp [execOp, ho, (aun_run h (ev_rel he hx) w).2]⟩
    · cases h
  case h_7 =>
    split at h
    · rename_i hs hd hx
      exact ⟨v, (aconv_run hT hs hd h (ev_rel he hx) default).1, fun w => by simp [execOp, ho, (aconv_run hT hs hd h (ev_rel he hx) w).2]⟩
    · cases h
  case h_8 =>
    split at h
    · rename_i hx
      obtain ⟨v', hv, hr⟩ := afieldAddr_run hT h (ev_rel he hx)
      exact ⟨v', hv, fun w => by simp [execOp, ho, hr]⟩
    · cases h
  case h_9 =>
    split at h
    · rename_i hx
      obtain ⟨v', hv, hr⟩ := afield_run hT h (ev_rel he hx)
      exact ⟨v', hv, fun w => by simp [execOp, ho, hr]⟩
    · cases h
  case h_10 =>
    split at h
    · rename_i hx hi
      obtain ⟨v', hv, hr⟩ := aindexAddr_run hT h (ev_rel he hx) (ev_rel he hi)
      exact ⟨v', hv, fun w => by simp [execOp, ho, hr]⟩
    · cases h
  case h_11 =>
    split at h
    · rename_i hx hi
      obtain ⟨v', hv, hr⟩ := aindex_run hT h (ev_rel he hx) (ev_rel he hi)
      exact ⟨v', hv, fun w => by simp [execOp, ho, hr]⟩
    · cases h
  case h_12 =>
    split at h
    · rename_i hx
      obtain ⟨v', hv, hr⟩ := aextract_run (P := P) h (ev_rel he hx)
      exact ⟨v', hv, fun w => by simp [execOp, ho, hr]⟩
    · cases h
  case h_13 =>
    split at h
    · rename_i hx hl hh hm
      obtain ⟨v', hv, hr⟩ := aslice_run hT h (ev_rel he hx) (evo_rel he hl) (evo_rel he hh) (evo_rel he hm)
      exact ⟨v', hv, fun w => by simp [execOp, ho, hr]⟩
    · cases h
  case h_14 =>
    split at h
    · rename_i hx
      obtain ⟨v', hv, hr⟩ := abuild_run hT h (evps_rel he hx)
      refine ⟨v', hv, fun w => ?_⟩
      have e : ∀ ps : Array (Nat × Operand), (ps.toList.map fun p => (p.1, a.eval p.2)).toArray = ps.map fun (i, x) => (i, a.eval x) := fun ps => by
        apply Array.ext'; simp
      rw [e] at hr
      simp [execOp, ho, hr]
    · cases h
  case h_15 =>
    rename_i f fs cs
    split at h
    · rename_i vs hf hx
      cases h
      have hl := evs_rel he hx
      have hf' : fs = #[] := by apply Array.ext'; simpa using hf
      subst hf'
      have e : (cs.toList.map a.eval).toArray = cs.map a.eval := by apply Array.ext'; simp
      refine ⟨.func (.func f) #[] ((cs.toList.map a.eval).toArray), ?_, fun w => ?_⟩
      · exact .func f (by simpa using hl.length) fun i h1 h2 => by
          have := hl.get i (by simpa using h1) (by simpa using h2)
          simpa only [List.getElem_toArray] using this
      · rw [e]; simp [execOp, ho, Instr.makeFunc]
    · cases h
  case h_16 =>
    split at h
    · rename_i hc hx
      obtain ⟨v', hv, hr⟩ := abuiltin_run hT h (evs_rel he hx)
      refine ⟨v', hv, fun w => ?_⟩
      have e : ∀ c : Call, (c.args.toList.map a.eval).toArray = c.args.map a.eval := fun c => by apply Array.ext'; simp
      rw [e] at hr
      simp only [execOp, ho]
      exact run_builtin hc fun cs => hr _ cs w
    · cases h
  case h_17 => cases h
end
end Go.Mir

