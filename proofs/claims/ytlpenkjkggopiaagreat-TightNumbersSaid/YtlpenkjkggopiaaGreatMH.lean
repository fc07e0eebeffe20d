/- Operations that make memory. By a session's own hand. -/
import Derived.Test.YtlpenkjkggopiaaGreatMG
set_option linter.unusedSimpArgs false
set_option linter.unusedVariables false
namespace Go.Mir

def repl (m : Nat) : List Value → List Value
  | [x] => List.replicate m x
  | z => (List.replicate m z).flatten

theorem repl_eq (m : Nat) (z : List Value) : repl m z = (List.replicate m z).flatten := by
  unfold repl
  split
  · rename_i x
    induction m with
    | zero => rfl
    | succ m ih => rw [List.replicate_succ, List.replicate_succ, List.flatten_cons, ← ih]; rfl
  · rfl

theorem range_repl (z : List Value) : ∀ (m : Nat), ((Array.range (m * z.length)).map fun i => z.toArray[i % z.toArray.size]!).toList = repl m z := by
  intro m
  rw [repl_eq]
  have key : ∀ m : Nat, (List.range (m * z.length)).map (fun i => z[i % z.length]!) = (List.replicate m z).flatten := by
    intro m
    induction m with
    | zero => simp
    | succ m ih =>
      rw [Nat.succ_mul, List.range_add, List.map_append, ih, List.replicate_succ', List.flatten_append]
      congr 1
      simp only [List.map_map, List.flatten_cons, List.flatten_nil, List.append_nil]
      apply List.ext_getElem
      · simp
      · intro i h1 h2
        simp at h1
        simp [Nat.mod_eq_of_lt h1, h1]
  rw [← key m]
  simp

theorem repl_length (m : Nat) (z : List Value) : (repl m z).length = m * z.length := by
  rw [repl_eq]; simp

def strCells (s : ByteArray) : List Value := s.data.toList.map fun b => .int .u8 b.toNat

def aalloc (tab : Tab) (ρ : Env) (o : Oper) : Option ((Nat → Value) × Blk) :=
  match o.op with
  | .alloc t => match tab t with
    | some k => some (fun n => .pointer (some ⟨n, 0, none⟩), .cells k.zero t false true)
    | none => none
  | .box t x => match ev ρ x with
    | some v => some (fun n => .pointer (some ⟨n, 0, none⟩), .cells v.cells.toList t false true)
    | none => none
  | .buildSlice t len ps => match tab t, evps ρ ps.toList with
    | some ⟨.slice e, _, _, _⟩, some vs => match tab e with
      | some k => if len * k.size ≤ 2 ^ 24 ∧ k.size ≠ 0 then (match Instr.fill (fun i => some (i * k.size, k.size)) (repl len k.zero).toArray vs with
        | some cs => some (fun n => .slice (some ⟨n, 0, some k.size⟩) len len, .cells cs.toList e false true)
        | none => none) else none
      | none => none
    | _, _ => none
  | .makeSlice t l c => match tab t, ev ρ l, ev ρ c with
    | some ⟨.slice e, _, _, _⟩, some (.int _ n), some (.int _ m) => match tab e with
      | some k => if 0 ≤ n ∧ n ≤ m ∧ k.bytes * m ≤ 2 ^ 48 ∧ m < 2 ^ 63 ∧ k.size ≠ 0 then
          some (fun q => .slice (some ⟨q, 0, some k.size⟩) n.toNat m.toNat, .cells (repl m.toNat k.zero) e false true) else none
      | none => none
    | _, _, _ => none
  | .makeMap t r => match tab t, r with
    | some ⟨.map _ _, _, _, _⟩, none => some (fun n => .map (some n), .amap [])
    | _, _ => none
  | .convert s d x => match tab s, tab d, ev ρ x with
    | some ⟨.string, _, _, _⟩, some ⟨.slice e, _, _, _⟩, some (.string s) => match tab e with
      | some ⟨.int .u8, _, _, _⟩ => if s.size < 2 ^ 62 then some (fun n => .slice (some ⟨n, 0, some 1⟩) s.size s.size, .cells (strCells s) e true true) else none
      | _ => none
    | _, _, _ => none
  | _ => none

section
variable {P : Program} {tab : Tab} {r : Ren} {ρ : Env} {a : Act}

/-- a fresh block that holds just its cells -/
theorem blk_fresh {vs vs' : List Value} (h : LRel r vs vs') (b sz : Nat) (e : TypeId) (opn : Bool) :
    BlkRel r ⟨b, 0, vs.length, vs.length, sz⟩ (.cells vs e opn true) (some (.cells vs'.toArray e (0, 0))) := by
  refine ⟨rfl, rfl, by simp, by simp [h.length], fun _ => by simp [h.length], fun i v hv => ?_, fun _ o _ _ => by simp⟩
  have hlt : i < vs.length := by
    rcases Nat.lt_or_ge i vs.length with q | q
    · exact q
    · rw [List.getElem?_eq_none (by simpa using q)] at hv; cases hv
  have hl := h.length
  have e1 : vs[i] = v := by rw [List.getElem?_eq_getElem hlt] at hv; cases hv; rfl
  exact ⟨vs'[i]'(by omega), by simp, e1 ▸ h.get i hlt (by omega)⟩

theorem ptr_fresh {b k sz n : Nat} (h : r n = some ⟨b, 0, k, k, sz⟩) : VRel r (.pointer (some ⟨n, 0, none⟩)) (.pointer (some ⟨b, 0, none⟩)) := by
  have := VRel.ptr (r := r) (n := n) (o := 0) h
  simpa using this

theorem slice_fresh {b sz n len cap : Nat} (hl : len ≤ cap) (h : r n = some ⟨b, 0, cap * sz, cap * sz, sz⟩) :
    VRel r (.slice (some ⟨n, 0, some sz⟩) len cap) (.slice (some ⟨b, 0, none⟩) len cap) := by
  have := VRel.slice (r := r) (n := n) (o := 0) (cap' := cap) h rfl hl (Nat.le_refl _) (by simp) (by simp) (fun _ => rfl)
  simpa using this

theorem modify_push {α : Type} (a : Array α) (x : α) (f : α → α) : (a.push x).modify a.size f = a.push (f x) := by
  apply Array.ext_getElem?
  intro i
  rw [Array.getElem?_modify, Array.getElem?_push, Array.getElem?_push]
  by_cases h : i = a.size
  · subst h; simp
  · simp [h, Ne.symm h]

theorem aalloc_run (hT : TabOK P tab) (he : ERel r ρ a.tmps) {o : Oper} {mk : Nat → Value} {blk : Blk} (h : aalloc tab ρ o = some (mk, blk)) (w : World) :
    ∃ v' w' l obj, (execOp a.eval o).run P w = .ok (.value v') w' ∧ (w'.heap = w.heap.push obj ∧ (w'.os, w'.output) = (w.os, w.output)) ∧ l.b = w.heap.size ∧ (∀ r', r.le r' → BlkRel r' l blk (some obj)) ∧
      (∀ r' n, r.le r' → r' n = some l → VRel r' (mk n) v') := by
  unfold aalloc at h
  split at h <;> rename_i ho
  · split at h
    · rename_i t _ k ht
      cases h
      obtain ⟨z, hz, hz1, hz2, _⟩ := zero_of (r := r) hT ht
      have hl : LRel r k.zero z.cells.toList := by have := LRel.of_agg hz2; rw [hz1] at this; rw [hz1]; exact this
      refine ⟨.pointer (some ⟨w.heap.size, 0, none⟩), { w with heap := w.heap.push (.cells z.cells t (0, 0)) }, ⟨w.heap.size, 0, k.zero.length, k.zero.length, 1⟩, .cells z.cells t (0, 0), ?_, ⟨rfl, rfl⟩, rfl, fun r' hr => ?_, fun r' n hr hn => ptr_fresh hn⟩
      · simp [execOp, ho, Instr.alloc, hz, newVar, newRow]
      · have := blk_fresh (hl.mono hr) w.heap.size 1 t false
        simpa using this
    · cases h
  · split at h
    · rename_i t x _ v hv
      cases h
      have hr := ev_rel he hv
      have hl := LRel.of_agg hr.cells
      refine ⟨.pointer (some ⟨w.heap.size, 0, none⟩), { w with heap := w.heap.push (.cells (a.eval x).cells t (0, 0)) }, ⟨w.heap.size, 0, v.cells.toList.length, v.cells.toList.length, 1⟩, .cells (a.eval x).cells t (0, 0), ?_, ⟨rfl, rfl⟩, rfl, fun r' hr' => ?_, fun r' n _ hn => ptr_fresh hn⟩
      · simp [execOp, ho, Instr.box, newVar, newRow]
      · have := blk_fresh (hl.mono hr') w.heap.size 1 t false
        simpa using this
    · cases h
  · split at h
    · rename_i t len ps _ _ e a1 b1 c1 vs ht hvs
      split at h
      · rename_i k hk
        split at h
        · rename_i hc
          obtain ⟨hc1, hc2⟩ := hc
          split at h
          · rename_i cs hcs
            cases h
            obtain ⟨z, hz, hz1, hz2, _⟩ := zero_of (r := r) hT hk
            have hzl : k.zero.length = k.size := by obtain ⟨_, _, _, _, _, _, _, _, hq, _⟩ := hT e k hk; exact hq.2
            have hcl : ∀ v ∈ k.zero, Value.closed1 v = true := by obtain ⟨_, _, _, _, _, _, _, _, hq, _⟩ := hT e k hk; exact hq.1
            have hps := evps_rel he hvs
            have hrep : VRel r (.agg (repl len k.zero).toArray) (.agg (repl len k.zero).toArray) := by
              refine .agg rfl fun i h1 _ => rel_closed1 r ?_
              have hm : ∀ v, v ∈ repl len k.zero → Value.closed1 v = true := by
                intro v hv
                rw [repl_eq] at hv
                obtain ⟨l, hl1, hl2⟩ := List.mem_flatten.1 hv
                rw [(List.mem_replicate.1 hl1).2] at hl2
                exact hcl _ hl2
              exact hm _ (by simp)
            obtain ⟨cs', hcs', hcr⟩ := fill_rel hps hrep hcs
            have hlen : cs.size = len * k.size := by
              have : ∀ (ps : List (Nat × Value)) (c c' : Array Value), Instr.fill (fun i => some (i * k.size, k.size)) c ps = some c' → c'.size = c.size := by
                intro ps
                induction ps with
                | nil => intro c c' h; cases h; rfl
                | cons p ps ih =>
                  intro c c' h
                  obtain ⟨i, v⟩ := p
                  simp only [Instr.fill] at h
                  split at h
                  · cases h
                  · rw [ih _ _ h, zipIdx_foldl]
                    have : ∀ (l : List (Value × Nat)) (c : Array Value), (l.foldl (fun cs (c, j) => cs.setIfInBounds (i * k.size + j) c) c).size = c.size := by
                      intro l
                      induction l with
                      | nil => intro c; rfl
                      | cons x l ih => intro c; simp [ih]
                    exact this _ _
              rw [this _ _ _ hcs]
              simp [repl_length, hzl]
            refine ⟨.slice (some ⟨w.heap.size, 0, none⟩) len len, { w with heap := w.heap.push (.cells cs' e (0, 0)) }, ⟨w.heap.size, 0, len * k.size, len * k.size, k.size⟩, .cells cs' e (0, 0), ?_, ⟨rfl, rfl⟩, rfl, fun r' hr' => ?_, fun r' n _ hn => slice_fresh (Nat.le_refl _) hn⟩
            · have e0 : ∀ ps : Array (Nat × Operand), ps.toList.map (fun p => (p.1, a.eval p.2)) = (ps.map fun x => (x.1, a.eval x.2)).toList := fun ps => by simp
              have hrange : ∀ q : Array Value, (len * k.size ≠ 0 → q = z.cells) → ((Array.range (len * k.size)).map fun i => q[i % q.size]!) = (repl len k.zero).toArray := by
                intro q hq
                apply Array.ext'
                rw [← range_repl, hzl]
                by_cases h0 : len * k.size = 0
                · simp [h0]
                · rw [hq h0]
                  have : z.cells = k.zero.toArray := by rw [← hz1]
                  rw [this]
              rw [e0] at hcs'
              have hnot : ¬ (len * k.size > 2 ^ 24) := by omega
              simp only [execOp, ho, Instr.buildSlice, Sem.run_bind, run_underlying (slice_of hT ht), Result.andThen_ok, size_of hT hk]
              rw [if_neg hnot]
              by_cases h0 : len * k.size = 0
              · rw [if_pos h0]
                simp only [Sem.run_bind, Sem.run_pure, Result.andThen_ok, hrange #[] (fun h => absurd h0 h), hcs', newRow, run_newObj]
              · rw [if_neg h0]
                simp only [Sem.run_bind, Sem.run_pure, Result.andThen_ok, hz, hrange z.cells (fun _ => rfl), hcs', newRow, run_newObj]
            · have := blk_fresh ((LRel.of_agg hcr).mono hr') w.heap.size k.size e false
              simpa [hlen] using this
          · cases h
        · cases h
      · cases h
    · cases h
  · split at h
    · rename_i t lo co _ _ _ e a1 b1 c1 kl n kc m ht hl hc
      split at h
      · rename_i k hk
        split at h
        · rename_i hcond
          obtain ⟨h0, h1, h2, h3, h4⟩ := hcond
          cases h
          obtain ⟨z, hz, hz1, hz2, _⟩ := zero_of (r := r) hT hk
          obtain ⟨inf, _, _, hinf, hinfs, hinfb, _, _, hq, _⟩ := hT e k hk
          have hzl : k.zero.length = k.size := hq.2
          have hcl : ∀ v ∈ k.zero, Value.closed1 v = true := hq.1
          have el : a.eval lo = .int kl n := by have := ev_rel he hl; generalize a.eval lo = y at this; cases this; rfl
          have ec : a.eval co = .int kc m := by have := ev_rel he hc; generalize a.eval co = y at this; cases this; rfl
          have hall : ∀ v, v ∈ repl m.toNat k.zero → Value.closed1 v = true := by
            intro v hv
            rw [repl_eq] at hv
            obtain ⟨l, hl1, hl2⟩ := List.mem_flatten.1 hv
            rw [(List.mem_replicate.1 hl1).2] at hl2
            exact hcl _ hl2
          have hrel : LRel r (repl m.toNat k.zero) (repl m.toNat k.zero) := by
            have : ∀ l : List Value, (∀ v ∈ l, Value.closed1 v = true) → LRel r l l := by
              intro l
              induction l with
              | nil => intro _; exact .nil
              | cons x l ih => intro hx; exact .cons (rel_closed1 r (hx x (by simp))) (ih fun v hv => hx v (by simp [hv]))
            exact this _ hall
          have hrange : ∀ q : Array Value, (m.toNat * k.size ≠ 0 → q = z.cells) → ((Array.range (m.toNat * k.size)).map fun i => q[i % q.size]!) = (repl m.toNat k.zero).toArray := by
            intro q hq
            apply Array.ext'
            rw [← range_repl, hzl]
            by_cases h0 : m.toNat * k.size = 0
            · simp [h0]
            · rw [hq h0]
              have : z.cells = k.zero.toArray := by rw [← hz1]
              rw [this]
          have w1 : IntKind.i64.wrap n = n := by simp [IntKind.wrap, IntKind.bits, IntKind.signed]; omega
          have w2 : IntKind.i64.wrap m = m := by simp [IntKind.wrap, IntKind.bits, IntKind.signed]; omega
          refine ⟨.slice (some ⟨w.heap.size, 0, none⟩) n.toNat m.toNat, { w with heap := w.heap.push (.cells (repl m.toNat k.zero).toArray e (0, 0)) },
            ⟨w.heap.size, 0, m.toNat * k.size, m.toNat * k.size, k.size⟩, .cells (repl m.toNat k.zero).toArray e (0, 0), ?_, ⟨rfl, rfl⟩, rfl, fun r' hr' => ?_, fun r' q _ hn => slice_fresh (by omega) hn⟩
          · have g1 : ¬ m < n := by omega
            have g2 : ¬ n < 0 := by omega
            have g3 : ¬ m < 0 := by omega
            simp only [execOp, ho, Instr.makeSlice, Sem.run_bind, run_underlying (slice_of hT ht), Result.andThen_ok, el, ec, asInt, asIntOf, Sem.run_pure, run_typeInfo hinf, hinfb, w1, w2]
            have g5 : ¬ (281474976710656 < (k.bytes : Int) * m) := by omega
            by_cases hz0 : m.toNat * k.size = 0
            · have hr0 := hrange #[] (fun h => absurd hz0 h)
              simp only [hz0] at hr0
              simp [g1, g2, g3, run_askRoom, size_of hT hk, hz0, newRow]
              rw [if_neg g5, ← hr0]
              simp
            · have hr0 := hrange z.cells (fun _ => rfl)
              simp [g1, g2, g3, run_askRoom, size_of hT hk, hz0, newRow, hz]
              rw [if_neg g5, hr0]
          · have := blk_fresh (hrel.mono hr') w.heap.size k.size e false
            simpa [repl_length, hzl] using this
        · cases h
      · cases h
    · cases h
  · split at h
    · rename_i t _ kt et a1 b1 c1 ht
      cases h
      refine ⟨.map (some w.heap.size), { w with heap := w.heap.push (.map #[] 0) }, ⟨w.heap.size, 0, 0, 0, 1⟩, .map #[] 0, ?_, ⟨rfl, rfl⟩, rfl, fun r' _ => ⟨rfl, fun i p hp => by simp at hp⟩, fun r' n _ hn => .map hn⟩
      simp [execOp, ho, Instr.makeMap]
    · cases h
  · split at h
    · rename_i sT dT x _ _ _ a1 b1 c1 e a2 b2 c2 str hs hd hx
      split at h
      · rename_i a3 b3 c3 hk
        split at h
        · rename_i hsz
          cases h
          have ex : a.eval x = .string str := by have := ev_rel he hx; generalize a.eval x = y at this; cases this; rfl
          obtain ⟨_, de, _, _, _, _, _, _, _, hue, hde, _⟩ := hT e _ hk
          have hue' : P.underlying e = some (.int .u8) := by
            cases de <;> first | exact hde.elim | (cases hde; exact hue)
          let cap := (Question.appendCap str.size 0 e).cut (w.tape w.drawn (.appendCap str.size 0 e))
          have hcap : str.size ≤ cap := by simp only [cap, Question.cut]; omega
          have hl : LRel r (strCells str) (strCells str) := by
            have : ∀ l : List UInt8, LRel r (l.map fun b => Value.int .u8 b.toNat) (l.map fun b => Value.int .u8 b.toNat) := by
              intro l
              induction l with
              | nil => exact .nil
              | cons x l ih => exact .cons (.int _ _) ih
            exact this _
          let cs : Array Value := (str.data.map fun b => Value.int .u8 b.toNat) ++ Array.replicate (cap - str.size) (.int .u8 0)
          have hcs : cs.size = cap := by
            have : str.data.size = str.size := rfl
            simp [cs]; omega
          refine ⟨.slice (some ⟨w.heap.size, 0, none⟩) str.size cap, { w with heap := w.heap.push (.cells cs e (cap, cap + 1)), drawn := w.drawn + 1 },
            ⟨w.heap.size, 0, cap, str.size, 1⟩, .cells cs e (cap, cap + 1), ?_, ⟨rfl, rfl⟩, rfl, fun r' hr' => ?_, fun r' q _ hn => ?_⟩
          · simp only [execOp, ho, ex, convert, Sem.run_bind, run_underlying (string_of hT hs), run_underlying (slice_of hT hd), run_underlying hue', Result.andThen_ok]
            have hf : (Question.appendCap str.size 0 e).forced = false := rfl
            simp only [Conv.stringToBytes, Sem.run_bind, run_choose, hf, Bool.false_eq_true, if_false, Result.andThen_ok, newRow, run_newObj, Sem.run_pure]
            have hsh : ({ w with heap := w.heap.push (.cells cs e (0, 0)), drawn := w.drawn + 1 } : World).shape? w.heap.size = some (e, cs.size) := by
              simp [World.shape?]
            have hmk : (markStringish ⟨w.heap.size, 0, none⟩).run P { w with heap := w.heap.push (.cells cs e (0, 0)), drawn := w.drawn + 1 } =
                .ok () { w with heap := w.heap.push (.cells cs e (cap, cap + 1)), drawn := w.drawn + 1 } := by
              simp only [markStringish, Sem.run_bind, run_shape, hsh, Result.andThen_ok, run_freeze, World.freeze]
              rw [if_neg (by omega)]
              simp only [modify_push, hcs, beq_self_eq_true, if_true]
            exact congrArg (fun q : Result PUnit => (q.andThen fun _ w' => Result.ok (Value.slice (some ⟨w.heap.size, 0, none⟩) str.size cap) w').andThen fun a w' => Result.ok (Next.value a) w') hmk
          · refine ⟨rfl, by simp [strCells], by simpa using hcap, by simp [hcs], fun h => by simp at h, fun i v hv => ?_, fun _ o _ h2 => ?_⟩
            · have hll : (strCells str)[i]? = some v := hv
              have hlt : i < str.data.size := by
                have := (List.getElem?_eq_some_iff.1 hll).1
                simpa [strCells] using this
              have e1 : cs[0 + i]? = some v := by
                simp only [Nat.zero_add, cs]
                rw [Array.getElem?_append_left (by simpa using hlt)]
                have : (strCells str)[i]? = (str.data.map fun b => Value.int .u8 b.toNat)[i]? := by
                  simp [strCells]
                rw [← this]; exact hll
              refine ⟨v, e1, ?_⟩
              obtain ⟨hlt', rfl⟩ := List.getElem?_eq_some_iff.1 hll
              exact (hl.mono hr').get i hlt' hlt'
            · simp at h2 ⊢; omega
          · have := VRel.slice (r := r') (n := q) (o := 0) (len := str.size) (cap := str.size) (cap' := cap) hn rfl (Nat.le_refl _) hcap (by simp) (by simp) (fun h => by simp at h)
            simpa using this
        · cases h
      · cases h
    · cases h
  · cases h
end
end Go.Mir

