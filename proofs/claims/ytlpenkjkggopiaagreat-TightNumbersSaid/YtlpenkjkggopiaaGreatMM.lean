/- The rules by which code is walked over abstract states. By a session's own hand. -/
import Derived.Test.YtlpenkjkggopiaaGreatML
import Derived.OrdersIn
import Derived.RangeFuncRecord
set_option linter.unusedSimpArgs false
set_option linter.unusedVariables false
namespace Go.Mir

/-- whatever function, whatever depth; in a round of a loop, or in none -/
def WR (ro : Option Nat) : Fence := { Fence.wide with round := ro }
theorem wr_inRound (ro : Option Nat) (l : Nat) : (WR ro).inRound l = WR (some l) := rfl
theorem calls_in {ro : Option Nat} {n : Nat} {P : Program} {f : FuncId} {args : Array Value} {w : World} {R : Ending → World → Prop} (h : Calls P f args w R) : CallsIn (WR ro) n P f args w R :=
  (callsIn_wide (n := n)).2 h
theorem calls_out {ro : Option Nat} {n : Nat} {P : Program} {f : FuncId} {args : Array Value} {w : World} {R : Ending → World → Prop} (h : CallsIn (WR ro) n P f args w R) : Calls P f args w R :=
  (callsIn_wide (n := n)).1 h
theorem wpin {ro : Option Nat} {P : Program} {o : Oper} {a : Act} {w : World} {K : Act → World → Prop} {Q : Exit → Act → World → Prop} {res : Result Next} (hd : ∀ c, o.op ≠ .defer c)
    (hrun : (execOp a.eval o).run P w = res) (h : o.uponIn (WR ro) 0 P a K Q res) : o.wpIn (WR ro) 0 P a w K Q :=
  ⟨fun _ _ => trivial, by rw [Oper.semAt_eq _ _ _ hd, hrun]; exact h⟩

/-- a frame's own part of the ghost may grow -/
structure Ghost.le (G G' : Ghost) : Prop where
  N : G'.N = G.N
  n0 : G'.n0 = G.n0
  r0 : G'.r0 = G.r0
  ro : G'.ro = G.ro
  prot : ∀ b o, G.prot b = some o → G'.prot b = some o
  marks : ∀ D ∈ G'.marks, D ∈ G.marks ∨ G.prot D = none
  ext : G'.prot.ext = G.prot.ext
theorem Ghost.le_refl (G : Ghost) : G.le G := ⟨rfl, rfl, rfl, rfl, fun _ _ h => h, fun _ h => .inl h, rfl⟩
theorem Ghost.le_trans {A B C : Ghost} (h : A.le B) (h' : B.le C) : A.le C :=
  ⟨h'.N.trans h.N, h'.n0.trans h.n0, h'.r0.trans h.r0, h'.ro.trans h.ro, fun b o q => h'.prot b o (h.prot b o q), fun D hD => by
    rcases h'.marks D hD with q | q
    · exact h.marks D q
    · refine .inr ?_
      cases hA : A.prot D with
      | none => rfl
      | some o => (rw [h.prot D o hA] at q; cases q), h'.ext.trans h.ext⟩

/-- what the walk is to end in, told of the model's own states -/
def Post (G : Ghost) (Q : Exit → Env → Heap → Prop) : Exit → Act → World → Prop := fun e a w => ∃ G' ρ h, G.le G' ∧ Q e ρ h ∧ Rel G' ρ h a w

/-- where a piece of code comes to, from an abstract state -/
def AWP (P : Program) (N : Nat) (c : Code) (Q : Exit → Env → Heap → Prop) (ρ : Env) (h : Heap) : Prop :=
  ∀ G a w, G.N = N → Rel G ρ h a w → c.wpIn (WR G.ro) 0 P (Post G Q) a w

/-- a loop's frame with what is yielded -/
def putPs (ρ : Env) : List Tmp → List Value → Env
  | t :: ts, v :: vs => putPs (put ρ t v) ts vs
  | _, _ => ρ

def isFn (P : Program) (f : FuncId) : Bool := match P.funcs[f]? with
  | some fn => fn.body.isSome && fn.name != "runtime.NumGoroutine"
  | none => false

/-- where a round comes to -/
def RoundPost (n : Nat) (ρ : Env) (N : Nat) (ps : Array Tmp) (assign body : Code) (K : Value → Heap → Prop) : Exit → Env → Heap → Prop := fun e _ h => h.get n = some .dead ∧ match e with
  | .normal => K (.bool true) (h.set n (.loop ρ N ps assign body .ready none))
  | .ret => K (.bool false) (h.set n (.loop ρ N ps assign body .done (some .ret)))
  | .exit i => K (.bool false) (h.set n (.loop ρ N ps assign body .done (some (.exit i))))
  | _ => False

/-- what a loop's round comes to -/
def AYield (P : Program) (n : Nat) (args : Array Value) (h : Heap) (K : Value → Heap → Prop) : Prop :=
  ∃ ρ N ps assign body, h.get n = some (.loop ρ N ps assign body .ready none) ∧ args.size = ps.size ∧ (ps.all fun t => Nat.blt t N) = true ∧
    AWP P N assign (fun e ρ1 h1 => e = .normal ∧ AWP P N body (RoundPost n ρ N ps assign body K) ρ1 h1) (putPs ρ ps.toList args.toList) (h.set n .dead)

/-- which loop's round a call asks for, and with what -/
def ayield (ρ : Env) (o : Oper) : Option (Nat × Array Value) :=
  match o.op with
  | .call c => match c.callee, evs ρ c.args.toList with
    | .value f, some vs => match ev ρ f with
      | some (.func (.yield n) fs cs) => if fs.size = 0 ∧ cs.size = 0 then some (n, vs.toArray) else none
      | _ => none
    | _, _ => none
  | _ => none

/-- which function a call enters, and with what -/
def acallee (ρ : Env) (o : Oper) : Option (FuncId × Array Value) :=
  match o.op with
  | .call c => match c.callee, evs ρ c.args.toList with
    | .value f, some vs => match ev ρ f with
      | some (.func (.func g) fs cs) => if fs.size = 0 then some (g, vs.toArray ++ cs) else none
      | _ => none
    | _, _ => none
  | _ => none

def Heap.bump (h : Heap) : Heap := ⟨h.get, h.next + 1⟩

abbrev Facts := Nat → Blk → Prop
def Facts.le (F : Facts) (h : Heap) : Prop := ∀ n k, F n k → h.get n = some k
/-- all that a heap holds -/
def Heap.all (h : Heap) : Facts := fun n k => h.get n = some k

/-- a function without a body: what the model does there -/
def AExt (P : Program) (f : FuncId) (args : Array Value) (h : Heap) (K : Value → Heap → Prop) : Prop :=
  ∀ prot r args' w, HRel prot r h w → VRel r (.tuple args) (.tuple args') →
    ∃ v v' r' h' w', (callFunc f args').run P w = .ok (.value v') w' ∧ K v h' ∧ VRel r' v v' ∧ (∀ n, n < h.next → r' n = r n) ∧ h.next ≤ h'.next ∧ HRel prot r' h' w'
theorem AExt.mono {P : Program} {f : FuncId} {args : Array Value} {h : Heap} {K K' : Value → Heap → Prop} (hc : AExt P f args h K) (hk : ∀ v h', K v h' → K' v h') : AExt P f args h K' :=
  fun prot r args' w hh ha => let ⟨v, v', r', h', w', e, k, rest⟩ := hc prot r args' w hh ha; ⟨v, v', r', h', w', e, hk _ _ k, rest⟩
/-- a call, of whatever function -/
def ACallX (P : Program) (f : FuncId) (args : Array Value) (h : Heap) (K : Value → Heap → Prop) : Prop := (isFn P f = true ∧ ACall P f args h K) ∨ AExt P f args h K
theorem ACallX.mono {P : Program} {f : FuncId} {args : Array Value} {h : Heap} {K K' : Value → Heap → Prop} (hc : ACallX P f args h K) (hk : ∀ v h', K v h' → K' v h') : ACallX P f args h K' :=
  hc.imp (fun q => ⟨q.1, q.2.mono hk⟩) fun q => q.mono hk

/-- a call that computes out of what some rows hold, and leaves all as it is -/
def AReads (P : Program) (f : FuncId) (args : Array Value) (F : Facts) (v : Value) : Prop :=
  closed v = true ∧ ∀ h, F.le h → ACallX P f args h fun u h' => u = v ∧ h' = h

/-- an operation whose value hangs on its operands, and on what some rows hold, alone -/
inductive POp (P : Program) (tab : Tab) (o : Oper) (ρ : Env) (F : Facts) (v : Value) : Prop
  | val (h : aval tab ρ o = some v)
  | rd {n : Nat} {f : Blk → Option Value} {k : Blk} (h : ard tab ρ o = some (n, f)) (hk : F n k) (hv : f k = some v)
  | call {f : FuncId} {args : Array Value} (h : acallee ρ o = some (f, args)) (hc : AReads P f args F v)

/-- what an operation may do -/
inductive WStep (P : Program) (tab : Tab) (o : Oper) (ρ : Env) (h : Heap) (K : Value → Heap → Prop) : Prop
  | pop {v : Value} (hp : POp P tab o ρ h.all v) (hk : K v h)
  | alloc {mk : Nat → Value} {blk : Blk} (ha : aalloc tab ρ o = some (mk, blk)) (hk : (∀ n, h.next ≤ n → h.get n = none) → K (mk h.next) (h.bump.set h.next blk))
  | eff {v : Value} {h' : Heap} (ha : aeff tab ρ h.next o h.bump = some (v, h')) (hk : (∀ n, h.next ≤ n → h.get n = none) → K v h')
  | call {f : FuncId} {args : Array Value} (ha : acallee ρ o = some (f, args)) (hc : ACallX P f args h K)
  | yield {n : Nat} {args : Array Value} (ha : ayield ρ o = some (n, args)) (hc : AYield P n args h K)

theorem AWP.mono {P : Program} {N : Nat} {c : Code} {Q Q' : Exit → Env → Heap → Prop} {ρ : Env} {h : Heap} (hc : AWP P N c Q ρ h) (hq : ∀ e ρ h, Q e ρ h → Q' e ρ h) : AWP P N c Q' ρ h :=
  fun G a w hN hr => wpIn_mono (hc G a w hN hr) fun _ _ _ ⟨G', ρ', h', l, q, r⟩ => ⟨G', ρ', h', l, hq _ _ _ q, r⟩

theorem AYield.mono {P : Program} {n : Nat} {args : Array Value} {h : Heap} {K K' : Value → Heap → Prop} (hw : AYield P n args h K) (hk : ∀ v h', K v h' → K' v h') : AYield P n args h K' := by
  obtain ⟨ρ, N, ps, assign, body, h1, h2, h3, h4⟩ := hw
  refine ⟨ρ, N, ps, assign, body, h1, h2, h3, h4.mono fun e ρ1 h1 ⟨e1, h5⟩ => ⟨e1, h5.mono fun e ρ2 h2 ⟨h6, h7⟩ => ⟨h6, ?_⟩⟩⟩
  cases e <;> first | exact hk _ _ h7 | exact h7

theorem WStep.mono {P : Program} {tab : Tab} {o : Oper} {ρ : Env} {h : Heap} {K K' : Value → Heap → Prop} (hw : WStep P tab o ρ h K) (hk : ∀ v h', K v h' → K' v h') : WStep P tab o ρ h K' := by
  cases hw with
  | pop hp h => exact .pop hp (hk _ _ h)
  | alloc ha h => exact .alloc ha fun q => hk _ _ (h q)
  | eff ha h => exact .eff ha fun q => hk _ _ (h q)
  | call ha hc => exact .call ha (hc.mono hk)
  | yield ha hc => exact .yield ha (hc.mono hk)

/-- is the operation done? -/
def wantedA (ops : Array Oper) (o : Oper) (ρ : Env) : Option Bool :=
  match o.guard with
  | none => some true
  | some (j, want) => match (ops[j]?).bind (·.dst) with
    | some d => match ρ d with
      | .bool b => some (b == want)
      | .chan _ => none
      | _ => some false
    | none => some false

section
variable {P : Program} {tab : Tab}

theorem HRel.bump {prot : Prot} {r : Ren} {h : Heap} {w : World} (hh : HRel prot r h w) : HRel prot r h.bump w :=
  ⟨hh.dom, fun n hn => hh.fresh n (by simp only [Heap.bump] at hn; omega), hh.blk, hh.inj, hh.safe, hh.keep, hh.ext⟩

theorem wanted_eq {ops : Array Oper} {o : Oper} {ρ : Env} {r : Ren} {a : Act} (he : ERel r ρ a.tmps) {b : Bool} (hb : wantedA ops o ρ = some b) : Region.wanted o (yielded ops a.tmps) = b := by
  unfold wantedA at hb
  unfold Region.wanted
  cases hg : o.guard with
  | none => rw [hg] at hb; cases hb; rfl
  | some g =>
    obtain ⟨j, want⟩ := g
    rw [hg] at hb
    simp only [yielded] at hb ⊢
    cases hd : (ops[j]?).bind (·.dst) with
    | none => rw [hd] at hb; cases hb; cases want <;> rfl
    | some d =>
      rw [hd] at hb
      simp only [Option.bind_some] at hb ⊢
      have h := he d
      have hg : a.tmps.getD d undef = (a.tmps[d]?).getD undef := by simp
      rw [hg] at h
      cases hq : a.tmps[d]? with
      | none =>
        rw [hq] at h
        simp only [Option.getD_none] at h
        generalize ρ d = y at h hb
        cases h <;> cases hb <;> cases want <;> rfl
      | some v =>
        rw [hq] at h
        simp only [Option.getD_some] at h
        generalize ρ d = y at h hb
        cases h with
        | junk hj => cases hb
        | bool b => cases hb; cases b <;> cases want <;> rfl
        | _ => cases hb; cases want <;> rfl

theorem run_call {ρ : Env} {r : Ren} {a : Act} (he : ERel r ρ a.tmps) {o : Oper} {f : FuncId} {args : Array Value} (h : acallee ρ o = some (f, args)) :
    ∃ args', VRel r (.tuple args) (.tuple args') ∧ ∀ w, (execOp a.eval o).run P w = (callFunc f args').run P w := by
  unfold acallee at h
  split at h
  · rename_i c ho
    split at h
    · rename_i g vs hc hvs
      split at h
      · rename_i q fs cs hg
        split at h
        · rename_i hfs
          cases h
          have hfs' : fs = #[] := Array.eq_empty_of_size_eq_zero hfs
          subst hfs'
          have hl := evs_rel he hvs
          have hfr := ev_rel he hg
          generalize hq : a.eval g = g' at hfr
          cases hfr with
          | func _ hs hcc =>
            rename_i cs'
            have hle : LRel r (vs ++ cs.toList) (c.args.toList.map a.eval ++ cs'.toList) := hl.append (LRel.of_agg (.agg hs hcc))
            refine ⟨c.args.map a.eval ++ cs', ?_, fun w => ?_⟩
            · have := hle.tuple
              have e1 : (vs ++ cs.toList).toArray = vs.toArray ++ cs := by apply Array.ext'; simp
              have e2 : (c.args.toList.map a.eval ++ cs'.toList).toArray = c.args.map a.eval ++ cs' := by apply Array.ext'; simp
              rw [e1, e2] at this
              exact this
            · simp only [execOp, ho, resolve, hc, hq, Deferred.ofValue, Sem.run_bind, Sem.run_pure, Result.andThen_ok, invoke, Array.empty_append]
        · cases h
      · cases h
    · cases h
  · cases h

theorem callFunc_enter {f : FuncId} (hf : isFn P f = true) (args : Array Value) (w : World) : (callFunc f args).run P w = .ok (.enter f args) w := by
  unfold isFn at hf
  split at hf
  · rename_i fn hfn
    simp only [Bool.and_eq_true, bne_iff_ne, ne_eq] at hf
    have g4 : fn.body.isNone = false := by cases hb : fn.body <;> simp_all
    simp only [callFunc, Sem.run_bind, run_program, hfn, Result.andThen_ok]
    simp [hf.2, g4]
  · cases hf

theorem Rel.put {G : Ghost} {ρ : Env} {h h' : Heap} {a : Act} {w' : World} {r r' : Ren} (h1 : G.holds a.defers) (h2 : a.tmps.size = G.N) (h3 : ∀ n, n < G.n0 → r n = G.r0 n) (h4 : G.n0 ≤ h.next) (h5 : ERel r ρ a.tmps)
    (hle : r.le r') (hsame : ∀ n, n < h.next → r' n = r n) (hn : h.next ≤ h'.next) (hh : HRel G.prot r' h' w') {d : Option Nat} (hd : okDst G.N d = true) {v v' : Value} (hv : VRel r' v v') :
    Rel G (putO ρ d v) h' (a.put d v') w' :=
  ⟨by rw [Act.put_def]; exact h1, by rw [Act.put_size]; exact h2, r', fun n hlt => by rw [hsame n (by omega)]; exact h3 n hlt, by omega, (h5.mono hle).putO (by rw [h2]; exact hd) hv, hh⟩

structure Good (P : Program) (tab : Tab) : Prop where
  tabOK : TabOK P tab
  small : ∀ t k, tab t = some k → k.bytes ≤ 256
  mixed : P.follows .mixedOrders = true

theorem closed1_eq {r : Ren} {x y : Value} (h : Value.closed1 x = true) (hv : VRel r x y) : y = x := by
  unfold Value.closed1 at h
  split at h <;> first | (cases h; done) | (cases hv; rfl) | skip
  rename_i f fs cs
  simp only [Bool.and_eq_true, beq_iff_eq] at h
  obtain ⟨h1, h2⟩ := h
  have e1 : cs = #[] := Array.eq_empty_of_size_eq_zero h2
  subst e1
  cases hv with
  | func _ hs _ =>
    congr 1
    exact Array.eq_empty_of_size_eq_zero (by simpa using hs.symm)

theorem agg_closed_eq {r : Ren} {ds : Array Value} {y : Value} (h : ds.all Value.closed1 = true) (hv : VRel r (.agg ds) y) : y = .agg ds := by
  cases hv with
  | agg hs hc =>
    rw [Array.all_eq_true] at h
    congr 1
    exact Array.ext hs.symm fun i h1 h2 => closed1_eq (h i h2) (hc i h2 h1)

theorem closed_eq {r : Ren} {x y : Value} (h : closed x = true) (hv : VRel r x y) : y = x := by
  unfold closed at h
  split at h
  · rename_i cs
    cases hv with
    | agg hs hc =>
      rw [Array.all_eq_true] at h
      congr 1
      exact Array.ext hs.symm fun i h1 h2 => closed1_eq (h i h2) (hc i h2 h1)
  · rename_i cs
    cases hv with
    | tuple hs hc =>
      rw [Array.all_eq_true] at h
      congr 1
      refine Array.ext hs.symm fun i h1 h2 => ?_
      have hi := h i h2
      have hv := hc i h2 h1
      split at hi
      · rename_i ds he
        exact (agg_closed_eq hi (he ▸ hv)).trans he.symm
      · exact closed1_eq hi hv
  · exact closed1_eq h hv

/-- an operation whose value hangs on its operands alone can be done, here and now -/
theorem POp.run (hg : Good P tab) {G : Ghost} {ρ : Env} {h : Heap} {a : Act} {w : World} (hr : Rel G ρ h a w) {o : Oper} (hd : okDst G.N o.dst = true) {F : Facts} (hF : F.le h) {v : Value} (hp : POp P tab o ρ F v) :
    ∃ v', Rel G (putO ρ o.dst v) h (a.put o.dst v') w ∧ ∀ (K : Act → World → Prop) (Q : Exit → Act → World → Prop), (∀ w', Rel G (putO ρ o.dst v) h (a.put o.dst v') w' → K (a.put o.dst v') w') → o.wpIn (WR G.ro) 0 P a w K Q := by
  obtain ⟨h1, h2, r, h3, h4, h5, hh⟩ := hr
  cases hp with
  | val hv =>
    obtain ⟨v', hv', hrun⟩ := aval_run hg.tabOK h5 hv
    have := Rel.put h1 h2 h3 h4 h5 (Ren.le_refl _) (fun _ _ => rfl) (Nat.le_refl _) hh hd hv'
    refine ⟨v', this, fun K Q hk => ?_⟩
    exact wpin (fun c hc => by simp [aval, hc] at hv) (hrun w) (hk w this)
  | rd hn hk hv =>
    obtain ⟨v', hv', hrun⟩ := ard_run hg.tabOK h5 hn hh (hF _ _ hk) hv
    have := Rel.put h1 h2 h3 h4 h5 (Ren.le_refl _) (fun _ _ => rfl) (Nat.le_refl _) hh hd hv'
    refine ⟨v', this, fun K Q hk => ?_⟩
    exact wpin (fun c hc => by simp [ard, hc] at hn) hrun (hk w this)
  | call hc hq =>
    obtain ⟨hcl, hcall⟩ := hq
    have hvv := rel_closed r hcl
    have := Rel.put h1 h2 h3 h4 h5 (Ren.le_refl _) (fun _ _ => rfl) (Nat.le_refl _) hh hd hvv
    refine ⟨v, this, fun K Q hk => ?_⟩
    obtain ⟨args', hargs, hrun⟩ := run_call (P := P) h5 hc
    have hnd : ∀ c, o.op ≠ .defer c := fun c hc' => by simp [acallee, hc'] at hc
    rcases hcall h hF with ⟨hf, hcall⟩ | hext
    · refine wpin hnd ((hrun w).trans (callFunc_enter hf _ _)) ⟨fun q => (by cases q), calls_in ?_⟩
      refine (hcall G.prot r args' w hh hargs).mono fun e w' ⟨u, u', r', h', he, ⟨hu, hh'⟩, hvr, hrr, _, hrel⟩ => ?_
      subst he hu hh'
      have e1 : u' = u := closed_eq hcl hvr
      subst e1
      have le : r.le r' := fun n l e => by rw [hrr n (hh.lt n l e)]; exact e
      exact hk w' (Rel.put h1 h2 h3 h4 h5 le hrr (Nat.le_refl _) hrel hd hvr)
    · obtain ⟨u, u', r', h', w', he, ⟨hu, hh'⟩, hvr, hrr, _, hrel⟩ := hext G.prot r args' w hh hargs
      subst hu hh'
      have e1 : u' = u := closed_eq hcl hvr
      subst e1
      have le : r.le r' := fun n l e => by rw [hrr n (hh.lt n l e)]; exact e
      exact wpin hnd ((hrun w).trans he) (hk w' (Rel.put h1 h2 h3 h4 h5 le hrr (Nat.le_refl _) hrel hd hvr))

/-! ### rounds -/
/-- a block in which no living row lies is turned -/
def repl1 (prot : Prot) (b : Nat) (o : Obj) : Prot := ⟨fun x => if x = b then some (o, true) else prot x, prot.ext⟩

theorem repl1_same (prot : Prot) (b : Nat) (o : Obj) : repl1 prot b o b = some (o, true) := by simp [repl1]

/-- a row is killed, and its block is kept as it is -/
theorem HRel.lock {prot : Prot} {r : Ren} {h : Heap} {w : World} (hh : HRel prot r h w) {n : Nat} {l : Loc} {k : Blk} {obj : Obj} (hr : r n = some l) (hk : h.get n = some k) (hwr : k.wr = true) (ho : w.heap[l.b]? = some obj) :
    HRel (repl1 prot l.b obj) r (h.set n .dead) w := by
  have h1 := hh.kill (n := n) (by rw [hk]; simp)
  refine ⟨h1.dom, h1.fresh, h1.blk, h1.inj, fun b o hb => ?_, fun b o hb m l' q hm hlb hq => ?_, h1.ext⟩
  · simp only [repl1] at hb
    split at hb
    · rename_i e; subst e; cases hb; exact ho
    · exact hh.safe b o hb
  · simp only [repl1] at hb
    split at hb
    · rename_i e
      subst e
      cases hb
      by_cases hmn : m = n
      · subst hmn; rw [Heap.set_same] at hq; cases hq; exact ⟨rfl, fun _ => rfl⟩
      · rw [Heap.set_ne _ _ hmn] at hq
        have hd : q = .dead := Classical.byContradiction fun hd => hh.inj n m l l' k q (Ne.symm hmn) hr hm hk hq hwr hd hlb.symm
        subst hd; exact ⟨rfl, fun _ => rfl⟩
    · exact h1.keep b o hb m l' q hm hlb hq

/-- a hidden block is turned -/
theorem HRel.hidden {prot : Prot} {r : Ren} {h : Heap} {w w' : World} (hh : HRel prot r h w) {b : Nat} {o o' : Obj} (hb : prot b = some (o, true)) (hsame : ∀ x, x ≠ b → w'.heap[x]? = w.heap[x]?) (ho : w'.heap[b]? = some o') (ex : (w'.os, w'.output) = (w.os, w.output) := by rfl) :
    HRel (repl1 prot b o') r h w' := by
  refine ⟨hh.dom, hh.fresh, fun m l k hm hk => ?_, hh.inj, fun x q hx => ?_, fun x q hx m l k hm hlx hk => ?_, ex.trans hh.ext⟩
  · by_cases e : l.b = b
    · have := (hh.keep b _ hb m l k hm e hk).2 rfl
      subst this; trivial
    · rw [hsame _ e]; exact hh.blk m l k hm hk
  · simp only [repl1] at hx
    split at hx
    · rename_i e; subst e; cases hx; exact ho
    · rename_i e; rw [hsame _ e]; exact hh.safe x q hx
  · simp only [repl1] at hx
    split at hx
    · rename_i e; subst e; cases hx
      have := (hh.keep x _ hb m l k hm hlx hk).2 rfl
      subst this; exact ⟨rfl, fun _ => rfl⟩
    · exact hh.keep x q hx m l k hm hlx hk

/-- a hidden block is a row's again -/
theorem HRel.unlock {prot prot' : Prot} {r : Ren} {h : Heap} {w : World} (hh : HRel prot' r h w) (he : prot'.ext = prot.ext) (hp : ∀ b o, prot b = some o → prot' b = some o) {n : Nat} {l : Loc} {k : Blk} {obj : Obj} (hr : r n = some l) (hn : h.get n = some .dead)
    (hl : prot' l.b = some (obj, true)) (hnone : prot l.b = none) (hb : BlkRel r l k (some obj)) : HRel prot r (h.set n k) w := by
  have hw : w.heap[l.b]? = some obj := hh.safe _ _ hl
  have apartL : ∀ m l' k', m ≠ n → r m = some l' → h.get m = some k' → k' ≠ .dead → l'.b ≠ l.b := fun m l' k' _ h1 h2 h3 e => h3 ((hh.keep l.b _ hl m l' k' h1 e h2).2 rfl)
  refine ⟨fun m => ?_, fun m hm => ?_, fun m l' k' hm hk' => ?_, fun m m' l1 l2 k1 k2 hmm h1 h2 g1 g2 hwr hd => ?_, fun b o hb' => hh.safe b o (hp b o hb'), fun b o hb' m l' k' hm hlb hk' => ?_, hh.ext.trans he⟩
  · by_cases q : m = n
    · subst q; simp [Heap.set, hr]
    · rw [Heap.set_ne _ _ q]; exact hh.dom m
  · have : m ≠ n := fun e => by
      subst e
      have := hh.fresh m hm
      rw [hn] at this; cases this
    rw [Heap.set_ne _ _ this]; exact hh.fresh m hm
  · by_cases q : m = n
    · subst q
      rw [hr] at hm; cases hm
      rw [Heap.set_same] at hk'; cases hk'
      rw [hw]; exact hb
    · rw [Heap.set_ne _ _ q] at hk'; exact hh.blk m l' k' hm hk'
  · by_cases q : m = n
    · subst q
      rw [hr] at h1; cases h1
      rw [Heap.set_ne _ _ (Ne.symm hmm)] at g2
      exact (apartL m' l2 k2 (Ne.symm hmm) h2 g2 hd).symm
    · rw [Heap.set_ne _ _ q] at g1
      by_cases q' : m' = n
      · subst q'
        rw [hr] at h2; cases h2
        exact apartL m l1 k1 q h1 g1 (by intro e; subst e; simp [Blk.wr] at hwr)
      · rw [Heap.set_ne _ _ q'] at g2
        exact hh.inj m m' l1 l2 k1 k2 hmm h1 h2 g1 g2 hwr hd
  · by_cases q : m = n
    · subst q
      rw [hr] at hm; cases hm
      rw [← hlb, hnone] at hb'; cases hb'
    · rw [Heap.set_ne _ _ q] at hk'; exact hh.keep b o (hp b o hb') m l' k' hm hlb hk'

/-- less is kept as it is -/
theorem HRel.less {prot prot' : Prot} {r : Ren} {h : Heap} {w : World} (hh : HRel prot' r h w) (he : prot'.ext = prot.ext) (hp : ∀ b o, prot b = some o → prot' b = some o) : HRel prot r h w :=
  ⟨hh.dom, hh.fresh, hh.blk, hh.inj, fun b o hb => hh.safe b o (hp b o hb), fun b o hb => hh.keep b o (hp b o hb), hh.ext.trans he⟩

theorem run_ayield {ρ : Env} {r : Ren} {a : Act} (he : ERel r ρ a.tmps) {o : Oper} {n : Nat} {args : Array Value} (h : ayield ρ o = some (n, args)) :
    ∃ l args', r n = some l ∧ VRel r (.tuple args) (.tuple args') ∧ ∀ w, (execOp a.eval o).run P w = (Instr.yield l.b args').run P w := by
  unfold ayield at h
  split at h
  · rename_i c ho
    split at h
    · rename_i g vs hc hvs
      split at h
      · rename_i q fs cs hg
        split at h
        · rename_i hfs
          cases h
          obtain ⟨h1, h2⟩ := hfs
          have h1 : fs = #[] := Array.eq_empty_of_size_eq_zero h1
          have h2 : cs = #[] := Array.eq_empty_of_size_eq_zero h2
          subst h1 h2
          have hl := evs_rel he hvs
          have hfr := ev_rel he hg
          generalize hq : a.eval g = g' at hfr
          cases hfr with
          | yield hn =>
            rename_i l
            refine ⟨l, c.args.map a.eval, hn, ?_, fun w => ?_⟩
            · have := hl.tuple
              have e2 : (c.args.toList.map a.eval).toArray = c.args.map a.eval := by apply Array.ext'; simp
              rw [e2] at this
              exact this
            · simp only [execOp, ho, resolve, hc, hq, Deferred.ofValue, Sem.run_bind, Sem.run_pure, Result.andThen_ok, invoke]
              simp
        · cases h
      · cases h
    · cases h
  · cases h

theorem putPs_rel {r : Ren} : ∀ (ps : List Tmp) (vs vs' : List Value) (ρ : Env) (tmps : Array Value), ERel r ρ tmps → LRel r vs vs' → (∀ t ∈ ps, t < tmps.size) →
    ERel r (putPs ρ ps vs) ((ps.zip vs').foldl (fun tmps (t, a) => tmps.setIfInBounds t a) tmps) ∧ ((ps.zip vs').foldl (fun tmps (t, a) => tmps.setIfInBounds t a) tmps).size = tmps.size
  | [], vs, vs', ρ, tmps, he, _, _ => by cases vs <;> exact ⟨he, rfl⟩
  | t :: ts, vs, vs', ρ, tmps, he, hl, hlt => by
    cases hl with
    | nil => exact ⟨he, rfl⟩
    | cons hv hl =>
      have := putPs_rel ts _ _ _ _ (he.put (hlt t (by simp)) hv) hl (fun q hq => by simpa using hlt q (by simp [hq]))
      refine ⟨this.1, ?_⟩
      have h2 := this.2
      simpa using h2

theorem yield_run {G : Ghost} {ρ : Env} {h : Heap} {a : Act} {w : World} (hr : Rel G ρ h a w) {o : Oper} (hd : okDst G.N o.dst = true) {n : Nat} {args : Array Value} (ha : ayield ρ o = some (n, args)) {K : Value → Heap → Prop} (hc : AYield P n args h K)
    (Q : Exit → Act → World → Prop) : o.wpIn (WR G.ro) 0 P a w (fun a' w' => ∃ v h', K v h' ∧ Rel G (putO ρ o.dst v) h' a' w' ∧ ∃ u, a' = a.put o.dst u) Q := by
  obtain ⟨h1, h2, r, h3, h4, h5, hh⟩ := hr
  obtain ⟨l, args', hn, hargs, hrun⟩ := run_ayield (P := P) h5 ha
  obtain ⟨ρ0, N, ps, assign, body, g1, g2, g3, g4⟩ := hc
  have hb := hh.blk n l _ hn g1
  generalize ho : w.heap[l.b]? = ob at hb
  cases ob with
  | none => exact hb.elim
  | some ob =>
  cases ob <;> first | exact hb.elim | skip
  rename_i rec
  obtain ⟨b1, b2, rfl, rfl, rfl, b6, b7⟩ := hb
  have hsz : args'.size = rec.params.size := by
    have : args.size = args'.size := by cases hargs; assumption
    omega
  have hy := run_yield (P := P) ho hsz
  have hnd : ∀ c, o.op ≠ .defer c := fun c hc => by simp [ayield, hc] at ha
  refine wpin hnd ((hrun w).trans hy) ⟨fun q => (by cases q), ?_⟩
  -- the round
  have hpl : ∀ t ∈ rec.params.toList, t < rec.tmps.size := fun t ht => by
    rw [Array.all_eq_true] at g3
    obtain ⟨i, hi, rfl⟩ := List.getElem_of_mem ht
    have := g3 i (by simpa using hi)
    rw [b1]; simpa using this
  have hfold : (rec.params.zip args').foldl (fun tmps (t, a) => tmps.setIfInBounds t a) rec.tmps = (rec.params.toList.zip args'.toList).foldl (fun tmps (t, a) => tmps.setIfInBounds t a) rec.tmps := by
    rw [← Array.foldl_toList]; simp
  have hps := putPs_rel (r := r) rec.params.toList args.toList args'.toList ρ0 rec.tmps b2 (by
    cases hargs with
    | tuple hs hx => exact LRel.of_agg (.agg hs hx)) hpl
  rw [← hfold] at hps
  have hp0 : G.prot l.b = none := by
    cases hp : G.prot l.b with
    | none => rfl
    | some q => have := (hh.keep _ q hp n l _ hn rfl g1).1; cases this
  have hlock := hh.lock hn g1 rfl ho
  let G1 : Ghost := ⟨repl1 G.prot l.b (.loop rec), r, h.next, N, some l.b, []⟩
  have hnlt : n < h.next := hh.lt n l hn
  have hG1 : Rel G1 (putPs ρ0 rec.params.toList args.toList) (h.set n .dead) { tmps := (rec.params.zip args').foldl (fun tmps (t, a) => tmps.setIfInBounds t a) rec.tmps, defers := [] } w := by
    refine ⟨⟨rfl, List.nodup_nil, fun D hD => (by cases hD), fun q hq => ?_⟩, hps.2.trans b1, r, fun _ _ => rfl, Nat.le_refl _, hps.1, hlock⟩
    cases hq
    exact ⟨rec, by simp [G1, repl1]⟩
  refine roundIn_of_wpIn (l := l.b) trivial ?_
  refine wpIn_mono (g4 G1 _ w rfl hG1) ?_
  rintro e a1 w1 ⟨G2, ρ1, hp1, hle1, ⟨rfl, g5⟩, k1, k2, r2, k3, k4, k5, k6⟩
  have hl1 : w1.heap[l.b]? = some (.loop rec) := k6.safe _ _ (hle1.prot _ _ (repl1_same G.prot l.b (.loop rec)))
  refine ⟨_, run_beginRound hl1 b6, ?_⟩
  have hlt1 : l.b < w1.heap.size := (Array.getElem?_eq_some_iff.1 hl1).1
  have k7 := k6.hidden (w' := w1.putObj l.b (.loop { rec with state := .busy })) (hle1.prot _ _ (repl1_same G.prot l.b (.loop rec))) (fun x hx => World.putObj_heap_other hx) (World.putObj_heap_same hlt1)
  let G3 : Ghost := ⟨repl1 G2.prot l.b (.loop { rec with state := .busy }), G2.r0, G2.n0, G2.N, G2.ro, G2.marks⟩
  have hro2 : G2.ro = some l.b := hle1.ro
  have hD2 : ∀ D ∈ G2.marks, D ≠ l.b := fun D hD e => by
    have q1 := k1.2.2.1 D hD
    have q2 : G2.prot l.b = some (.loop rec, true) := hle1.prot _ _ (repl1_same G.prot l.b (.loop rec))
    rw [e, q2] at q1; cases q1
  have hG3 : Rel G3 ρ1 hp1 a1 (w1.putObj l.b (.loop { rec with state := .busy })) := by
    refine ⟨⟨k1.1, k1.2.1, fun D hD => ?_, fun q hq => ?_⟩, k2, r2, k3, k4, k5, k7⟩
    · simp only [G3, repl1, hD2 D hD, if_false]; exact k1.2.2.1 D hD
    · have : q = l.b := by
        have : G2.ro = some q := hq
        rw [hro2] at this; cases this; rfl
      subst this
      exact ⟨{ rec with state := .busy }, by simp [G3, repl1]⟩
  have hN3 : G3.N = N := hle1.N
  have hwp := g5 G3 a1 _ hN3 hG3
  have e3 : WR G3.ro = (WR G.ro).inRound l.b := by show WR G2.ro = _; rw [hro2]; rfl
  rw [e3] at hwp
  refine wpIn_mono hwp ?_
  rintro e a4 w4 ⟨G4, ρ4, hp4, hle4, ⟨m1, m2⟩, j1, j2, r4, j3, j4, j5, j6⟩
  have hn0 : G4.n0 = h.next := hle4.n0.trans hle1.n0
  have hr4 : ∀ q, q < h.next → r4 q = r q := fun q hq => by
    rw [j3 q (by rw [hn0]; exact hq), hle4.r0]; show G2.r0 q = _; rw [hle1.r0]
  have hl4 : G4.prot l.b = some (.loop { rec with state := .busy }, true) := hle4.prot _ _ (repl1_same G2.prot l.b _)
  have hw4 : w4.heap[l.b]? = some (.loop { rec with state := .busy }) := j6.safe _ _ hl4
  have hlt4 : l.b < w4.heap.size := (Array.getElem?_eq_some_iff.1 hw4).1
  have le : r.le r4 := fun q lq e => by rw [hr4 q (hh.lt q lq e)]; exact e
  have fin : ∀ (jump : Option Code), K (.bool jump.isNone) (hp4.set n (.loop ρ0 N rec.params rec.assign rec.body (if jump.isNone then .ready else .done) jump)) →
      ∃ v w', (Instr.endRound l.b jump).run P w4 = .ok v w' ∧ ∃ u h', K u h' ∧ Rel G (putO ρ o.dst u) h' (a.put o.dst v) w' ∧ ∃ x, a.put o.dst v = a.put o.dst x := by
    intro jump hK
    have he := run_endRound (P := P) jump hw4
    refine ⟨_, _, he, _, _, hK, ?_, _, rfl⟩
    have q1 := j6.hidden (w' := w4.putObj l.b (.loop { rec with state := if jump.isNone then .ready else .done, pending := jump })) hl4 (fun x hx => World.putObj_heap_other hx) (World.putObj_heap_same hlt4)
    have q2 : HRel G.prot r4 (hp4.set n (.loop ρ0 N rec.params rec.assign rec.body (if jump.isNone then .ready else .done) jump)) (w4.putObj l.b (.loop { rec with state := if jump.isNone then .ready else .done, pending := jump })) := by
      refine q1.unlock (l := l) (obj := .loop { rec with state := if jump.isNone then .ready else .done, pending := jump }) (show (repl1 G4.prot l.b _).ext = G.prot.ext from hle4.ext.trans hle1.ext) (fun b x hb => ?_) (by rw [hr4 n hnlt]; exact hn) m1 (by simp [repl1]) hp0 ⟨b1, fun i => (b2 i).mono le, rfl, rfl, rfl, rfl, rfl⟩
      have hbl : b ≠ l.b := fun e => by rw [e, hp0] at hb; cases hb
      simp only [repl1, hbl, if_false]
      refine hle4.prot b x ?_
      simp only [G3, repl1, hbl, if_false]
      refine hle1.prot b x ?_
      simp only [G1, repl1, hbl, if_false]
      exact hb
    exact Rel.put h1 h2 h3 h4 h5 le hr4 (by simp only [Heap.set]; omega) q2 hd (.bool _)
  cases e with
  | normal => exact fin none m2
  | ret => exact fin (some .ret) m2
  | exit i => exact fin (some (.exit i)) m2
  | _ => exact m2.elim

/-- an operation, done in the heap as it is -/
theorem WStep.run2 (hg : Good P tab) {G : Ghost} {ρ : Env} {h : Heap} {a : Act} {w : World} (hr : Rel G ρ h a w) {o : Oper} (hd : okDst G.N o.dst = true) {K : Value → Heap → Prop} (hw : WStep P tab o ρ h K)
    (Q : Exit → Act → World → Prop) : o.wpIn (WR G.ro) 0 P a w (fun a' w' => ∃ v h', K v h' ∧ Rel G (putO ρ o.dst v) h' a' w' ∧ ∃ u, a' = a.put o.dst u) Q := by
  cases hw with
  | pop hp hk =>
    obtain ⟨v', hrel, hwp⟩ := hp.run hg hr hd (fun _ _ e => e)
    exact hwp _ _ fun w' h' => ⟨_, _, hk, h', _, rfl⟩
  | alloc ha hk =>
    obtain ⟨h1, h2, r, h3, h4, h5, hh⟩ := hr
    obtain ⟨v', w', l, obj, hrun, ⟨hheap, hext⟩, hlb, hblk, hv⟩ := aalloc_run hg.tabOK h5 ha w
    have hf : h.bump.get h.next = none := hh.fresh _ (Nat.le_refl _)
    have hrn : r h.next = none := (hh.dom _).2 (hh.fresh _ (Nat.le_refl _))
    have le : r.le (r.add h.next l) := Ren.le_add hrn l
    have hh' := (hh.bump).alloc hf (by simp [Heap.bump]) hheap hlb (hblk _ le) hext
    refine wpin (fun c hc => by simp [aalloc, hc] at ha) hrun ?_
    refine ⟨_, _, hk hh.fresh, Rel.put h1 h2 h3 h4 h5 le (fun n hn => Ren.add_ne _ _ (by omega)) (by simp [Heap.set, Heap.bump]) hh' hd (hv _ _ le (Ren.add_same _ _ _)), _, rfl⟩
  | eff ha hk =>
    obtain ⟨h1, h2, r, h3, h4, h5, hh⟩ := hr
    have hf : h.bump.get h.next = none := hh.fresh _ (Nat.le_refl _)
    obtain ⟨v', w', r', hrun, hv, hle, hsame, hrel, hn⟩ := aeff_run hg.tabOK hg.small h5 ha hh.bump hf (by simp [Heap.bump])
    have := Rel.put h1 h2 h3 h4 h5 hle (fun n hn => hsame n (by omega)) (by rw [hn]; simp [Heap.bump]) hrel hd hv
    have hnd : ∀ c, o.op ≠ .defer c := fun c hc => by simp [aeff, hc] at ha
    rcases hrun with hrun | ⟨hrun, rfl⟩
    · exact wpin hnd hrun ⟨_, _, hk hh.fresh, this, _, rfl⟩
    · exact wpin hnd hrun ⟨_, _, hk hh.fresh, this, _, rfl⟩
  | call ha hc =>
    obtain ⟨h1, h2, r, h3, h4, h5, hh⟩ := hr
    obtain ⟨args', hargs, hrun⟩ := run_call (P := P) h5 ha
    have hnd : ∀ c, o.op ≠ .defer c := fun c hc' => by simp [acallee, hc'] at ha
    rcases hc with ⟨hf, hc⟩ | hext
    · refine wpin hnd ((hrun w).trans (callFunc_enter hf _ _)) ⟨fun q => (by cases q), calls_in ?_⟩
      refine (hc G.prot r args' w hh hargs).mono fun e w' ⟨u, u', r', h', he, hk, hvr, hrr, hnn, hrel⟩ => ?_
      subst he
      have le : r.le r' := fun n l e => by rw [hrr n (hh.lt n l e)]; exact e
      exact ⟨u, h', hk, Rel.put h1 h2 h3 h4 h5 le hrr hnn hrel hd hvr, _, rfl⟩
    · obtain ⟨u, u', r', h', w', he, hk, hvr, hrr, hnn, hrel⟩ := hext G.prot r args' w hh hargs
      have le : r.le r' := fun n l e => by rw [hrr n (hh.lt n l e)]; exact e
      exact wpin hnd ((hrun w).trans he) ⟨u, h', hk, Rel.put h1 h2 h3 h4 h5 le hrr hnn hrel hd hvr, _, rfl⟩
  | yield ha hc => exact yield_run hr hd ha hc Q

theorem WStep.run (hg : Good P tab) {G : Ghost} {ρ : Env} {h : Heap} {a : Act} {w : World} (hr : Rel G ρ h a w) {o : Oper} (hd : okDst G.N o.dst = true) {K : Value → Heap → Prop} (hw : WStep P tab o ρ h K)
    (Q : Exit → Act → World → Prop) : o.wpIn (WR G.ro) 0 P a w (fun a' w' => ∃ v h', K v h' ∧ Rel G (putO ρ o.dst v) h' a' w') Q :=
  Oper.wpIn_mono (fun _ _ ⟨v, h', k, r, _⟩ => ⟨v, h', k, r⟩) (hw.run2 hg hr hd Q)
end
end Go.Mir

