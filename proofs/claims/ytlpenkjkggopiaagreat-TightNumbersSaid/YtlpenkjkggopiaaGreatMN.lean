/- Code over abstract states: sequences, branches, loops, regions, functions. By a session's own hand. -/
import Derived.Test.YtlpenkjkggopiaaGreatMM
set_option linter.unusedSimpArgs false
set_option linter.unusedVariables false
namespace Go.Mir

def Then (next : Env → Heap → Prop) (Q : Exit → Env → Heap → Prop) : Exit → Env → Heap → Prop
  | .normal, ρ, h => next ρ h
  | e, ρ, h => Q e ρ h

def InBlock (id : Nat) (Q : Exit → Env → Heap → Prop) : Exit → Env → Heap → Prop
  | .exit i, ρ, h => if i = id then Q .normal ρ h else Q (.exit i) ρ h
  | e, ρ, h => Q e ρ h

section
variable {P : Program} {tab : Tab} {N : Nat} {Q : Exit → Env → Heap → Prop} {ρ : Env} {h : Heap}

theorem awp_skip (hq : Q .normal ρ h) : AWP P N .skip Q ρ h := fun G _ _ _ hr => wpIn_skip ⟨G, ρ, h, G.le_refl, hq, hr⟩
theorem awp_label {l : Nat} (hq : Q .normal ρ h) : AWP P N (.label l) Q ρ h := fun G _ _ _ hr => wpIn_label ⟨G, ρ, h, G.le_refl, hq, hr⟩
theorem awp_exit {id : Nat} (hq : Q (.exit id) ρ h) : AWP P N (.exit id) Q ρ h := fun G _ _ _ hr => wpIn_exit ⟨G, ρ, h, G.le_refl, hq, hr⟩
theorem awp_ret (hq : Q .ret ρ h) : AWP P N .ret Q ρ h := fun G _ _ _ hr => wpIn_ret ⟨G, ρ, h, G.le_refl, hq, hr⟩

theorem awp_seq {x y : Code} (hx : AWP P N x (Then (AWP P N y Q) Q) ρ h) : AWP P N (.seq x y) Q ρ h := by
  intro G a w hN hr
  refine wpIn_seq (wpIn_mono (hx G a w hN hr) ?_)
  rintro e a' w' ⟨G', ρ', h', l, q, r⟩
  cases e with
  | normal =>
    have := q G' a' w' (l.N.trans hN) r
    rw [l.ro] at this
    exact wpIn_mono this fun e a w ⟨G2, ρ2, h2, l2, q2, r2⟩ => ⟨G2, ρ2, h2, Ghost.le_trans l l2, q2, r2⟩
  | _ => exact ⟨G', ρ', h', l, q, r⟩

theorem cond_bool {G : Ghost} {a : Act} {w : World} (hr : Rel G ρ h a w) {c : Operand} {b : Bool} (hc : ev ρ c = some (.bool b)) : a.eval c = .bool b := by
  obtain ⟨_, _, r, _, _, he, _⟩ := hr
  have := ev_rel he hc
  generalize a.eval c = y at this
  cases this; rfl

theorem awp_cond {c : Operand} {x y : Code} {b : Bool} (hc : ev ρ c = some (.bool b)) (ht : b = true → AWP P N x Q ρ h) (hf : b = false → AWP P N y Q ρ h) : AWP P N (.cond c x y) Q ρ h := by
  intro G a w hN hr
  exact wpIn_cond_split (cond_bool hr hc) (fun e => ht e G a w hN hr) (fun e => hf e G a w hN hr)

theorem awp_block {id : Nat} {c : Code} (hc : AWP P N c (InBlock id Q) ρ h) : AWP P N (.block id c) Q ρ h := by
  intro G a w hN hr
  refine wpIn_block (wpIn_mono (hc G a w hN hr) ?_)
  rintro e a' w' ⟨G', ρ', h', l, q, r⟩
  cases e with
  | exit i =>
    simp only [InBlock] at q
    by_cases hi : i = id
    · simp only [hi, if_true] at q; simp only [Exit.inBlock, hi, if_true]; exact ⟨G', ρ', h', l, q, r⟩
    · simp only [hi, if_false] at q; simp only [Exit.inBlock, hi, if_false]; exact ⟨G', ρ', h', l, q, r⟩
  | _ => exact ⟨G', ρ', h', l, q, r⟩

/-- a loop: what holds at the head of each round, and what each round lowers -/
theorem awp_loop {c : Code} (I : Nat → Env → Heap → Prop) (n : Nat) (h0 : I n ρ h) (hround : ∀ n ρ h, I n ρ h → AWP P N c (Then (fun ρ' h' => ∃ m, m < n ∧ I m ρ' h') Q) ρ h) : AWP P N (.loop c) Q ρ h := by
  -- the measure stands in no slot: it is found by choice
  have key : ∀ n ρ h G a w, G.N = N → I n ρ h → Rel G ρ h a w → ∀ (b : Frame) (k : List Item) (cs : List Frame), b.roundOf = (WR G.ro).round → (WR G.ro).fn b.fn → (WR G.ro).room (cs.length + 1 + 0) →
      ∃ e a' w', Post G Q e a' w' ∧ ArrivesIn (Machine.fenced P (WR G.ro)) P (lone (b.atR a (.code c :: .inLoop c :: k)) cs w) b k cs e a' w' := by
    intro n
    induction n using Nat.strongRecOn with
    | _ n ih =>
      intro ρ h G a w hN hI hr b k cs hb1 hb2 hb3
      obtain ⟨e, a₁, w₁, ⟨G₁, ρ₁, h₁, l₁, hq, hr₁⟩, harr⟩ := hround n ρ h hI G a w hN hr b (.inLoop c :: k) cs hb1 hb2 hb3
      have pass : ∀ e, e ≠ .normal → ArrivesIn (Machine.fenced P (WR G.ro)) P (lone (b.atR a (.code c :: .inLoop c :: k)) cs w) b (.inLoop c :: k) cs e a₁ w₁ →
          ArrivesIn (Machine.fenced P (WR G.ro)) P (lone (b.atR a (.code c :: .inLoop c :: k)) cs w) b k cs e a₁ w₁ := fun e he h' =>
        .pass (x := .inLoop c) rfl (fun _ _ => .inl he) h'
      cases e with
      | normal =>
        obtain ⟨m, hm, hI₁⟩ := hq
        obtain ⟨e₂, a₂, w₂, ⟨G₂, ρ₂, h₂, l₂, hq₂, hr₂⟩, harr₂⟩ := ih m hm ρ₁ h₁ G₁ a₁ w₁ (l₁.N.trans hN) hI₁ hr₁ b k cs (by rw [l₁.ro]; exact hb1) trivial (by rw [l₁.ro]; exact hb3)
        rw [l₁.ro] at harr₂
        exact ⟨e₂, a₂, w₂, ⟨G₂, ρ₂, h₂, Ghost.le_trans l₁ l₂, hq₂, hr₂⟩, .of_steps (StepsIn.trans harr (.one (fenced_calm (fr := b.atR a₁ (.inLoop c :: k)) hb2 hb3 rfl) stepR_inLoop)) harr₂⟩
      | _ => exact ⟨_, a₁, w₁, ⟨G₁, ρ₁, h₁, l₁, hq, hr₁⟩, pass _ (by simp) harr⟩
  intro G a w hN hr b k cs hb1 hb2 hb3
  obtain ⟨e, a', w', hq, harr⟩ := key n ρ h G a w hN h0 hr b k cs hb1 hb2 hb3
  exact ⟨e, a', w', hq, .of_steps (.one (fenced_calm (fr := b.atR a (.code (.loop c) :: k)) hb2 hb3 rfl) stepR_loop) harr⟩

/-- a scope that nothing jumps in -/
theorem awp_scope {c : Code} (hc : AWP P N c (fun e ρ h => (∀ l, e ≠ .goto l) ∧ Q e ρ h) ρ h) : AWP P N (.scope c) Q ρ h := by
  intro G a w hN hr b k cs hb1 hb2 hb3
  have s1 : step P (lone (b.atR a (.code (.scope c) :: k)) cs w) = .next (lone (b.atR a (.code c :: .inScope c :: k)) cs w) := step_lone_go (by simp [stepG, stepG.exec, Frame.atR])
  have first : StepsIn (Machine.fenced P (WR G.ro)) P (lone (b.atR a (.code (.scope c) :: k)) cs w) (lone (b.atR a (.code c :: .inScope c :: k)) cs w) :=
    .one (fenced_calm (fr := b.atR a (.code (.scope c) :: k)) hb2 hb3 rfl) s1
  obtain ⟨e, a', w', ⟨G', ρ', h', l, ⟨hg, hq⟩, r⟩, harr⟩ := hc G a w hN hr b (.inScope c :: k) cs hb1 hb2 hb3
  refine ⟨e, a', w', ⟨G', ρ', h', l, hq, r⟩, .of_steps first ?_⟩
  cases e with
  | normal =>
    have s2 : step P (lone (b.atR a' (.inScope c :: k)) cs w') = .next (lone (b.atR a' k) cs w') := step_lone_go (by simp [stepG, stepG.exec, Frame.atR])
    exact StepsIn.trans harr (.one (fenced_calm (fr := b.atR a' (.inScope c :: k)) hb2 hb3 rfl) s2)
  | exit id => exact ⟨fun k' hk => harr.1 k' hk, fun hr hk => harr.2 hr hk⟩
  | goto l => exact absurd rfl (hg l)
  | ret => exact harr
  | panic ch => exact harr
  | outgrown => exact harr

/-! ### regions in the order of the text -/

/-- operations, one behind the other -/
def AOps (P : Program) (tab : Tab) (N : Nat) (ops : Array Oper) (K : Env → Heap → Prop) : List Oper → Env → Heap → Prop
  | [], ρ, h => K ρ h
  | o :: l, ρ, h => okDst N o.dst = true ∧ ∃ b, wantedA ops o ρ = some b ∧
      (b = true → WStep P tab o ρ h fun v h' => AOps P tab N ops K l (putO ρ o.dst v) h') ∧ (b = false → AOps P tab N ops K l (putO ρ o.dst undef) h)

theorem putO_skip {G : Ghost} {a : Act} {w : World} (hr : Rel G ρ h a w) {d : Option Nat} (hd : okDst G.N d = true) : Rel G (putO ρ d undef) h (a.put d undef) w := by
  obtain ⟨h1, h2, r, h3, h4, h5, hh⟩ := hr
  exact Rel.put h1 h2 h3 h4 h5 (Ren.le_refl _) (fun _ _ => rfl) (Nat.le_refl _) hh hd (.tuple rfl (fun i h1 _ => by simp at h1))

theorem aops_run (hg : Good P tab) {ops : Array Oper} {K : Env → Heap → Prop} {G : Ghost} (hN : G.N = N) {Qc : Exit → Act → World → Prop} (hK : ∀ ρ h a w, K ρ h → Rel G ρ h a w → Qc .normal a w) :
    ∀ (is : List Nat) (os : List Oper) (ρ : Env) (h : Heap) (a : Act) (w : World), is.map (fun i => ops[i]?) = os.map some → AOps P tab N ops K os ρ h → Rel G ρ h a w → wpOpsIn (WR G.ro) 0 P ops Qc is a w := by
  intro is
  induction is with
  | nil =>
    intro os ρ h a w he ho hr
    cases os with
    | nil => exact hK _ _ _ _ ho hr
    | cons o os => simp at he
  | cons i is ih =>
    intro os ρ h a w he ho hr
    cases os with
    | nil => simp at he
    | cons o os =>
      simp only [List.map_cons, List.cons.injEq] at he
      obtain ⟨h1, h2⟩ := he
      obtain ⟨hd, b, hb, ht, hf⟩ := ho
      subst hN
      have hw : Region.wanted o (yielded ops a.tmps) = b := by
        obtain ⟨_, _, r, _, _, he, _⟩ := hr
        exact wanted_eq he hb
      simp only [wpOpsIn, h1, hw]
      cases b with
      | true =>
        simp only [if_true]
        exact Oper.wpIn_mono (fun a' w' ⟨v, h', hk, hr'⟩ => ih os _ _ a' w' h2 hk hr') ((ht rfl).run hg hr hd Qc)
      | false =>
        simp only [Bool.false_eq_true, if_false]
        exact ⟨fun _ _ => trivial, ih os _ _ _ w h2 (hf rfl) (putO_skip hr hd)⟩

theorem range_map (ops : Array Oper) : (List.range ops.size).map (fun i => ops[i]?) = ops.toList.map some := by
  apply List.ext_getElem?
  intro i
  by_cases hi : i < ops.size
  · simp [hi]
  · simp [hi]

theorem awp_region (hg : Good P tab) {id : Nat} {ops : Array Oper} (ho : AOps P tab N ops (Q .normal) ops.toList ρ h) : AWP P N (.region id ops false) Q ρ h := by
  intro G a w hN hr
  exact wpIn_region (aops_run hg hN (fun ρ' h' a' w' hk hr' => ⟨G, ρ', h', G.le_refl, hk, hr'⟩) _ _ ρ h a w (range_map ops) ho hr)

/-! ### loops over a function -/
/-- a block that no row lies in: kept as it is -/
theorem HRel.keepNew {prot : Prot} {r : Ren} {h : Heap} {w : World} (hh : HRel prot r h w) {b : Nat} {obj : Obj} (hb : ∀ n l k, r n = some l → h.get n = some k → k ≠ .dead → l.b ≠ b) (ho : w.heap[b]? = some obj) :
    HRel (repl1 prot b obj) r h w := by
  refine ⟨hh.dom, hh.fresh, hh.blk, hh.inj, fun x o hx => ?_, fun x o hx n l k hn hl hk => ?_, hh.ext⟩
  · simp only [repl1] at hx
    split at hx
    · rename_i e; subst e; cases hx; exact ho
    · exact hh.safe x o hx
  · simp only [repl1] at hx
    split at hx
    · rename_i e; subst e
      have : k = .dead := Classical.byContradiction fun hd => hb n l k hn hk hd hl
      subst this; exact ⟨rfl, fun _ => rfl⟩
    · exact hh.keep x o hx n l k hn hl hk

theorem HRel.push {prot : Prot} {r : Ren} {h : Heap} {w w' : World} (hh : HRel prot r h w) {obj : Obj} (hw : w'.heap = w.heap.push obj) (ex : (w'.os, w'.output) = (w.os, w.output) := by rfl) : HRel prot r h w' := by
  have old : ∀ b o, w.heap[b]? = some o → w'.heap[b]? = some o := fun b o e => by
    obtain ⟨hlt, _⟩ := Array.getElem?_eq_some_iff.1 e
    rw [hw, Array.getElem?_push, if_neg (by omega)]; exact e
  refine ⟨hh.dom, hh.fresh, fun n l k h1 h2 => ?_, hh.inj, fun b o hb => old b o.1 (hh.safe b o hb), hh.keep, ex.trans hh.ext⟩
  have hb := hh.blk n l k h1 h2
  by_cases hd : k = .dead
  · subst hd; trivial
  · obtain ⟨o, ho⟩ := blk_some hb hd
    rw [ho] at hb; rw [old _ _ ho]; exact hb

theorem HRel.low {prot : Prot} {r : Ren} {h : Heap} {w : World} (hh : HRel prot r h w) {n : Nat} {l : Loc} {k : Blk} (hn : r n = some l) (hk : h.get n = some k) (hd : k ≠ .dead) : l.b < w.heap.size := by
  obtain ⟨o, ho⟩ := blk_some (hh.blk n l k hn hk) hd
  exact (Array.getElem?_eq_some_iff.1 ho).1

/-- what a loop over a function comes to, once the function has ended -/
def LoopPost (n : Nat) (ρ : Env) (Q : Exit → Env → Heap → Prop) : Value → Heap → Prop := fun _ h' =>
  ∃ ρ1 N1 ps1 a1 b1 st pend, h'.get n = some (.loop ρ1 N1 ps1 a1 b1 st pend) ∧ st ≠ .busy ∧ match pend with
    | none => Q .normal ρ (h'.set n .dead)
    | some .ret => Q .ret ρ (h'.set n .dead)
    | some (.exit i) => Q (.exit i) ρ (h'.set n .dead)
    | _ => False

theorem awp_rangeFunc {f : Operand} {ps : Array Tmp} {assign body : Code} {g : FuncId} {cs : Array Value} (hf : ev ρ f = some (.func (.func g) #[] cs)) (hfn : isFn P g = true)
    (hc : ACall P g (#[.func (.yield h.next) #[] #[]] ++ cs) (h.bump.set h.next (.loop ρ N ps assign body .ready none)) (LoopPost h.next ρ Q)) : AWP P N (.rangeFunc f ps assign body) Q ρ h := by
  intro G a w hN hr
  obtain ⟨h1, h2, r, h3, h4, h5, hh⟩ := hr
  have hfr := ev_rel h5 hf
  generalize hq : a.eval f = f' at hfr
  cases hfr with
  | func _ hcs hcc =>
  rename_i cs'
  refine wpIn_rangeFunc fun fn _ => ?_
  -- what is laid
  have laid : ∃ (l : Nat) (mark : List Deferred) (w1 : World) (rec : Loop) (G1 : Ghost), (Instr.enterLoop fn a.tmps ps assign body G.ro).run P w = .ok (l, mark) w1 ∧ w1.heap[l]? = some (.loop rec) ∧
      rec.tmps = a.tmps ∧ rec.params = ps ∧ rec.assign = assign ∧ rec.body = body ∧ rec.state = .ready ∧ rec.pending = none ∧ G.le G1 ∧ HRel G1.prot r h w1 ∧ G1.prot l = none ∧ (∀ n l' k, r n = some l' → h.get n = some k → k ≠ .dead → l'.b ≠ l) ∧
      G1.holds (mark ++ a.defers) := by
    cases hro : G.ro with
    | some l0 =>
      obtain ⟨r0, hr0⟩ := h1.2.2.2 l0 hro
      have hl0 := hh.safe _ _ hr0
      have hrun : (Instr.enterLoop fn a.tmps ps assign body (some l0)).run P w =
          .ok (w.heap.size, []) (w.alloc (.loop { state := .ready, pending := none, fn, tmps := a.tmps, params := ps, assign, body, defers := r0.defers })) := by
        unfold Instr.enterLoop
        simp only [Sem.run_bind, run_getLoop hl0, run_newObj_alloc, Result.andThen, Sem.run_pure]
      refine ⟨_, _, _, _, G, hrun, World.alloc_heap_new _ _, rfl, rfl, rfl, rfl, rfl, rfl, G.le_refl, hh.push (obj := .loop { state := .ready, pending := none, fn, tmps := a.tmps, params := ps, assign, body, defers := r0.defers }) rfl, ?_, fun n l' k e1 e2 e3 => ?_, h1⟩
      · cases hp : G.prot w.heap.size with
        | none => rfl
        | some o => have := (Array.getElem?_eq_some_iff.1 (hh.safe _ _ hp)).1; omega
      · have := hh.low e1 e2 e3; omega
    | none =>
      have hD : G.prot w.heap.size = none := by
        cases hp : G.prot w.heap.size with
        | none => rfl
        | some o => have := (Array.getElem?_eq_some_iff.1 (hh.safe _ _ hp)).1; omega
      have hL : G.prot (w.heap.size + 1) = none := by
        cases hp : G.prot (w.heap.size + 1) with
        | none => rfl
        | some o => have := (Array.getElem?_eq_some_iff.1 (hh.safe _ _ hp)).1; omega
      have low : ∀ D ∈ G.marks, D < w.heap.size := fun D hD => (Array.getElem?_eq_some_iff.1 (hh.safe _ _ (h1.2.2.1 D hD))).1
      let G1 : Ghost := ⟨repl1 G.prot w.heap.size (.deferred (some [])), G.r0, G.n0, G.N, none, w.heap.size :: G.marks⟩
      have h6 := (hh.push (w' := w.alloc (.deferred (some []))) (obj := .deferred (some [])) rfl).keepNew (b := w.heap.size) (fun n l' k e1 e2 e3 => by have := hh.low e1 e2 e3; omega) (World.alloc_heap_new _ _)
      refine ⟨_, _, _, _, G1, run_enterLoop_outer _ _ _ _ _, (by have := World.alloc_heap_new (w.alloc (.deferred (some []))) (.loop { state := .ready, pending := none, fn, tmps := a.tmps, params := ps, assign, body, defers := w.heap.size }); rwa [World.size_alloc] at this), rfl, rfl, rfl, rfl, rfl, rfl, ?_, h6.push (obj := .loop { state := .ready, pending := none, fn, tmps := a.tmps, params := ps, assign, body, defers := w.heap.size }) rfl, ?_, fun n l' k e1 e2 e3 => ?_, ?_⟩
      · refine ⟨rfl, rfl, rfl, hro.symm, fun b o hb => ?_, fun D hDm => ?_, rfl⟩
        · have : b ≠ w.heap.size := fun e => by rw [e, hD] at hb; cases hb
          simp only [G1, repl1, this, if_false]; exact hb
        · rcases List.mem_cons.1 hDm with rfl | hDm
          · exact .inr hD
          · exact .inl hDm
      · simp [G1, repl1, hL]
      · have := hh.low e1 e2 e3; omega
      · refine ⟨by rw [h1.1]; rfl, List.nodup_cons.2 ⟨fun q => by have := low _ q; omega, h1.2.1⟩, fun D hDm => ?_, fun q hq => by cases hq⟩
        rcases List.mem_cons.1 hDm with rfl | hDm
        · exact repl1_same _ _ _
        · have : D ≠ w.heap.size := by have := low D hDm; omega
          simp only [G1, repl1, this, if_false]; exact h1.2.2.1 D hDm
  obtain ⟨l, mark, w1, rec, G1, i1, i2, i3, i4, i5, i6, i7, i8, i9, i10, i11, i12, i13⟩ := laid
  have hx : HRel G1.prot (r.add h.next ⟨l, 0, 0, 0, 0⟩) (h.bump.set h.next (.loop ρ N ps assign body .ready none)) w1 := by
    have hrn : r h.next = none := (hh.dom _).2 (hh.fresh _ (Nat.le_refl _))
    have hle : r.le (r.add h.next ⟨l, 0, 0, 0, 0⟩) := Ren.le_add hrn _
    have hb : BlkRel (r.add h.next ⟨l, 0, 0, 0, 0⟩) ⟨l, 0, 0, 0, 0⟩ (.loop ρ N ps assign body .ready none) (some (.loop rec)) :=
      ⟨by rw [i3, h2]; exact hN, by rw [i3]; exact h5.mono hle, i4, i5, i6, i7, i8⟩
    have hfr : h.bump.get h.next = none := hh.fresh _ (Nat.le_refl _)
    have i10b := i10.bump
    refine ⟨fun m => ?_, fun m hm => ?_, fun m l' k' hm hk' => ?_, fun m m' l1 l2 k1 k2 hmm e1 e2 g1 g2 hwr hd => ?_, i10.safe, fun b o hb' m l' k' hm hlb hk' => ?_, i10.ext⟩
    · by_cases q : m = h.next
      · subst q; simp [Ren.add, Heap.set]
      · rw [Ren.add_ne _ _ q, Heap.set_ne _ _ q]; exact i10b.dom m
    · rw [Heap.set_ne _ _ (by simp only [Heap.set, Heap.bump] at hm; omega)]; exact i10b.fresh m hm
    · by_cases q : m = h.next
      · subst q
        rw [Ren.add_same] at hm; cases hm
        rw [Heap.set_same] at hk'; cases hk'
        rw [i2]; exact hb
      · rw [Ren.add_ne _ _ q] at hm; rw [Heap.set_ne _ _ q] at hk'
        exact (i10b.blk m l' k' hm hk').mono hle
    · by_cases q : m = h.next
      · subst q
        rw [Ren.add_same] at e1; cases e1
        rw [Ren.add_ne _ _ (Ne.symm hmm)] at e2; rw [Heap.set_ne _ _ (Ne.symm hmm)] at g2
        exact fun e => i12 m' l2 k2 e2 g2 hd e.symm
      · rw [Ren.add_ne _ _ q] at e1; rw [Heap.set_ne _ _ q] at g1
        by_cases q' : m' = h.next
        · subst q'
          rw [Ren.add_same] at e2; cases e2
          exact i12 m l1 k1 e1 g1 (by intro e; subst e; simp [Blk.wr] at hwr)
        · rw [Ren.add_ne _ _ q'] at e2; rw [Heap.set_ne _ _ q'] at g2
          exact i10b.inj m m' l1 l2 k1 k2 hmm e1 e2 g1 g2 hwr hd
    · by_cases q : m = h.next
      · subst q
        rw [Ren.add_same] at hm; cases hm
        rw [← hlb] at hb'
        simp only at hb'
        rw [i11] at hb'; cases hb'
      · rw [Ren.add_ne _ _ q] at hm; rw [Heap.set_ne _ _ q] at hk'
        exact i10b.keep b o hb' m l' k' hm hlb hk'
  have hrn : r h.next = none := (hh.dom _).2 (hh.fresh _ (Nat.le_refl _))
  have hle : r.le (r.add h.next ⟨l, 0, 0, 0, 0⟩) := Ren.le_add hrn _
  have hres : (resolve a.eval (rangeCall f l) 0).run P w1 = .ok { target := .fn (.func g) cs', args := #[.func (.yield l) #[] #[]] } w1 := by
    simp only [resolve, hq]
    simp [go_sem, Act.eval]
  refine ⟨l, mark, w1, _, w1, g, #[.func (.yield l) #[] #[]] ++ cs', w1, i1, hres, fun _ _ => trivial, ?_, fun q => (by cases q), ?_⟩
  · simp [invoke, go_sem, callFunc_enter hfn]
  · refine calls_in ?_
    have hargs : VRel (r.add h.next ⟨l, 0, 0, 0, 0⟩) (.tuple (#[.func (.yield h.next) #[] #[]] ++ cs)) (.tuple (#[.func (.yield l) #[] #[]] ++ cs')) := by
      have l1 : LRel (r.add h.next ⟨l, 0, 0, 0, 0⟩) [Value.func (.yield h.next) #[] #[]] [Value.func (.yield l) #[] #[]] := .cons (.yield (l := ⟨l, 0, 0, 0, 0⟩) (Ren.add_same _ _ _)) .nil
      have := (l1.append ((LRel.of_agg (.agg hcs hcc)).mono hle)).tuple
      have e1 : ([Value.func (.yield h.next) #[] #[]] ++ cs.toList).toArray = #[.func (.yield h.next) #[] #[]] ++ cs := by apply Array.ext'; simp
      have e2 : ([Value.func (.yield l) #[] #[]] ++ cs'.toList).toArray = #[.func (.yield l) #[] #[]] ++ cs' := by apply Array.ext'; simp
      rw [e1, e2] at this
      exact this
    refine (hc G1.prot _ _ w1 hx hargs).mono ?_
    rintro e w3 ⟨v, v', r', h', rfl, ⟨ρ1, N1, ps1, a1, b1', st, pend, hg, hst, hpend⟩, _, hrr, hnn, hx'⟩
    simp only [Heap.set, Heap.bump] at hrr hnn
    have hrl : r' h.next = some ⟨l, 0, 0, 0, 0⟩ := by rw [hrr _ (Nat.lt_succ_self _), Ren.add_same]
    have hb := hx'.blk _ _ _ hrl hg
    generalize ho : w3.heap[(⟨l, 0, 0, 0, 0⟩ : Loc).b]? = ob at hb
    cases ob with
    | none => exact hb.elim
    | some ob =>
    cases ob <;> first | exact hb.elim | skip
    rename_i rec3
    obtain ⟨b1, b2, b3, b4, b5, rfl, rfl⟩ := hb
    have hend := run_endLoop (P := P) ho hst
    have hlt : l < w3.heap.size := (Array.getElem?_eq_some_iff.1 ho).1
    have hx2 : HRel G1.prot r' (h'.set h.next .dead) (w3.putObj l (.loop { rec3 with state := .exhausted })) :=
      hx'.turn (l := ⟨l, 0, 0, 0, 0⟩) (k' := .dead) hrl hg rfl (fun b hb => World.putObj_heap_other hb) (World.putObj_heap_same hlt) trivial
    have hrel : Rel G1 ρ (h'.set h.next .dead) { a with defers := mark ++ a.defers } (w3.putObj l (.loop { rec3 with state := .exhausted })) := by
      refine ⟨i13, h2.trans i9.N.symm, r', fun n hn => ?_, by rw [i9.n0]; simp only [Heap.set]; omega, h5.mono (fun n x e => ?_), hx2⟩
      · rw [i9.n0] at hn
        rw [i9.r0, hrr n (by omega), Ren.add_ne _ _ (by omega)]; exact h3 n hn
      · have hlt := hh.lt n x e
        rw [hrr n (by omega), Ren.add_ne _ _ (by omega)]; exact e
    refine ⟨_, _, hend, ?_⟩
    cases hp : rec3.pending with
    | none => rw [hp] at hpend hrel; exact ⟨G1, ρ, _, i9, hpend, hrel⟩
    | some c =>
      rw [hp] at hpend hrel
      cases c <;> first | exact hpend.elim | skip
      · exact wpIn_exit ⟨G1, ρ, _, i9, hpend, hrel⟩
      · exact wpIn_ret ⟨G1, ρ, _, i9, hpend, hrel⟩

/-! ### functions -/

def env0 (args : Array Value) : Env := fun i => args.getD i undef

/-- what a function hands back -/
def resAll (tab : Tab) (ρ : Env) (h : Heap) : List ResultVar → Option (List Value)
  | [] => some []
  | .tmp t :: l => match force (ρ t), resAll tab ρ h l with
    | some v, some vs => some (v :: vs)
    | _, _ => none
  | .cell q t :: l => match ρ q with
    | .pointer (some ⟨n, o, none⟩) => match h.get n with
      | some b => match aload tab t o b, resAll tab ρ h l with
        | some v, some vs => some (v :: vs)
        | _, _ => none
      | none => none
    | _ => none

def resA (tab : Tab) (fn : Func) (ρ : Env) (h : Heap) : Option Value :=
  match resAll tab ρ h fn.results.toList with
  | some [v] => some v
  | some vs => some (.tuple vs.toArray)
  | none => none

def resF (a : Act) : ResultVar → Sem Value
  | .tmp t => pure (a.tmps.getD t undef)
  | .cell q t => do loadVar t (← asAddr (a.tmps.getD q undef))

theorem mapM_results (hT : TabOK P tab) {r : Ren} {a : Act} (he : ERel r ρ a.tmps) {prot : Prot} {w : World} (hh : HRel prot r h w) :
    ∀ {l : List ResultVar} {vs : List Value}, resAll tab ρ h l = some vs → ∃ vs', LRel r vs vs' ∧ (l.mapM (resF a)).run P w = .ok vs' w := by
  intro l
  induction l with
  | nil => intro vs h; cases h; exact ⟨[], .nil, by simp⟩
  | cons x l ih =>
    intro vs h
    cases x with
    | cell q t =>
      simp only [resAll] at h
      split at h
      · rename_i n o hq
        split at h
        · rename_i b hb
          split at h
          · rename_i v us hv hus
            cases h
            obtain ⟨us', hr, hrun⟩ := ih hus
            have hp := he q
            rw [hq] at hp
            generalize hx : a.tmps.getD q undef = x' at hp
            cases hp with
            | ptr hn =>
              obtain ⟨v', hv', hrunv⟩ := aload_run (P := P) hT hv (hh.blk _ _ _ hn hb)
              refine ⟨_, .cons hv' hr, ?_⟩
              simp only [List.mapM_cons, Sem.run_bind, resF, hx, asAddr, Sem.run_pure, Result.andThen_ok, hrunv, hrun]
          · cases h
        · cases h
      · cases h
    | tmp t =>
      simp only [resAll] at h
      split at h
      · rename_i v us hv hq
        cases h
        obtain ⟨us', hr, hrun⟩ := ih hq
        refine ⟨_, .cons (force_eq hv ▸ he t) hr, ?_⟩
        simp only [List.mapM_cons, Sem.run_bind, resF, Sem.run_pure, Result.andThen_ok, hrun]
      · cases h

theorem results_eq (fn : Func) (a : Act) : results fn a.tmps = (do
    let vs ← fn.results.mapM (resF a)
    pure (if h : vs.size = 1 then vs[0] else .tuple vs)) := by
  have e : (resF a) = (fun x => match x with
    | ResultVar.tmp t => pure (a.tmps.getD t undef)
    | ResultVar.cell q t => do loadVar t (← asAddr (a.tmps.getD q undef))) := by funext x; cases x <;> rfl
  rw [e]; rfl

theorem results_run (hT : TabOK P tab) {r : Ren} {a : Act} (he : ERel r ρ a.tmps) {fn : Func} {v : Value} {prot : Prot} {w : World} {hp : Heap} (hh : HRel prot r hp w) (h : resA tab fn ρ hp = some v) :
    ∃ v', VRel r v v' ∧ (results fn a.tmps).run P w = .ok v' w := by
  have key : ∀ vs, resAll tab ρ hp fn.results.toList = some vs → ∃ vs', LRel r vs vs' ∧ (results fn a.tmps).run P w = .ok (if h : vs'.length = 1 then vs'[0] else .tuple vs'.toArray) w := by
    intro vs hvs
    obtain ⟨vs', hr, hrun⟩ := mapM_results (P := P) hT he hh hvs
    refine ⟨vs', hr, ?_⟩
    rw [results_eq, Sem.run_bind, Array.mapM_eq_mapM_toList, Sem.run_map, hrun]
    simp
  unfold resA at h
  split at h
  · rename_i v0 hq
    cases h
    obtain ⟨vs', hr, hrun⟩ := key _ hq
    cases hr with | cons hv ht => ?_
    cases ht
    exact ⟨_, hv, by rw [hrun]; simp⟩
  · rename_i vs hne hq
    cases h
    obtain ⟨vs', hr, hrun⟩ := key _ hq
    have hl : ¬ vs'.length = 1 := by
      rw [← hr.length]
      intro hl
      obtain ⟨x, hx⟩ := List.length_eq_one_iff.1 hl
      exact hne x hx
    exact ⟨_, hr.tuple, by rw [hrun, dif_neg hl]⟩
  · cases h

/-- what a body is to end in -/
def RetPost (tab : Tab) (fn : Func) (K : Value → Heap → Prop) (e : Exit) (ρ : Env) (h' : Heap) : Prop := (e = .normal ∨ e = .ret) ∧ ∃ v, resA tab fn ρ h' = some v ∧ K v h'

/-- what was put off, and is nothing, is taken up -/
theorem leaves_marks {fn : Func} {tmps : Array Value} {R : Ending → World → Prop} {prot0 : Prot} {r : Ren} {h : Heap} (fin : ∀ w', HRel prot0 r h w' → ∃ v, (results fn tmps).run P w' = .ok v w' ∧ R (.returned v) w') :
    ∀ (marks : List Nat) (prot : Prot) (w : World), HRel prot r h w → marks.Nodup → (∀ D ∈ marks, prot D = some (.deferred (some []), true)) → (∀ D ∈ marks, prot0 D = none) → prot.ext = prot0.ext → (∀ b o, prot0 b = some o → prot b = some o) →
      LeavesInM (WR none) 0 P fn tmps R (marks.map fun D => { target := .collected D, args := #[] }) .returning w
  | [], prot, w, hh, _, _, _, he, hp => by
    simp only [List.map_nil, LeavesInM, LeavesIn]
    exact fin w (hh.less he hp)
  | D :: marks, prot, w, hh, hnd, hm, h0, he, hp => by
    simp only [List.map_cons, LeavesInM]
    obtain ⟨hnd1, hnd2⟩ := List.nodup_cons.1 hnd
    have hD := hm D (by simp)
    have hw := hh.safe _ _ hD
    have hlt : D < w.heap.size := (Array.getElem?_eq_some_iff.1 hw).1
    refine ⟨by simp, .inl ⟨D, w.putObj D (.deferred none), rfl, run_takeDeferred hw, ?_⟩⟩
    refine leaves_marks fin marks (repl1 prot D (.deferred none)) _ (hh.hidden hD (fun x hx => World.putObj_heap_other hx) (World.putObj_heap_same hlt)) hnd2 (fun D' hD' => ?_) (fun D' hD' => h0 D' (by simp [hD'])) he fun b o hb => ?_
    · have : D' ≠ D := fun e => hnd1 (e ▸ hD')
      simp only [repl1, this, if_false]; exact hm D' (by simp [hD'])
    · have : b ≠ D := fun e => by rw [e, h0 D (by simp)] at hb; cases hb
      simp only [repl1, this, if_false]; exact hp b o hb

/-- a function's contract, out of a walk over its body -/
theorem acall_of_awp (hT : TabOK P tab) {f : FuncId} {fn : Func} {c : Code} {args : Array Value} {K : Value → Heap → Prop} (hf : P.funcs[f]? = some fn) (hb : fn.body = some c) (hN : fn.ntmps = N) (hsz : Nat.ble args.size N = true)
    (hw : (∀ n, h.next ≤ n → h.get n = none) → AWP P N c (RetPost tab fn K) (env0 args) h) : ACall P f args h K := by
  subst hN
  have hsz : args.size ≤ fn.ntmps := Nat.le_of_ble_eq_true hsz
  intro prot r args' w hh ha
  have hs : args.size = args'.size := by cases ha; assumption
  refine calls_out (ro := none) (n := 0) (callsIn_of_wp_marks hf hb trivial ?_)
  have hrel : Rel ⟨prot, r, h.next, fn.ntmps, none, []⟩ (env0 args) h { tmps := args' ++ Array.replicate (fn.ntmps - args'.size) undef, defers := [] } w := by
    refine ⟨⟨rfl, List.nodup_nil, fun D hD => (by cases hD), fun l hl => (by cases hl)⟩, by simp; omega, r, fun _ _ => rfl, Nat.le_refl _, fun i => ?_, hh⟩
    by_cases hi : i < args.size
    · have e1 : env0 args i = args[i] := by simp [env0, hi]
      have e2 : (args' ++ Array.replicate (fn.ntmps - args'.size) undef).getD i undef = args'[i]'(by omega) := by
        simp [Array.getElem?_append, show i < args'.size by omega]
      rw [e1, e2]
      cases ha with | tuple _ hc => exact hc i hi (by omega)
    · have e1 : env0 args i = undef := by simp [env0, hi]
      have e2 : (args' ++ Array.replicate (fn.ntmps - args'.size) undef).getD i undef = undef := by
        simp only [Array.getD_eq_getD_getElem?]
        rw [Array.getElem?_append, if_neg (by omega), Array.getElem?_replicate]
        split <;> rfl
      rw [e1, e2]
      exact .tuple rfl (fun i h1 _ => by simp at h1)
  refine wpIn_mono (hw hh.fresh _ _ _ rfl hrel) ?_
  rintro e a' w' ⟨G', ρ', h', hle, ⟨he, v, hv, hk⟩, h1, _, r', h3, h4, h5, hh'⟩
  have hmk : ∀ D ∈ G'.marks, prot D = none := fun D hD => by
    rcases hle.marks D hD with q | q
    · cases q
    · exact q
  have h3' : ∀ n, n < h.next → r' n = r n := fun n hn => by
    rw [h3 n (by rw [hle.n0]; exact hn), hle.r0]
  have h4' : h.next ≤ h'.next := by have := hle.n0; simp only at this; omega
  have fin : LeavesInM (WR none) 0 P fn a'.tmps (fun e w' => ∃ v v' r' h', e = .returned v' ∧ K v h' ∧ VRel r' v v' ∧ (∀ n, n < h.next → r' n = r n) ∧ h.next ≤ h'.next ∧ HRel prot r' h' w') a'.defers .returning w' := by
    rw [h1.1]
    refine leaves_marks (prot0 := prot) (fun w2 hh2 => ?_) G'.marks G'.prot w' hh' h1.2.1 h1.2.2.1 hmk hle.ext hle.prot
    obtain ⟨v', hvr, hrun⟩ := results_run (P := P) hT h5 hh2 hv
    exact ⟨v', hrun, v, v', r', h', rfl, hk, hvr, h3', h4', hh2⟩
  rcases he with rfl | rfl
  · exact fin
  · exact fin
end
end Go.Mir

