/- Regions whose order is open: what may be done ahead of the rest is done first. By a session's own hand. -/
import Derived.Test.YtlpenkjkggopiaaGreatMN
set_option linter.unusedSimpArgs false
set_option linter.unusedVariables false
namespace Go.Mir

/-- the operations that must be done ahead of one, each of them once or more -/
def predsOf (ops : Array Oper) (j : Nat) : List Nat := match ops[j]? with
  | some o => (o.after.toList.filter fun e => Region.binds .any e).map (·.on)
  | none => []
def closure (ops : Array Oper) : Nat → List Nat → List Nat
  | 0, s => s
  | k + 1, s => closure ops k (s ++ s.flatMap (predsOf ops)).eraseDups
/-- must i be done ahead of j? -/
def dep (ops : Array Oper) (i j : Nat) : Bool := (predsOf ops j).contains i || (closure ops 6 (predsOf ops j)).contains i

abbrev Pend := List (Nat × Facts)
/-- what was read by operations that may be done behind j stays -/
def Kept (ops : Array Oper) (pend : Pend) (j : Nat) (h h' : Heap) : Prop := ∀ p ∈ pend, dep ops p.1 j = false → p.2.le h → p.2.le h'

/-- one operation of a region, told of abstract states -/
def AStep (P : Program) (tab : Tab) (N : Nat) (ops : Array Oper) (pend : Pend) (i : Nat) (ρ : Env) (h : Heap) (K : Env → Heap → Prop) : Prop :=
  match ops[i]? with
  | none => False
  | some o => okDst N o.dst = true ∧ ∃ b, wantedA ops o ρ = some b ∧
      (b = true → WStep P tab o ρ h fun v h' => Kept ops pend i h h' ∧ K (putO ρ o.dst v) h') ∧ (b = false → K (putO ρ o.dst undef) h)

/-- operations in whatever order the edges allow -/
def AAny (P : Program) (tab : Tab) (N : Nat) (ops : Array Oper) (pend : Pend) (K : Env → Heap → Prop) : Nat → Array Bool → Env → Heap → Prop
  | 0, listed, ρ, h => Region.ready .any ops listed = [] ∧ K ρ h
  | fuel + 1, listed, ρ, h => (Region.ready .any ops listed = [] → K ρ h) ∧
      ∀ i ∈ Region.ready .any ops listed, AStep P tab N ops pend i ρ h fun ρ' h' => AAny P tab N ops pend K fuel (listed.setIfInBounds i true) ρ' h'

section
variable {P : Program} {tab : Tab} {N : Nat} {ops : Array Oper} {pend : Pend} {F : Facts}

theorem AStep.mono {i : Nat} {ρ : Env} {h : Heap} {K K' : Env → Heap → Prop} (hs : AStep P tab N ops pend i ρ h K) (hk : ∀ ρ h, K ρ h → K' ρ h) : AStep P tab N ops pend i ρ h K' := by
  unfold AStep at *
  split
  · rename_i hq; simp [hq] at hs
  · rename_i o hq
    simp only [hq] at hs
    obtain ⟨h1, b, h2, h3, h4⟩ := hs
    exact ⟨h1, b, h2, fun e => (h3 e).mono fun _ _ ⟨q1, q2⟩ => ⟨q1, hk _ _ q2⟩, fun e => hk _ _ (h4 e)⟩

theorem aany_run (hg : Good P tab) {K : Env → Heap → Prop} {G : Ghost} (hN : G.N = N) {Qc : Exit → Act → World → Prop} (hK : ∀ ρ h a w, K ρ h → Rel G ρ h a w → Qc .normal a w) :
    ∀ (fuel : Nat) (listed : Array Bool) (ρ : Env) (h : Heap) (a : Act) (w : World), AAny P tab N ops pend K fuel listed ρ h → Rel G ρ h a w → wpAnyIn (WR G.ro) 0 P .any ops Qc fuel listed a w := by
  intro fuel
  induction fuel with
  | zero => intro listed ρ h a w ha hr; exact ⟨ha.1, hK _ _ _ _ ha.2 hr⟩
  | succ fuel ih =>
    intro listed ρ h a w ha hr
    refine ⟨fun e => hK _ _ _ _ (ha.1 e) hr, fun i hi => ?_⟩
    have hs := ha.2 i hi
    unfold AStep at hs
    unfold wpOpIn
    cases ho : ops[i]? with
    | none => simp [ho] at hs
    | some o =>
      simp only [ho] at hs ⊢
      obtain ⟨hd, b, hb, ht, hf⟩ := hs
      subst hN
      have hw : Region.wanted o (yielded ops a.tmps) = b := by
        obtain ⟨_, _, r, _, _, he, _⟩ := hr
        exact wanted_eq he hb
      simp only [hw]
      cases b with
      | true =>
        simp only [if_true]
        exact Oper.wpIn_mono (fun a' w' ⟨v, h', ⟨_, hk⟩, hr'⟩ => ih _ _ _ a' w' hk hr') ((ht rfl).run hg hr hd Qc)
      | false =>
        simp only [Bool.false_eq_true, if_false]
        exact ⟨fun _ _ => trivial, ih _ _ _ _ w (hf rfl) (putO_skip hr hd)⟩

theorem awp_region_any (hg : Good P tab) {id : Nat} {Q : Exit → Env → Heap → Prop} {ρ : Env} {h : Heap} (ho : AAny P tab N ops pend (Q .normal) ops.size (Array.replicate ops.size false) ρ h) :
    AWP P N (.region id ops true) Q ρ h := by
  intro G a w hN hr
  have hr' : Rel G ρ h a { w with drawn := w.drawn + 1 } := by
    obtain ⟨h1, h2, r, h3, h4, h5, hh⟩ := hr
    exact ⟨h1, h2, r, h3, h4, h5, hh.world rfl⟩
  exact wpIn_region_any hg.mixed (aany_run hg hN (fun ρ' h' a' w' hk hr' => ⟨G, ρ', h', G.le_refl, hk, hr'⟩) _ _ ρ h a _ ho hr')

/-! ### what is named by an operation's operands -/

theorem ev_put {ρ : Env} {d : Option Nat} {v : Value} {x : Operand} (h : ∀ t, d = some t → x ≠ .tmp t) : ev (putO ρ d v) x = ev ρ x := by
  cases d with
  | none => rfl
  | some t =>
    cases x with
    | tmp u =>
      have : u ≠ t := fun e => h t rfl (by rw [e])
      simp only [ev, putO, put_ne _ _ this]
    | _ => rfl

theorem evs_congr {ρ ρ' : Env} : ∀ {l : List Operand}, (∀ x ∈ l, ev ρ x = ev ρ' x) → evs ρ l = evs ρ' l
  | [], _ => rfl
  | x :: l, h => by
    have e := evs_congr (ρ := ρ) (ρ' := ρ') (l := l) fun y hy => h y (List.mem_cons_of_mem _ hy)
    simp only [evs, h x (by simp), e]
theorem evps_congr {ρ ρ' : Env} : ∀ {l : List (Nat × Operand)}, (∀ x ∈ l, ev ρ x.2 = ev ρ' x.2) → evps ρ l = evps ρ' l
  | [], _ => rfl
  | (i, x) :: l, h => by
    have e := evps_congr (ρ := ρ) (ρ' := ρ') (l := l) fun y hy => h y (List.mem_cons_of_mem _ hy)
    have e0 : ev ρ x = ev ρ' x := h (i, x) (by simp)
    simp only [evps, e0, e]
theorem evo_congr {ρ ρ' : Env} {x : Option Operand} (h : ∀ y, x = some y → ev ρ y = ev ρ' y) : evo ρ x = evo ρ' x := by
  cases x with
  | none => rfl
  | some x => simp only [evo, h x rfl]

theorem ops_congr {ρ ρ' : Env} (o : Oper) (h : ∀ x ∈ o.op.operands, ev ρ x = ev ρ' x) :
    aval tab ρ o = aval tab ρ' o ∧ ard tab ρ o = ard tab ρ' o ∧ acallee ρ o = acallee ρ' o ∧ aalloc tab ρ o = aalloc tab ρ' o ∧ ayield ρ o = ayield ρ' o ∧ ∀ n hp, aeff tab ρ n o hp = aeff tab ρ' n o hp := by
  obtain ⟨dst, op, type, pos, after, guard⟩ := o
  simp only at h
  cases op with
  | call c =>
    have e : evs ρ c.args.toList = evs ρ' c.args.toList := evs_congr fun x hx => h x (by
      simp only [Op.operands, Call.operands]
      exact Array.mem_append_right _ (by simpa using hx))
    have e2 : ∀ f, c.callee = .value f → ev ρ f = ev ρ' f := fun f hf => h f (by simp [Op.operands, Call.operands, hf])
    refine ⟨by simp only [aval, e], by simp only [ard, e], ?_, rfl, ?_, fun n hp => by simp only [aeff, e]⟩
    · simp only [acallee, e]
      cases hc : c.callee with
      | value f =>
        have e3 := e2 f hc
        cases evs ρ' c.args.toList with
        | none => rfl
        | some vs => simp only [e3]
      | _ => rfl
    · simp only [ayield, e]
      cases hc : c.callee with
      | value f =>
        have e3 := e2 f hc
        cases evs ρ' c.args.toList with
        | none => rfl
        | some vs => simp only [e3]
      | _ => rfl
  | build t ps =>
    have e : evps ρ ps.toList = evps ρ' ps.toList := evps_congr fun x hx => h x.2 (by
      show x.2 ∈ (ps.toList.map (·.2)).toArray
      exact List.mem_toArray.2 (List.mem_map.2 ⟨x, hx, rfl⟩))
    exact ⟨by simp only [aval, e], rfl, rfl, rfl, rfl, fun _ _ => rfl⟩
  | buildSlice t n ps =>
    have e : evps ρ ps.toList = evps ρ' ps.toList := evps_congr fun x hx => h x.2 (by
      show x.2 ∈ (ps.toList.map (·.2)).toArray
      exact List.mem_toArray.2 (List.mem_map.2 ⟨x, hx, rfl⟩))
    exact ⟨rfl, rfl, rfl, by simp only [aalloc, e], rfl, fun _ _ => rfl⟩
  | makeFunc fn first captured =>
    have e : evs ρ captured.toList = evs ρ' captured.toList := evs_congr fun x hx => h x (by
      simp only [Op.operands]; exact Array.mem_append_right _ (by simpa using hx))
    refine ⟨?_, rfl, rfl, rfl, rfl, fun _ _ => rfl⟩
    cases fn <;> simp only [aval, e]
  | slice t x lo hi mx =>
    have e1 := h x (by simp [Op.operands])
    have e2 : evo ρ lo = evo ρ' lo := evo_congr fun y hy => h y (by subst hy; simp [Op.operands])
    have e3 : evo ρ hi = evo ρ' hi := evo_congr fun y hy => h y (by subst hy; simp [Op.operands])
    have e4 : evo ρ mx = evo ρ' mx := evo_congr fun y hy => h y (by subst hy; simp [Op.operands])
    exact ⟨by simp only [aval, e1, e2, e3, e4], rfl, rfl, rfl, rfl, fun _ _ => rfl⟩
  | makeMap t q => exact ⟨rfl, rfl, rfl, rfl, rfl, fun _ _ => rfl⟩
  | select cs b => exact ⟨rfl, rfl, rfl, rfl, rfl, fun _ _ => rfl⟩
  | go c => exact ⟨rfl, rfl, rfl, rfl, rfl, fun _ _ => rfl⟩
  | defer c => exact ⟨rfl, rfl, rfl, rfl, rfl, fun _ _ => rfl⟩
  | _ =>
    simp only [Op.operands] at h
    first
      | exact ⟨rfl, rfl, rfl, rfl, rfl, fun _ _ => rfl⟩
      | (simp at h
         simp only [aval, ard, acallee, aalloc, ayield, aeff, h]
         simp)

theorem look_ev {ρ : Env} {o : Oper} {d : Option Nat} {v : Value} (h : ∀ t, d = some t → t ∉ o.looksAt ops) : ∀ x ∈ o.op.operands, ev (putO ρ d v) x = ev ρ x := by
  intro x hx
  refine ev_put fun t ht hxt => h t ht ?_
  subst hxt
  exact List.mem_append_left _ (List.mem_filterMap.2 ⟨.tmp t, by simpa using hx, rfl⟩)

theorem look_wanted {ρ : Env} {o : Oper} {d : Option Nat} {v : Value} (h : ∀ t, d = some t → t ∉ o.looksAt ops) : wantedA ops o (putO ρ d v) = wantedA ops o ρ := by
  unfold wantedA
  cases hg : o.guard with
  | none => rfl
  | some gw =>
    obtain ⟨g, want⟩ := gw
    simp only []
    cases ht : (ops[g]?).bind (·.dst) with
    | none => rfl
    | some t =>
      simp only []
      have : putO ρ d v t = ρ t := by
        cases d with
        | none => rfl
        | some q =>
          refine put_ne _ _ fun e => h q rfl ?_
          subst e
          simp [Oper.looksAt, hg, ht]
      rw [this]

theorem POp.congr {o : Oper} {ρ ρ' : Env} {v : Value} (h : ∀ x ∈ o.op.operands, ev ρ x = ev ρ' x) (hp : POp P tab o ρ F v) : POp P tab o ρ' F v := by
  obtain ⟨e1, e2, e3, _, _, _⟩ := ops_congr (tab := tab) o h
  cases hp with
  | val hv => exact .val (e1 ▸ hv)
  | rd hn hk hv => exact .rd (e2 ▸ hn) hk hv
  | call hc hq => exact .call (e3 ▸ hc) hq

theorem WStep.congr {o : Oper} {ρ ρ' : Env} {hp : Heap} {K : Value → Heap → Prop} (h : ∀ x ∈ o.op.operands, ev ρ x = ev ρ' x) (hw : WStep P tab o ρ hp K) : WStep P tab o ρ' hp K := by
  obtain ⟨e1, e2, e3, e4, e6, e5⟩ := ops_congr (tab := tab) o h
  cases hw with
  | pop hq hk => exact .pop (hq.congr h) hk
  | alloc ha hk => exact .alloc (e4 ▸ ha) hk
  | eff ha hk => exact .eff (e5 _ _ ▸ ha) hk
  | call ha hc => exact .call (e3 ▸ ha) hc
  | yield ha hc => exact .yield (e6 ▸ ha) hc

theorem put_comm {ρ : Env} {x y : Option Nat} {v u : Value} (h : ∀ d, x = some d → y ≠ some d) : putO (putO ρ x v) y u = putO (putO ρ y u) x v := by
  cases x with
  | none => rfl
  | some d =>
    cases y with
    | none => rfl
    | some e =>
      have hne : e ≠ d := fun q => h d rfl (by rw [q])
      funext t
      simp only [putO]
      by_cases h1 : t = d
      · subst h1
        rw [put_same, put_ne _ _ (Ne.symm hne), put_same]
      · rw [put_ne _ _ h1]
        by_cases h2 : t = e
        · subst h2; rw [put_same, put_same]
        · rw [put_ne _ _ h2, put_ne _ _ h2, put_ne _ _ h1]

/-- what one operation yields, whenever it is done: its value, or nothing where it isn't wanted -/
def Yields (P : Program) (tab : Tab) (ops : Array Oper) (F : Facts) (o : Oper) (ρ : Env) (v : Value) : Prop :=
  (wantedA ops o ρ = some true ∧ POp P tab o ρ F v) ∨ (wantedA ops o ρ = some false ∧ v = undef)

theorem POp.le {o : Oper} {ρ : Env} {v : Value} {F F' : Facts} (hF : ∀ n k, F n k → F' n k) (hp : POp P tab o ρ F v) : POp P tab o ρ F' v := by
  cases hp with
  | val hv => exact .val hv
  | rd hn hk hv => exact .rd hn (hF _ _ hk) hv
  | call hc hq => exact .call hc ⟨hq.1, fun h' hle => hq.2 h' fun n k e => hle n k (hF n k e)⟩

/-- whatever is not listed, and what it hangs on -/
def Closed (ops : Array Oper) (listed : Array Bool) : Prop := ∀ j o, ops[j]? = some o → listed.getD j true = true → ∀ e ∈ o.after, Region.binds .any e = true → listed.getD e.on false = true

theorem closed_preds {listed : Array Bool} (hc : Closed ops listed) (hs : listed.size = ops.size) {j : Nat} (hj : listed.getD j false = true) : ∀ i ∈ predsOf ops j, listed.getD i false = true := by
  intro i hi
  unfold predsOf at hi
  cases ho : ops[j]? with
  | none => simp [ho] at hi
  | some o =>
    simp only [ho, List.mem_map, List.mem_filter] at hi
    obtain ⟨e, ⟨he, hb⟩, rfl⟩ := hi
    have hlt : j < listed.size := by rw [hs]; exact (Array.getElem?_eq_some_iff.1 ho).1
    exact hc j o ho (by simp [hlt] at hj ⊢; exact hj) e (by simpa using he) hb

theorem closed_closure {listed : Array Bool} (hc : Closed ops listed) (hs : listed.size = ops.size) : ∀ (k : Nat) (s : List Nat), (∀ i ∈ s, listed.getD i false = true) → ∀ i ∈ closure ops k s, listed.getD i false = true := by
  intro k
  induction k with
  | zero => intro s h; exact h
  | succ k ih =>
    intro s h
    refine ih _ fun i hi => ?_
    rw [List.mem_eraseDups, List.mem_append, List.mem_flatMap] at hi
    rcases hi with hi | ⟨j, hj, hi⟩
    · exact h i hi
    · exact closed_preds hc hs (h j hj) i hi

theorem dep_listed {listed : Array Bool} (hc : Closed ops listed) (hs : listed.size = ops.size) {i j : Nat} (hd : dep ops i j = true) (hj : j ∈ Region.ready .any ops listed) : listed.getD i false = true := by
  obtain ⟨_, o, ho, hall⟩ := mem_ready.1 hj
  have hp : ∀ i ∈ predsOf ops j, listed.getD i false = true := by
    intro i hi
    simp only [predsOf, ho, List.mem_map, List.mem_filter] at hi
    obtain ⟨e, ⟨he, hb⟩, rfl⟩ := hi
    exact hall e (by simpa using he) hb
  simp only [dep, Bool.or_eq_true, List.contains_iff_mem] at hd
  rcases hd with hd | hd
  · exact hp i hd
  · exact closed_closure hc hs _ _ hp i hd

theorem Closed.set {listed : Array Bool} (hc : Closed ops listed) {j : Nat} (hj : j ∈ Region.ready .any ops listed) : Closed ops (listed.setIfInBounds j true) := by
  obtain ⟨hu, o, ho, hall⟩ := mem_ready.1 hj
  intro k ok hk hl e he hb
  refine getD_set_true ?_
  by_cases hjk : j = k
  · subst hjk
    rw [ho] at hk; cases hk
    exact hall e he hb
  · rw [getD_set_ne true hjk] at hl
    exact hc k ok hk hl e he hb

theorem Closed.start : Closed ops (Array.replicate ops.size false) := by
  intro j o ho hl
  have hlt := (Array.getElem?_eq_some_iff.1 ho).1
  simp [hlt] at hl

theorem Yields.step {i : Nat} {o : Oper} {ρ : Env} {h : Heap} {v : Value} {K : Env → Heap → Prop} (hi : ops[i]? = some o) (hd : okDst N o.dst = true) (hF : F.le h) (hy : Yields P tab ops F o ρ v) (hk : K (putO ρ o.dst v) h) :
    AStep P tab N ops pend i ρ h K := by
  unfold AStep
  simp only [hi]
  rcases hy with ⟨hw, hp⟩ | ⟨hw, rfl⟩
  · exact ⟨hd, true, hw, fun _ => .pop (v := v) (hp.le fun n k e => hF n k e) ⟨fun _ _ _ e => e, hk⟩, (fun e => by cases e)⟩
  · exact ⟨hd, false, hw, (fun e => by cases e), fun _ => hk⟩

/-- an operation that is done ahead of another one can be done behind it -/
theorem AStep.swap {i j : Nat} {oi oj : Oper} {v : Value} (hj : ops[j]? = some oj) (hap : oi.apart ops oj = true) (hdep : dep ops i j = false) {K : Env → Heap → Prop} {ρ : Env} {h : Heap} (hF : F.le h)
    (hy : Yields P tab ops F oi ρ v) (hs : AStep P tab N ops ((i, F) :: pend) j (putO ρ oi.dst v) h K) :
    AStep P tab N ops pend j ρ h fun ρ' h' => F.le h' ∧ Yields P tab ops F oi ρ' v ∧ K (putO ρ' oi.dst v) h' := by
  obtain ⟨h1, h2, h3⟩ := Oper.apart_spec hap
  have keep : ∀ u, Yields P tab ops F oi (putO ρ oj.dst u) v := fun u => by
    unfold Yields at *
    rw [look_wanted h3]
    exact hy.imp (fun ⟨a, b⟩ => ⟨a, b.congr fun x hx => (look_ev h3 x hx).symm⟩) id
  unfold AStep at *
  simp only [hj] at *
  obtain ⟨g1, b, g2, g3, g4⟩ := hs
  rw [look_wanted h1] at g2
  refine ⟨g1, b, g2, fun e => ?_, fun e => ?_⟩
  · have := (g3 e).congr (ρ' := ρ) fun x hx => look_ev h1 x hx
    refine this.mono fun u h' ⟨q1, q2⟩ => ⟨fun p hp => q1 p (by simp [hp]), q1 (i, F) (by simp) hdep hF, keep u, ?_⟩
    rw [← put_comm h2]; exact q2
  · refine ⟨hF, keep undef, ?_⟩
    rw [← put_comm h2]; exact g4 e

theorem AAny.drop {p : Nat × Facts} {K : Env → Heap → Prop} : ∀ (fuel : Nat) (listed : Array Bool) (ρ : Env) (h : Heap), AAny P tab N ops (p :: pend) K fuel listed ρ h → AAny P tab N ops pend K fuel listed ρ h := by
  intro fuel
  induction fuel with
  | zero => intro listed ρ h H; exact H
  | succ fuel ih =>
    intro listed ρ h H
    refine ⟨H.1, fun j hj => ?_⟩
    have := H.2 j hj
    unfold AStep at *
    cases ho : ops[j]? with
    | none => simp [ho] at this
    | some o =>
      simp only [ho] at this ⊢
      obtain ⟨g1, b, g2, g3, g4⟩ := this
      exact ⟨g1, b, g2, fun e => (g3 e).mono fun u h' ⟨q1, q2⟩ => ⟨fun p hp => q1 p (by simp [hp]), ih _ _ _ q2⟩, fun e => ih _ _ _ (g4 e)⟩

theorem aany_first {i : Nat} {oi : Oper} {v : Value} {K : Env → Heap → Prop} (hi : ops[i]? = some oi) (hd : okDst N oi.dst = true) :
    ∀ (fuel : Nat) (listed : Array Bool) (ρ : Env) (h : Heap), Closed ops listed → listed.size = ops.size →
      (∀ j oj, ops[j]? = some oj → j ≠ i → listed.getD j true = false → (∀ e ∈ oj.after, Region.binds .any e = true → e.on ≠ i) → oi.apart ops oj = true) →
      i ∈ Region.ready .any ops listed → F.le h → Yields P tab ops F oi ρ v →
      AAny P tab N ops ((i, F) :: pend) K fuel (listed.setIfInBounds i true) (putO ρ oi.dst v) h → AAny P tab N ops pend K (fuel + 1) listed ρ h := by
  intro fuel
  induction fuel with
  | zero =>
    intro listed ρ h _ _ _ hr hF hy H
    refine ⟨fun e => (by rw [e] at hr; cases hr), fun j hj => ?_⟩
    by_cases hji : j = i
    · subst hji; exact hy.step hi hd hF ⟨H.1, H.2⟩
    · have := ready_mono hj hji
      rw [H.1] at this
      cases this
  | succ fuel ih =>
    intro listed ρ h hcl hsz hfree hr hF hy H
    refine ⟨fun e => (by rw [e] at hr; cases hr), fun j hj => ?_⟩
    by_cases hji : j = i
    · subst hji
      exact hy.step hi hd hF (AAny.drop _ _ _ _ H)
    · have h1 := H.2 j (ready_mono hj hji)
      obtain ⟨hjun, oj, hoj, hall⟩ := mem_ready.1 hj
      have hiun : listed.getD i false = false := by
        have h0 := (mem_ready.1 hr).1
        have hlt : i < listed.size := by rw [hsz]; exact (Array.getElem?_eq_some_iff.1 hi).1
        simp [hlt] at h0 ⊢; exact h0
      have hnot : ∀ e ∈ oj.after, Region.binds .any e = true → e.on ≠ i := fun e he hb heq => by
        have h1 := hall e he hb
        rw [heq, hiun] at h1; cases h1
      have hdep : dep ops i j = false := by
        cases hd : dep ops i j
        · rfl
        · have := dep_listed hcl hsz hd hj; rw [hiun] at this; cases this
      have h2 := AStep.swap hoj (hfree j oj hoj hji hjun hnot) hdep hF hy h1
      have hfree' : ∀ k ok, ops[k]? = some ok → k ≠ i → (listed.setIfInBounds j true).getD k true = false →
          (∀ e ∈ ok.after, Region.binds .any e = true → e.on ≠ i) → oi.apart ops ok = true := fun k ok hk hki hun hno => by
        refine hfree k ok hk hki ?_ hno
        by_cases hjk : j = k
        · subst hjk; exact hjun
        · rw [getD_set_ne true hjk] at hun; exact hun
      refine h2.mono (fun ρ' h' ⟨q1, q2, q3⟩ => ih (listed.setIfInBounds j true) ρ' h' (hcl.set hj) (by simpa using hsz) hfree' (ready_mono hr (Ne.symm hji)) q1 q2 ?_)
      rw [Array.setIfInBounds_comm _ _ hji]
      exact q3

/-! ### an order that is good: what hangs on operands and kept facts alone is done as soon as it can be, all else where nothing else could be -/

def goodOrder (ops : Array Oper) : List (Nat × Bool) → Array Bool → Bool
  | [], listed => (Region.ready .any ops listed).isEmpty
  | (i, true) :: l, listed => Region.free .any ops listed i && (Region.ready .any ops listed).contains i && goodOrder ops l (listed.setIfInBounds i true)
  | (i, false) :: l, listed => (Region.ready .any ops listed == [i]) && goodOrder ops l (listed.setIfInBounds i true)

/-- the operations in such an order -/
def AOrd (P : Program) (tab : Tab) (N : Nat) (ops : Array Oper) (K : Env → Heap → Prop) : Pend → List (Nat × Bool) → Env → Heap → Prop
  | _, [], ρ, h => K ρ h
  | pend, (i, true) :: l, ρ, h => match ops[i]? with
    | none => False
    | some o => okDst N o.dst = true ∧ ∃ b, wantedA ops o ρ = some b ∧
        (b = true → (∃ v, POp P tab o ρ (fun _ _ => False) v ∧ AOrd P tab N ops K pend l (putO ρ o.dst v) h) ∨ (∃ v F, POp P tab o ρ F v ∧ F.le h ∧ AOrd P tab N ops K ((i, F) :: pend) l (putO ρ o.dst v) h)) ∧
        (b = false → AOrd P tab N ops K pend l (putO ρ o.dst undef) h)
  | pend, (i, false) :: l, ρ, h => AStep P tab N ops pend i ρ h fun ρ' h' => AOrd P tab N ops K pend l ρ' h'

theorem aany_nofact {i : Nat} {K : Env → Heap → Prop} (fuel : Nat) (listed : Array Bool) (ρ : Env) (h : Heap) (H : AAny P tab N ops pend K fuel listed ρ h) :
    AAny P tab N ops ((i, fun _ _ => False) :: pend) K fuel listed ρ h := by
  induction fuel generalizing listed ρ h with
  | zero => exact H
  | succ fuel ih =>
    refine ⟨H.1, fun j hj => ?_⟩
    have := H.2 j hj
    unfold AStep at *
    cases ho : ops[j]? with
    | none => simp [ho] at this
    | some o =>
      simp only [ho] at this ⊢
      obtain ⟨g1, b, g2, g3, g4⟩ := this
      refine ⟨g1, b, g2, fun e => (g3 e).mono fun u h' ⟨q1, q2⟩ => ⟨fun p hp => ?_, ih _ _ _ q2⟩, fun e => ih _ _ _ (g4 e)⟩
      rcases List.mem_cons.1 hp with rfl | hp
      · exact fun _ _ n k e => e.elim
      · exact q1 p hp

theorem aord_any {K : Env → Heap → Prop} : ∀ (l : List (Nat × Bool)) (pend : Pend) (listed : Array Bool) (ρ : Env) (h : Heap), goodOrder ops l listed = true → Closed ops listed → listed.size = ops.size → AOrd P tab N ops K pend l ρ h →
    AAny P tab N ops pend K l.length listed ρ h
  | [], pend, listed, ρ, h, hg, _, _, ha => by
    unfold AOrd at ha
    exact ⟨by simpa [goodOrder] using hg, ha⟩
  | (i, true) :: l, pend, listed, ρ, h, hg, hcl, hsz, ha => by
    simp only [goodOrder, Bool.and_eq_true] at hg
    obtain ⟨⟨g1, g2⟩, g3⟩ := hg
    have g2' : i ∈ Region.ready .any ops listed := by simpa using g2
    unfold AOrd at ha
    cases hi : ops[i]? with
    | none => simp [hi] at ha
    | some o =>
      simp only [hi] at ha
      obtain ⟨hd, b, hb, ht, hf⟩ := ha
      have hsz' : (listed.setIfInBounds i true).size = ops.size := by simpa using hsz
      cases b with
      | true =>
        rcases ht rfl with ⟨v, hp, hk⟩ | ⟨v, F, hp, hF, hk⟩
        · exact aany_first hi hd _ _ _ _ hcl hsz (Region.free_spec hi g1) g2' (F := fun _ _ => False) (fun _ _ e => e.elim) (.inl ⟨hb, hp⟩) (aany_nofact _ _ _ _ (aord_any l _ _ _ _ g3 (hcl.set g2') hsz' hk))
        · exact aany_first hi hd _ _ _ _ hcl hsz (Region.free_spec hi g1) g2' hF (.inl ⟨hb, hp⟩) (aord_any l _ _ _ _ g3 (hcl.set g2') hsz' hk)
      | false => exact aany_first hi hd _ _ _ _ hcl hsz (Region.free_spec hi g1) g2' (F := fun _ _ => False) (fun _ _ e => e.elim) (.inr ⟨hb, rfl⟩) (aany_nofact _ _ _ _ (aord_any l _ _ _ _ g3 (hcl.set g2') hsz' (hf rfl)))
  | (i, false) :: l, pend, listed, ρ, h, hg, hcl, hsz, ha => by
    simp only [goodOrder, Bool.and_eq_true, beq_iff_eq] at hg
    obtain ⟨g1, g3⟩ := hg
    unfold AOrd at ha
    refine ⟨(fun e => by rw [g1] at e; cases e), fun j hj => ?_⟩
    have hj0 := hj
    rw [g1] at hj
    simp at hj
    subst hj
    exact AStep.mono ha fun ρ' h' q => aord_any l _ _ ρ' h' g3 (hcl.set hj0) (by simpa using hsz) q

theorem awp_region_draw (hg : Good P tab) {id : Nat} {Q : Exit → Env → Heap → Prop} {ρ : Env} {h : Heap} (l : List (Nat × Bool)) (hl : (l.length == ops.size && goodOrder ops l (Array.replicate ops.size false)) = true)
    (ho : AOrd P tab N ops (Q .normal) [] l ρ h) : AWP P N (.region id ops true) Q ρ h := by
  simp only [Bool.and_eq_true, beq_iff_eq] at hl
  refine awp_region_any (pend := []) hg ?_
  have := aord_any l [] (Array.replicate ops.size false) ρ h hl.2 Closed.start (by simp) ho
  rw [hl.1] at this
  exact this
end
end Go.Mir

