/- Walks where there is one row alone, brought to any memory. By a session's own hand. -/
import Derived.Test.YtlpenkjkggopiaaGreatMZK
import Derived.Test.YtlpenkjkggopiaaGreatWA
set_option linter.unusedSimpArgs false
set_option linter.unusedVariables false
namespace Go.Mir

theorem acall_of_x {P : Program} {f : FuncId} {args : Array Value} {h : Heap} {K : Value → Heap → Prop} (hf : isFn P f = true) (hx : ACallX P f args h K) : ACall P f args h K := by
  rcases hx with ⟨_, hc⟩ | hx
  · exact hc
  · intro prot r args' w hh ha
    obtain ⟨_, _, _, _, _, e, _⟩ := hx prot r args' w hh ha
    rw [callFunc_enter hf] at e
    cases e
abbrev h00 : Heap := ⟨fun _ => none, 0⟩
theorem apure_empty {P : Program} {f : FuncId} {args : Array Value} {v : Value} (hf : isFn P f = true) (ha : closed (.tuple args) = true) (hv : closed v = true) (hc : ACall P f args h00 fun u _ => u = v) : APure P f args v := fun h =>
  acall_of_x hf (apure_of_empty ha hv ⟨fun _ => True, .inl ⟨hf, hc.mono fun _ _ e => ⟨e, trivial⟩⟩⟩ h)

def closedCells (c : List Value) : Bool := c.all Value.closed1
theorem blk_closed {r r' : Ren} {l : Loc} {c : List Value} {e : TypeId} {opn wr : Bool} {o : Option Obj} (hc : closedCells c = true) (h : BlkRel r l (.cells c e opn wr) o) : BlkRel r' l (.cells c e opn wr) o := by
  cases o with
  | none => exact h.elim
  | some o =>
    cases o <;> first | exact h.elim | skip
    obtain ⟨h1, h2, h3, h4, h5, h6, h7⟩ := h
    refine ⟨h1, h2, h3, h4, h5, fun i v hv => ?_, h7⟩
    obtain ⟨v', hv', hr⟩ := h6 i v hv
    have hcl : Value.closed1 v = true := (List.all_eq_true.1 hc) v (List.mem_of_getElem? hv)
    rw [closed1_eq hcl hr] at hv'
    exact ⟨v, hv', rel_closed1 _ hcl⟩

def cl1 (v : Value) : Bool := match v with
  | .agg ds => ds.all Value.closed1
  | v => Value.closed1 v
theorem closed_tuple (a : Array Value) : closed (.tuple a) = a.toList.all cl1 := by
  show a.all _ = _
  rw [← Array.all_toList]
  rfl
theorem cl1_eq {r : Ren} {x y : Value} (h : cl1 x = true) (hv : VRel r x y) : y = x := by
  unfold cl1 at h
  split at h
  · exact agg_closed_eq h hv
  · exact closed1_eq h hv

/-- one row alone -/
abbrev hr1 (k : Blk) : Heap := ⟨fun i => if i = 0 then some k else none, 1⟩

/-- what a call does to one row, that names nothing, it does to it anywhere -/
theorem acall_frame {P : Program} {f : FuncId} {rest : Array Value} {c c' : List Value} {e : TypeId} {opn : Bool} {v : Value} (hcl : closedCells c = true) (hcl' : closedCells c' = true) (hrest : closed (.tuple rest) = true) (hv : closed v = true)
    (hc : ACall P f (#[.pointer (some ⟨0, 0, none⟩)] ++ rest) (hr1 (.cells c e opn true)) (fun u h' => u = v ∧ h'.get 0 = some (.cells c' e opn true))) :
    ∀ (h : Heap) (n : Nat), h.get n = some (.cells c e opn true) → ACall P f (#[.pointer (some ⟨n, 0, none⟩)] ++ rest) h (fun u h' => u = v ∧ h' = h.set n (.cells c' e opn true)) := by
  intro h n hn prot r args' w hh hargs
  obtain ⟨l, hl⟩ : ∃ l, r n = some l := by
    cases hr : r n with
    | none => have := (hh.dom n).1 hr; rw [this] at hn; cases hn
    | some l => exact ⟨l, rfl⟩
  have hb := hh.blk n l _ hl hn
  let r0 : Ren := fun i => if i = 0 then some l else none
  have hrel0 : HRel ⟨fun b => if b = l.b then none else (w.heap[b]?).map fun o => (o, true), (w.os, w.output)⟩ r0 (hr1 (.cells c e opn true)) w := by
    refine ⟨fun i => ?_, fun i hi => ?_, fun i l' k hi hk => ?_, fun i j l' l2 k k2 hij hi hj => ?_, fun b o hb => ?_, fun b o hb i l' k hi hlb hk => ?_, rfl⟩
    · by_cases hi : i = 0 <;> simp [r0, hi]
    · have : i ≠ 0 := by simp only [hr1] at hi; omega
      simp [this]
    · by_cases h0 : i = 0
      · subst h0
        simp only [r0, if_true, Option.some.injEq] at hi
        subst hi
        simp only [if_true, Option.some.injEq] at hk
        subst hk
        exact blk_closed hcl hb
      · simp [r0, h0] at hi
    · exfalso
      have e1 : i = 0 := by
        refine Classical.byContradiction fun h0 => ?_
        simp [r0, h0] at hi
      have e2 : j = 0 := by
        refine Classical.byContradiction fun h0 => ?_
        simp [r0, h0] at hj
      omega
    · simp only at hb
      split at hb
      · cases hb
      · cases hq : w.heap[b]? with
        | none => rw [hq] at hb; cases hb
        | some o' => rw [hq] at hb; cases hb; rfl
    · exfalso
      have e1 : i = 0 := by
        refine Classical.byContradiction fun h0 => ?_
        simp [r0, h0] at hi
      subst e1
      simp only [r0, if_true, Option.some.injEq] at hi
      subst hi
      simp only at hb
      rw [if_pos hlb.symm] at hb
      cases hb
  have hargs0 : VRel r0 (.tuple (#[.pointer (some ⟨0, 0, none⟩)] ++ rest)) (.tuple args') := by
    have hl2 : LRel r (.pointer (some ⟨n, 0, none⟩) :: rest.toList) args'.toList := by
      cases hargs with
      | tuple hs hx =>
        have := LRel.of_agg (.agg hs hx)
        simpa using this
    generalize hal : args'.toList = al at hl2
    cases hl2 with
    | cons hp hr =>
      rename_i y l'
      cases hp with
      | ptr hnn =>
        rw [hl] at hnn; cases hnn
        have e1 : ∀ {q q' : List Value}, LRel r q q' → (∀ x ∈ q, cl1 x = true) → q' = q := by
          intro q q' hq
          induction hq with
          | nil => intro _; rfl
          | cons hv _ ih =>
            intro hall
            rw [ih fun x hx => hall x (by simp [hx])]
            congr 1
            exact cl1_eq (hall _ (by simp)) hv
        have e2 := e1 hr fun x hx => by
          have : closed (.tuple rest) = true := hrest
          rw [closed_tuple, List.all_eq_true] at this
          exact this x hx
        subst e2
        have e3 : args' = (.pointer (some ⟨l.b, l.d + 0, none⟩) :: rest.toList).toArray := by apply Array.ext'; simpa using hal
        rw [e3]
        have e4 : (#[.pointer (some ⟨0, 0, none⟩)] ++ rest : Array Value) = (.pointer (some ⟨0, 0, none⟩) :: rest.toList).toArray := by apply Array.ext'; simp
        rw [e4]
        refine (LRel.cons (.ptr (by simp [r0])) ?_).tuple
        have h6 := rel_closed r0 hrest
        cases h6 with
        | tuple hs hx => exact LRel.of_agg (.agg hs hx)
  refine (hc _ r0 args' w hrel0 hargs0).mono ?_
  rintro en w' ⟨u, v', r', h', rfl, ⟨rfl, hk'⟩, hvr, hrr, hnn, hx⟩
  have e1 := closed_eq hv hvr
  subst e1
  have hr0 : r' 0 = some l := by
    rw [hrr 0 (by simp)]; simp [r0]
  have hb' := blk_closed (r' := r) hcl' (hx.blk 0 l _ hr0 hk')
  have old : ∀ (b : Nat) (o : Obj), b ≠ l.b → w.heap[b]? = some o → w'.heap[b]? = some o := fun b o hbl ho => hx.safe b (o, true) (by simp only [hbl, if_false, ho, Option.map_some])
  refine ⟨v', v', r, _, rfl, ⟨rfl, rfl⟩, rel_closed _ hv, fun _ _ => rfl, Nat.le_refl _, ?_⟩
  have apartL : ∀ m l2 k2, m ≠ n → r m = some l2 → h.get m = some k2 → k2 ≠ .dead → l2.b ≠ l.b := fun m l2 k2 hm h2 g2 hd2 =>
    (hh.inj n m l l2 _ k2 (Ne.symm hm) hl h2 hn g2 rfl hd2).symm
  refine ⟨fun m => ?_, fun m hm => ?_, fun m l' q hm hq => ?_, fun m m' l1 l2 k1 k2 hmm e1 e2 g1 g2 hw1 hd1 => ?_, fun b o hbo => ?_, fun b o hbo m l' q hm hlb hq => ?_, hx.ext.trans hh.ext⟩
  · by_cases e : m = n
    · subst e; simp [Heap.set, hl]
    · rw [Heap.set_ne _ _ e]; exact hh.dom m
  · have : m ≠ n := fun e => by
      subst e
      have := hh.lt m l hl
      simp only [Heap.set] at hm; omega
    rw [Heap.set_ne _ _ this]; exact hh.fresh m hm
  · by_cases e : m = n
    · subst e
      rw [hl] at hm; cases hm
      rw [Heap.set_same] at hq; cases hq
      exact hb'
    · rw [Heap.set_ne _ _ e] at hq
      have hx2 := hh.blk m l' q hm hq
      by_cases hd2 : q = .dead
      · subst hd2; trivial
      · obtain ⟨o, ho⟩ := blk_some hx2 hd2
        rw [ho] at hx2
        rw [old _ _ (apartL m l' q e hm hq hd2) ho]; exact hx2
  · by_cases e : m = n
    · subst e
      rw [Heap.set_ne _ _ (Ne.symm hmm)] at g2
      rw [hl] at e1; cases e1
      exact (apartL m' l2 k2 (Ne.symm hmm) e2 g2 hd1).symm
    · rw [Heap.set_ne _ _ e] at g1
      by_cases e' : m' = n
      · subst e'
        rw [hl] at e2; cases e2
        exact apartL m l1 k1 e e1 g1 (by intro e; subst e; simp [Blk.wr] at hw1)
      · rw [Heap.set_ne _ _ e'] at g2
        exact hh.inj m m' l1 l2 k1 k2 hmm e1 e2 g1 g2 hw1 hd1
  · have hne : b ≠ l.b := fun e => by
      have := hh.keep b o hbo n l _ hl e.symm hn
      exact absurd this.1 (by simp [Blk.wr])
    exact old b o.1 hne (hh.safe b o hbo)
  · have hne : b ≠ l.b := fun e => by
      have := hh.keep b o hbo n l _ hl e.symm hn
      exact absurd this.1 (by simp [Blk.wr])
    have e : m ≠ n := fun e => by
      subst e; rw [hl] at hm; cases hm; exact hne hlb.symm
    rw [Heap.set_ne _ _ e] at hq
    exact hh.keep b o hbo m l' q hm hlb hq
end Go.Mir

