/- Regions whose order is open, with an allocation that nothing else looks at until all else is done. By a session's own hand. -/
import Derived.Test.YtlpenkjkggopiaaGreatMO
set_option linter.unusedSimpArgs false
set_option linter.unusedVariables false
namespace Go.Mir

/-- a block that no living row lies in, kept as it is -/
def hide (prot : Prot) (b : Nat) (o : Obj) : Prot := ⟨fun x => if x = b then some (o, true) else prot x, prot.ext⟩

theorem HRel.hide {prot : Prot} {r : Ren} {h : Heap} {w w' : World} (hh : HRel prot r h w) {obj : Obj} (hw : w'.heap = w.heap.push obj) (ex : (w'.os, w'.output) = (w.os, w.output) := by rfl) : HRel (hide prot w.heap.size obj) r h w' := by
  have old : ∀ b o, w.heap[b]? = some o → w'.heap[b]? = some o := fun b o e => by
    obtain ⟨hlt, _⟩ := Array.getElem?_eq_some_iff.1 e
    rw [hw, Array.getElem?_push, if_neg (by omega)]; exact e
  refine ⟨hh.dom, hh.fresh, fun n l k h1 h2 => ?_, hh.inj, fun b o hb => ?_, fun b o hb n l k h1 h2 h3 => ?_, ex.trans hh.ext⟩
  · have hb := hh.blk n l k h1 h2
    by_cases hd : k = .dead
    · subst hd; trivial
    · obtain ⟨o, ho⟩ := blk_some hb hd
      rw [ho] at hb; rw [old _ _ ho]; exact hb
  · simp only [Mir.hide] at hb
    split at hb
    · rename_i e; subst e; cases hb; rw [hw, Array.getElem?_push, if_pos rfl]
    · exact old b _ (hh.safe b o hb)
  · simp only [Mir.hide] at hb
    split at hb
    · rename_i e
      have hd : k = .dead := by
        refine Classical.byContradiction fun hd => ?_
        obtain ⟨o, ho⟩ := blk_some (hh.blk n l k h1 h3) hd
        have := (Array.getElem?_eq_some_iff.1 ho).1
        omega
      subst hd; exact ⟨rfl, fun _ => rfl⟩
    · exact hh.keep b o hb n l k h1 h2 h3

theorem HRel.unhide {prot : Prot} {r : Ren} {h : Heap} {w : World} {b : Nat} {obj : Obj} (hh : HRel (Mir.hide prot b obj) r h w) (hp : prot b = none) {n : Nat} (hn : h.get n = none) (hlt : n < h.next)
    {l : Loc} (hl : l.b = b) {k : Blk} (hk : BlkRel (r.add n l) l k (some obj)) : HRel prot (r.add n l) (h.set n k) w := by
  have hr : r n = none := (hh.dom n).2 hn
  have hb0 : Mir.hide prot b obj b = some (obj, true) := by simp [Mir.hide]
  have hw : w.heap[b]? = some obj := hh.safe b _ hb0
  have hne : ∀ x o, prot x = some o → Mir.hide prot b obj x = some o := fun x o e => by
    have : x ≠ b := fun q => by subst q; rw [hp] at e; cases e
    simp only [Mir.hide, this, if_false]; exact e
  have apartL : ∀ m l' k', r m = some l' → h.get m = some k' → k' ≠ .dead → l'.b ≠ b := fun m l' k' h1 h2 h3 e => h3 ((hh.keep b _ hb0 m l' k' h1 e h2).2 rfl)
  refine ⟨fun m => ?_, fun m hm => ?_, fun m l' k' hm hk' => ?_, fun m m' l1 l2 k1 k2 hmm h1 h2 g1 g2 hwr hd => ?_, fun x o hx => hh.safe x o (hne x o hx), fun x o hx m l' k' hm hlb hk' => ?_, hh.ext⟩
  · by_cases q : m = n
    · subst q; simp [Ren.add, Heap.set]
    · rw [Ren.add_ne _ _ q, Heap.set_ne _ _ q]; exact hh.dom m
  · rw [Heap.set_ne _ _ (by simp only [Heap.set] at hm; omega)]; exact hh.fresh m hm
  · by_cases q : m = n
    · subst q
      rw [Ren.add_same] at hm; cases hm
      rw [Heap.set_same] at hk'; cases hk'
      rw [hl, hw]; exact hk
    · rw [Ren.add_ne _ _ q] at hm
      rw [Heap.set_ne _ _ q] at hk'
      exact (hh.blk m l' k' hm hk').mono (Ren.le_add hr l)
  · by_cases q : m = n
    · subst q
      rw [Ren.add_same] at h1; cases h1
      have q' : m' ≠ m := Ne.symm hmm
      rw [Ren.add_ne _ _ q'] at h2; rw [Heap.set_ne _ _ q'] at g2
      exact fun e => apartL m' l2 k2 h2 g2 hd (by rw [← e, hl])
    · rw [Ren.add_ne _ _ q] at h1; rw [Heap.set_ne _ _ q] at g1
      by_cases q' : m' = n
      · subst q'
        rw [Ren.add_same] at h2; cases h2
        exact fun e => apartL m l1 k1 h1 g1 (by intro e; subst e; simp [Blk.wr] at hwr) (by rw [e, hl])
      · rw [Ren.add_ne _ _ q'] at h2; rw [Heap.set_ne _ _ q'] at g2
        exact hh.inj m m' l1 l2 k1 k2 hmm h1 h2 g1 g2 hwr hd
  · by_cases q : m = n
    · subst q
      rw [Ren.add_same] at hm; cases hm
      rw [← hlb, hl, hp] at hx; cases hx
    · rw [Ren.add_ne _ _ q] at hm; rw [Heap.set_ne _ _ q] at hk'
      exact hh.keep x o (hne x o hx) m l' k' hm hlb hk'

/-! ### the region, with the allocation put behind all that does not hang on it -/

def othersOf (ops : Array Oper) (i0 : Nat) : List Nat := (List.range ops.size).filter fun j => !Nat.beq j i0 && !dep ops i0 j

def lateOps (ops : Array Oper) (i0 : Nat) : Array Oper := match ops[i0]? with
  | none => ops
  | some o => ops.setIfInBounds i0 { o with after := o.after ++ ((othersOf ops i0).map fun j => (⟨j, .data⟩ : Edge)).toArray }

section
variable {P : Program} {tab : Tab} {N : Nat} {ops : Array Oper} {pend : Pend} {i0 d : Nat} {o0 : Oper} {mk : Nat → Value} {blk : Blk}

theorem late_same (h0 : ops[i0]? = some o0) : (lateOps ops i0)[i0]? = some { o0 with after := o0.after ++ ((othersOf ops i0).map fun j => (⟨j, .data⟩ : Edge)).toArray } := by
  have hlt := (Array.getElem?_eq_some_iff.1 h0).1
  simp only [lateOps, h0, Array.getElem?_setIfInBounds_self_of_lt hlt]
theorem late_ne (h0 : ops[i0]? = some o0) {j : Nat} (hj : j ≠ i0) : (lateOps ops i0)[j]? = ops[j]? := by
  simp [lateOps, h0, Array.getElem?_setIfInBounds_ne (Ne.symm hj)]
theorem late_size (h0 : ops[i0]? = some o0) : (lateOps ops i0).size = ops.size := by simp [lateOps, h0]

theorem late_dst (h0 : ops[i0]? = some o0) (j : Nat) : ((lateOps ops i0)[j]?).bind (·.dst) = (ops[j]?).bind (·.dst) := by
  by_cases hj : j = i0
  · subst hj; rw [late_same h0, h0]; rfl
  · rw [late_ne h0 hj]
theorem late_wanted (h0 : ops[i0]? = some o0) (o : Oper) (ρ : Env) : wantedA (lateOps ops i0) o ρ = wantedA ops o ρ := by
  unfold wantedA
  simp only [late_dst h0]

theorem ready_listed (h0 : ops[i0]? = some o0) {listed : Array Bool} (hl : listed.getD i0 false = true) (hs : listed.size = ops.size) (j : Nat) : j ∈ Region.ready .any (lateOps ops i0) listed ↔ j ∈ Region.ready .any ops listed := by
  have hlt := (Array.getElem?_eq_some_iff.1 h0).1
  have ne : listed.getD j true = false → j ≠ i0 := fun h e => by
    subst e
    have : j < listed.size := by omega
    simp [this] at hl h
    rw [hl] at h; cases h
  rw [mem_ready, mem_ready]
  constructor
  · rintro ⟨a, o, b, c⟩; exact ⟨a, o, by rw [← late_ne h0 (ne a)]; exact b, c⟩
  · rintro ⟨a, o, b, c⟩; exact ⟨a, o, by rw [late_ne h0 (ne a)]; exact b, c⟩

theorem empty_iff {a b : List Nat} (h : ∀ j, j ∈ a ↔ j ∈ b) : a = [] ↔ b = [] := by
  simp only [List.eq_nil_iff_forall_not_mem, h]

/-- behind the allocation, the two regions are one -/
theorem late_c (hg : Good P tab) (h0 : ops[i0]? = some o0) {K : Env → Heap → Prop} {G : Ghost} (hN : G.N = N) {Qc : Exit → Act → World → Prop} (hK : ∀ ρ h a w, K ρ h → Rel G ρ h a w → Qc .normal a w) :
    ∀ (fuel : Nat) (listed : Array Bool) (ρ : Env) (h : Heap) (a : Act) (w : World), listed.size = ops.size → listed.getD i0 false = true → AAny P tab N (lateOps ops i0) pend K fuel listed ρ h → Rel G ρ h a w → wpAnyIn (WR G.ro) 0 P .any ops Qc fuel listed a w := by
  intro fuel
  induction fuel with
  | zero => intro listed ρ h a w hs hl ha hr; exact ⟨(empty_iff (ready_listed h0 hl hs)).1 ha.1, hK _ _ _ _ ha.2 hr⟩
  | succ fuel ih =>
    intro listed ρ h a w hs hl ha hr
    refine ⟨fun e => hK _ _ _ _ (ha.1 ((empty_iff (ready_listed h0 hl hs)).2 e)) hr, fun i hi => ?_⟩
    have hlt := (Array.getElem?_eq_some_iff.1 h0).1
    have hne : i ≠ i0 := fun e => by
      subst e
      have h1 := (mem_ready.1 hi).1
      have : i < listed.size := by omega
      simp [this] at hl h1
      rw [hl] at h1; cases h1
    have hst := ha.2 i ((ready_listed h0 hl hs i).2 hi)
    unfold AStep at hst
    rw [late_ne h0 hne] at hst
    unfold wpOpIn
    cases ho : ops[i]? with
    | none => simp [ho] at hst
    | some o =>
      simp only [ho] at hst ⊢
      obtain ⟨hd, b, hb, ht, hf⟩ := hst
      rw [late_wanted h0] at hb
      subst hN
      have hw : Region.wanted o (yielded ops a.tmps) = b := by
        obtain ⟨_, _, r, _, _, he, _⟩ := hr
        exact wanted_eq he hb
      simp only [hw]
      have hs' : (listed.setIfInBounds i true).size = ops.size := by simpa using hs
      cases b with
      | true =>
        simp only [if_true]
        exact Oper.wpIn_mono (fun a' w' ⟨v, h', ⟨_, hk⟩, hr'⟩ => ih _ _ _ a' w' hs' (getD_set_true hl) hk hr') ((ht rfl).run hg hr hd Qc)
      | false =>
        simp only [Bool.false_eq_true, if_false]
        exact ⟨fun _ _ => trivial, ih _ _ _ _ w hs' (getD_set_true hl) (hf rfl) (putO_skip hr hd)⟩

def RelH (G : Ghost) (d : Nat) (mk : Nat → Value) (blk : Blk) (ρ : Env) (h : Heap) (a : Act) (w : World) : Prop :=
  ∃ (G' : Ghost) (obj : Obj) (l : Loc), G'.N = G.N ∧ G.holds a.defers ∧ G'.ro = G.ro ∧ Rel G' (putO ρ (some d) (.chan none)) h a w ∧ G'.prot = hide G.prot l.b obj ∧ G.prot l.b = none ∧ (∀ n, n < G.n0 → G'.r0 n = G.r0 n) ∧ G.n0 ≤ G'.n0 ∧
    (∀ n, G'.n0 ≤ n → G'.r0 n = none) ∧ ∀ r', G'.r0.le r' → BlkRel r' l blk (some obj) ∧ ∀ n, r' n = some l → VRel r' (mk n) (a.tmps.getD d undef)

theorem RelH.unhide {G : Ghost} {ρ : Env} {h : Heap} {a : Act} {w : World} (hr : RelH G d mk blk ρ h a w) : Rel G (putO ρ (some d) (mk h.next)) (h.bump.set h.next blk) a w ∧ ∀ n, h.next ≤ n → h.get n = none := by
  obtain ⟨G', obj, l, g1, q1, q2, ⟨g2, g3, r, g4, g5, g6, g7⟩, g8, g9, g10, g11, g12, g13⟩ := hr
  refine ⟨?_, g7.fresh⟩
  have hrn : r h.next = none := (g7.dom _).2 (g7.fresh _ (Nat.le_refl _))
  have le : r.le (r.add h.next l) := Ren.le_add hrn l
  have le0 : G'.r0.le r := fun n x e => by
    have : n < G'.n0 := Classical.byContradiction fun q => by rw [g12 n (by omega)] at e; cases e
    rw [g4 n this]; exact e
  obtain ⟨b1, b2⟩ := g13 _ (fun n x e => le n x (le0 n x e))
  rw [g8] at g7
  have hh := (g7.bump).unhide g9 (n := h.next) (k := blk) (g7.fresh _ (Nat.le_refl _)) (by simp [Heap.bump]) rfl b1
  refine ⟨q1, by rw [g3, g1], r.add h.next l, fun n hn => ?_, by simp only [Heap.set, Heap.bump]; omega, fun i => ?_, hh⟩
  · rw [Ren.add_ne _ _ (by omega), g4 n (by omega)]; exact g10 n hn
  · by_cases hi : i = d
    · subst hi
      show VRel _ (put ρ i (mk h.next) i) _
      rw [put_same]; exact b2 _ (Ren.add_same _ _ _)
    · have := g6 i
      show VRel _ (put ρ d (mk h.next) i) _
      change VRel _ (put ρ d (.chan none) i) _ at this
      rw [put_ne _ _ hi] at this ⊢
      exact this.mono le

theorem wstep_alloc {o : Oper} {ρ : Env} {h : Heap} {K : Value → Heap → Prop} (hal : aalloc tab ρ o = some (mk, blk)) (hno : aval tab ρ o = none ∧ ard tab ρ o = none ∧ acallee ρ o = none ∧ ayield ρ o = none ∧ ∀ n h, aeff tab ρ n o h = none)
    (hw : WStep P tab o ρ h K) (hf : ∀ n, h.next ≤ n → h.get n = none) : K (mk h.next) (h.bump.set h.next blk) := by
  obtain ⟨n1, n2, n3, n5, n4⟩ := hno
  cases hw with
  | pop hp hk =>
    cases hp with
    | val hv => rw [n1] at hv; cases hv
    | rd hv _ _ => rw [n2] at hv; cases hv
    | call hv _ => rw [n3] at hv; cases hv
  | alloc ha hk => rw [hal] at ha; cases ha; exact hk hf
  | eff ha hk => rw [n4] at ha; cases ha
  | call ha _ => rw [n3] at ha; cases ha
  | yield ha _ => rw [n5] at ha; cases ha

/-- what is to be looked up about a region and its late allocation -/
structure LateOK (ops : Array Oper) (i0 : Nat) (o0 : Oper) (d : Nat) : Prop where
  at0 : ops[i0]? = some o0
  free : o0.guard = none
  dst : o0.dst = some d
  direct : ∀ k ok, ops[k]? = some ok → (∃ e ∈ ok.after, Region.binds .any e = true ∧ e.on = i0) → ∀ j ∈ othersOf ops i0, dep ops j k = true
  apart : ∀ j ∈ othersOf ops i0, ∀ oj, ops[j]? = some oj → o0.apart ops oj = true
  more : ∀ listed : Array Bool, listed.size = ops.size → listed.getD i0 false = false → Region.ready .any (lateOps ops i0) listed ≠ []

theorem mem_others {j : Nat} (hj : j < ops.size) (hne : j ≠ i0) (hd : dep ops i0 j = false) : j ∈ othersOf ops i0 := by
  have : Nat.beq j i0 = false := by
    cases hb : Nat.beq j i0
    · rfl
    · exact absurd (Nat.eq_of_beq_eq_true hb) hne
  simp [othersOf, hj, this, hd]

/-- ready in the one, ready in the other: ahead of the allocation -/
theorem ready_ahead (H : LateOK ops i0 o0 d) {listed : Array Bool} {j : Nat} (hne : j ≠ i0) : j ∈ Region.ready .any (lateOps ops i0) listed ↔ j ∈ Region.ready .any ops listed := by
  rw [mem_ready, mem_ready, late_ne H.at0 hne]

def cnt (l : Array Bool) : Nat := l.toList.count false
theorem cnt_set' : ∀ (l : List Bool) (j : Nat), l[j]? = some false → (l.set j true).count false + 1 = l.count false
  | [], j, h => by simp at h
  | x :: l, 0, h => by simp at h; subst h; simp
  | x :: l, j + 1, h => by
    have := cnt_set' l j (by simpa using h)
    simp only [List.set_cons_succ, List.count_cons]
    omega
theorem cnt_set {l : Array Bool} {j : Nat} (h : l.getD j true = false) : cnt (l.setIfInBounds j true) + 1 = cnt l := by
  unfold cnt
  rw [Array.toList_setIfInBounds]
  refine cnt_set' _ _ ?_
  rw [Array.getD_eq_getD_getElem?] at h
  cases hq : l[j]? with
  | none => rw [hq] at h; cases h
  | some b => rw [hq] at h; simp at h; subst h; rw [Array.getElem?_toList]; exact hq
theorem cnt_zero {l : Array Bool} (h : cnt l = 0) {j : Nat} (hj : j < l.size) : l.getD j false = true := by
  unfold cnt at h
  rw [List.count_eq_zero] at h
  have : l[j] ≠ false := fun e => h (e ▸ by simp)
  simp [hj]
  simpa using this

theorem unlisted {l : Array Bool} {j : Nat} (hj : j < l.size) : l.getD j true = false ↔ l.getD j false = false := by simp [hj]


theorem all_listed (H : LateOK ops i0 o0 d) {listed : Array Bool} (hs : listed.size = ops.size) (he : Region.ready .any (lateOps ops i0) listed = []) : listed.getD i0 false = true := by
  cases hb : listed.getD i0 false with
  | true => rfl
  | false => exact absurd he (H.more listed hs hb)

/-- the allocation is done already, and is not told of yet -/
theorem late_b (hg : Good P tab) (H : LateOK ops i0 o0 d) (hal : ∀ ρ, aalloc tab ρ o0 = some (mk, blk)) (hno : ∀ ρ, aval tab ρ o0 = none ∧ ard tab ρ o0 = none ∧ acallee ρ o0 = none ∧ ayield ρ o0 = none ∧ ∀ n h, aeff tab ρ n o0 h = none)
    {K : Env → Heap → Prop} {G : Ghost} (hN : G.N = N) {Qc : Exit → Act → World → Prop} (hK : ∀ ρ h a w, K ρ h → Rel G ρ h a w → Qc .normal a w) :
    ∀ (fuel : Nat) (listed : Array Bool) (ρ : Env) (h : Heap) (a : Act) (w : World), listed.size = ops.size → listed.getD i0 false = false → Closed ops listed → i0 ∈ Region.ready .any ops listed → cnt listed = fuel + 1 →
      AAny P tab N (lateOps ops i0) pend K (fuel + 1) listed ρ h → RelH G d mk blk ρ h a w → wpAnyIn (WR G.ro) 0 P .any ops Qc fuel (listed.setIfInBounds i0 true) a w := by
  have hlt := (Array.getElem?_eq_some_iff.1 H.at0).1
  intro fuel
  induction fuel with
  | zero =>
    intro listed ρ h a w hs hl hcl hi0 hc ha hr
    have hall : ∀ j, j < listed.size → j ≠ i0 → listed.getD j false = true := fun j hj hne => by
      have h1 := cnt_zero (l := listed.setIfInBounds i0 true) (by have := cnt_set ((unlisted (by omega)).2 hl); omega) (j := j) (by simpa using hj)
      rw [getD_set_ne false (Ne.symm hne)] at h1; exact h1
    have hr0 : i0 ∈ Region.ready .any (lateOps ops i0) listed := by
      have hne := H.more listed hs hl
      obtain ⟨j, hj⟩ := List.exists_mem_of_ne_nil _ hne
      by_cases e : j = i0
      · subst e; exact hj
      · obtain ⟨hu, o, ho, _⟩ := mem_ready.1 hj
        rw [late_ne H.at0 e] at ho
        have hjlt : j < listed.size := by rw [hs]; exact (Array.getElem?_eq_some_iff.1 ho).1
        rw [unlisted hjlt, hall j hjlt e] at hu; cases hu
    have hst := ha.2 i0 hr0
    unfold AStep at hst
    rw [late_same H.at0] at hst
    obtain ⟨_, b, hb, ht, _⟩ := hst
    have hbt : b = true := by
      unfold wantedA at hb; simp only [H.free] at hb; cases hb; rfl
    subst hbt
    obtain ⟨hr1, hf⟩ := hr.unhide
    obtain ⟨_, hk⟩ := wstep_alloc (mk := mk) (blk := blk) (by exact hal ρ) (by exact hno ρ) (ht rfl) hf
    rw [show ({ o0 with after := o0.after ++ ((othersOf ops i0).map fun j => (⟨j, .data⟩ : Edge)).toArray } : Oper).dst = some d from H.dst] at hk
    have hl1 : (listed.setIfInBounds i0 true).getD i0 false = true := by simp [show i0 < listed.size by omega]
    exact late_c hg H.at0 hN hK 0 _ _ _ a w (by simpa using hs) hl1 hk hr1
  | succ fuel ih =>
    intro listed ρ h a w hs hl hcl hi0 hc ha hr
    have hs1 : (listed.setIfInBounds i0 true).size = ops.size := by simpa using hs
    have hl1 : (listed.setIfInBounds i0 true).getD i0 false = true := by simp [show i0 < listed.size by omega]
    by_cases hr0 : i0 ∈ Region.ready .any (lateOps ops i0) listed
    · have hst := ha.2 i0 hr0
      unfold AStep at hst
      rw [late_same H.at0] at hst
      obtain ⟨_, b, hb, ht, _⟩ := hst
      have hbt : b = true := by
        unfold wantedA at hb; simp only [H.free] at hb; cases hb; rfl
      subst hbt
      obtain ⟨hr1, hf⟩ := hr.unhide
      obtain ⟨_, hk⟩ := wstep_alloc (mk := mk) (blk := blk) (by exact hal ρ) (by exact hno ρ) (ht rfl) hf
      rw [show ({ o0 with after := o0.after ++ ((othersOf ops i0).map fun j => (⟨j, .data⟩ : Edge)).toArray } : Oper).dst = some d from H.dst] at hk
      exact late_c hg H.at0 hN hK (fuel + 1) _ _ _ a w hs1 hl1 hk hr1
    · -- all that is ready is ready in the other region
      have hcl1 : Closed ops (listed.setIfInBounds i0 true) := hcl.set hi0
      have key : ∀ j, j ∈ Region.ready .any ops (listed.setIfInBounds i0 true) → j ≠ i0 ∧ j ∈ Region.ready .any ops listed := by
        intro j hj
        have hj' := mem_ready.1 hj
        obtain ⟨hu, o, ho, hall⟩ := hj'
        have hjlt : j < ops.size := (Array.getElem?_eq_some_iff.1 ho).1
        have hne : j ≠ i0 := fun e => by
          subst e
          rw [unlisted (by omega), hl1] at hu; cases hu
        rw [getD_set_ne true (Ne.symm hne)] at hu
        refine ⟨hne, mem_ready.2 ⟨hu, o, ho, fun e he hb => ?_⟩⟩
        by_cases q : e.on = i0
        · exfalso
          have hd := H.direct j o ho ⟨e, he, hb, q⟩
          refine hr0 (mem_ready.2 ⟨(unlisted (by omega)).2 hl, _, late_same H.at0, fun e' he' hb' => ?_⟩)
          simp only [Array.mem_append, List.mem_toArray, List.mem_map] at he'
          rcases he' with he' | ⟨k, hk, rfl⟩
          · obtain ⟨_, o', ho', hall'⟩ := mem_ready.1 hi0
            rw [H.at0] at ho'; cases ho'
            exact hall' e' he' hb'
          · have h1 := dep_listed hcl1 hs1 (hd k hk) hj
            have hkne : k ≠ i0 := fun e => by
              subst e
              simp [othersOf, Nat.beq_refl] at hk
            rw [getD_set_ne false (Ne.symm hkne)] at h1
            exact h1
        · have := hall e he hb
          rwa [getD_set_ne false (Ne.symm q)] at this
      refine ⟨fun e => ?_, fun j hj => ?_⟩
      · exfalso
        obtain ⟨j, hj⟩ := List.exists_mem_of_ne_nil _ (H.more listed hs hl)
        by_cases q : j = i0
        · subst q; exact hr0 hj
        · have := ready_mono (i := i0) ((ready_ahead H q).1 hj) q
          rw [e] at this; cases this
      · obtain ⟨hne, hj1⟩ := key j hj
        obtain ⟨hju, oj, hoj, hall⟩ := mem_ready.1 hj1
        have hjlt : j < ops.size := (Array.getElem?_eq_some_iff.1 hoj).1
        have hst := ha.2 j ((ready_ahead H hne).2 hj1)
        have hdep : dep ops i0 j = false := by
          cases hd : dep ops i0 j
          · rfl
          · have := dep_listed hcl hs hd hj1; rw [hl] at this; cases this
        obtain ⟨p1, p2, p3⟩ := Oper.apart_spec (H.apart j (mem_others hjlt hne hdep) oj hoj)
        unfold AStep at hst
        rw [late_ne H.at0 hne, hoj] at hst
        obtain ⟨hd, b, hb, ht, hf⟩ := hst
        rw [late_wanted H.at0] at hb
        unfold wpOpIn
        rw [hoj]
        simp only []
        obtain ⟨G', obj, l, g1, q1, q2, g2, g8, g9, g10, g11, g12, g13⟩ := hr
        subst hN
        have hwd : wantedA ops oj (putO ρ (some d) (.chan none)) = some b := by
          rw [look_wanted (o := oj) (d := some d) fun t e => by cases e; exact p1 d H.dst]; exact hb
        have hw : Region.wanted oj (yielded ops a.tmps) = b := by
          obtain ⟨_, _, r, _, _, he, _⟩ := g2
          exact wanted_eq he hwd
        have hs' : (listed.setIfInBounds j true).size = ops.size := by simpa using hs
        have hl' : (listed.setIfInBounds j true).getD i0 false = false := by rw [getD_set_ne false hne]; exact hl
        have hc' : cnt (listed.setIfInBounds j true) = fuel + 1 := by have := cnt_set hju; omega
        have hi0' : i0 ∈ Region.ready .any ops (listed.setIfInBounds j true) := ready_mono hi0 (Ne.symm hne)
        have hcomm : (listed.setIfInBounds i0 true).setIfInBounds j true = (listed.setIfInBounds j true).setIfInBounds i0 true := Array.setIfInBounds_comm _ _ (Ne.symm hne)
        have hdne : oj.dst ≠ some d := p2 d H.dst
        have keepd : ∀ u, (a.put oj.dst u).tmps.getD d undef = a.tmps.getD d undef := fun u => by
          cases hq : oj.dst with
          | none => rfl
          | some t =>
            have : t ≠ d := fun e => hdne (by rw [hq, e])
            simp [Act.put, Array.getElem?_setIfInBounds_ne this]
        simp only [hw]
        rw [hcomm]
        cases b with
        | true =>
          simp only [if_true]
          have hrun2 := ((ht rfl).congr (ρ' := putO ρ (some d) (.chan none)) fun x hx => (look_ev (o := oj) (d := some d) (fun t e => by cases e; exact p1 d H.dst) x hx).symm).run2 hg g2 (by rw [g1]; exact hd) Qc
          rw [q2] at hrun2
          refine Oper.wpIn_mono ?_ hrun2
          rintro a' w' ⟨v, h', ⟨_, hk⟩, hr', u, rfl⟩
          refine ih _ _ _ _ w' hs' hl' (hcl.set hj1) hi0' hc' hk ⟨G', obj, l, g1, by rw [Act.put_def]; exact q1, q2, ?_, g8, g9, g10, g11, g12, ?_⟩
          · rw [put_comm (x := oj.dst) (y := some d) (fun t e q => by cases q; exact hdne e)]; exact hr'
          · rw [keepd]; exact g13
        | false =>
          simp only [Bool.false_eq_true, if_false]
          refine ⟨fun _ _ => trivial, ih _ _ _ _ w hs' hl' (hcl.set hj1) hi0' hc' (hf rfl) ⟨G', obj, l, g1, by rw [Act.put_def]; exact q1, q2, ?_, g8, g9, g10, g11, g12, ?_⟩⟩
          · rw [put_comm (x := oj.dst) (y := some d) (fun t e q => by cases q; exact hdne e)]; exact putO_skip g2 (by rw [g1]; exact hd)
          · rw [keepd]; exact g13

/-- the allocation is not done yet -/
theorem late_a (hg : Good P tab) (H : LateOK ops i0 o0 d) (hdN : okDst N (some d) = true) (hal : ∀ ρ, aalloc tab ρ o0 = some (mk, blk)) (hno : ∀ ρ, aval tab ρ o0 = none ∧ ard tab ρ o0 = none ∧ acallee ρ o0 = none ∧ ayield ρ o0 = none ∧ ∀ n h, aeff tab ρ n o0 h = none)
    (hone : ∀ n, (mk n).oneCell' = true) {K : Env → Heap → Prop} {G : Ghost} (hN : G.N = N) {Qc : Exit → Act → World → Prop} (hK : ∀ ρ h a w, K ρ h → Rel G ρ h a w → Qc .normal a w) :
    ∀ (fuel : Nat) (listed : Array Bool) (ρ : Env) (h : Heap) (a : Act) (w : World), listed.size = ops.size → listed.getD i0 false = false → Closed ops listed → cnt listed = fuel →
      AAny P tab N (lateOps ops i0) pend K fuel listed ρ h → Rel G ρ h a w → wpAnyIn (WR G.ro) 0 P .any ops Qc fuel listed a w := by
  have hlt := (Array.getElem?_eq_some_iff.1 H.at0).1
  intro fuel
  induction fuel with
  | zero =>
    intro listed ρ h a w hs hl hcl hc ha hr
    have := cnt_zero hc (j := i0) (by omega)
    rw [hl] at this; cases this
  | succ fuel ih =>
    intro listed ρ h a w hs hl hcl hc ha hr
    refine ⟨fun e => ?_, fun j hj => ?_⟩
    · exfalso
      obtain ⟨j, hj⟩ := List.exists_mem_of_ne_nil _ (H.more listed hs hl)
      by_cases q : j = i0
      · subst q
        obtain ⟨hu, o, ho, hall⟩ := mem_ready.1 hj
        rw [late_same H.at0] at ho; cases ho
        have : j ∈ Region.ready .any ops listed := mem_ready.2 ⟨hu, o0, H.at0, fun e he hb => hall e (by simp [he]) hb⟩
        rw [e] at this; cases this
      · have := (ready_ahead H q).1 hj
        rw [e] at this; cases this
    · obtain ⟨hju, oj, hoj, hall⟩ := mem_ready.1 hj
      unfold wpOpIn
      rw [hoj]
      simp only []
      by_cases hji : j = i0
      · subst hji
        rw [H.at0] at hoj; cases hoj
        have hw : Region.wanted o0 (yielded ops a.tmps) = true := by unfold Region.wanted; rw [H.free]
        simp only [hw, if_true]
        obtain ⟨g1, g2, r, g3, g4, g5, g6⟩ := hr
        obtain ⟨v', w', l, obj, hrun, ⟨hheap, hext⟩, hlb, hblk, hv⟩ := aalloc_run hg.tabOK g5 (hal ρ) w
        refine wpin (fun c hc => by have := hal ρ; simp [aalloc, hc] at this) hrun ?_
        have hone' : v'.oneCell' = true := by
          have := rel_oneCell (hv (r.add h.next l) h.next (Ren.le_add ((g6.dom _).2 (g6.fresh _ (Nat.le_refl _))) l) (Ren.add_same _ _ _))
          rw [this]; exact hone _
        have hdlt : d < a.tmps.size := by rw [g2, hN]; simpa [okDst] using hdN
        have hval : (a.put o0.dst v').tmps.getD d undef = v' := by rw [H.dst]; simp [Act.put, hdlt]
        refine late_b hg H hal hno hN hK fuel listed ρ h _ w' hs hl hcl hj hc ha ⟨⟨hide G.prot l.b obj, r, h.next, G.N, G.ro, G.marks⟩, obj, l, rfl, by rw [Act.put_def]; exact g1, rfl, ?_, rfl, ?_, g3, g4, fun n hn => (g6.dom n).2 (g6.fresh n hn), ?_⟩
        · rw [H.dst]
          have hfresh : ∀ b o, G.prot b = some o → hide G.prot l.b obj b = some o := fun b o hb => by
            have : b ≠ l.b := fun e => by
              rw [e] at hb
              have := (Array.getElem?_eq_some_iff.1 (g6.safe _ _ hb)).1
              omega
            simp only [hide, this, if_false]; exact hb
          refine ⟨⟨by rw [Act.put_def]; exact g1.1, g1.2.1, fun D hD => hfresh _ _ (g1.2.2.1 D hD), fun q hq => by
            obtain ⟨rec, hrec⟩ := g1.2.2.2 q hq
            exact ⟨rec, hfresh _ _ hrec⟩⟩, by rw [Act.put_size]; exact g2, r, fun _ _ => rfl, Nat.le_refl _, g5.put hdlt (.junk hone'), ?_⟩
          rw [hlb]; exact g6.hide hheap hext
        · cases hp : G.prot l.b with
          | none => rfl
          | some o =>
            have := (Array.getElem?_eq_some_iff.1 (g6.safe _ _ hp)).1
            omega
        · intro r' hle
          refine ⟨hblk r' hle, fun n hn => ?_⟩
          rw [hval]; exact hv r' n hle hn
      · have hst := ha.2 j ((ready_ahead H hji).2 hj)
        unfold AStep at hst
        rw [late_ne H.at0 hji, hoj] at hst
        obtain ⟨hd, b, hb, ht, hf⟩ := hst
        rw [late_wanted H.at0] at hb
        subst hN
        have hw : Region.wanted oj (yielded ops a.tmps) = b := by
          obtain ⟨_, _, r, _, _, he, _⟩ := hr
          exact wanted_eq he hb
        have hs' : (listed.setIfInBounds j true).size = ops.size := by simpa using hs
        have hl' : (listed.setIfInBounds j true).getD i0 false = false := by rw [getD_set_ne false hji]; exact hl
        have hc' : cnt (listed.setIfInBounds j true) = fuel := by have := cnt_set hju; omega
        simp only [hw]
        cases b with
        | true =>
          simp only [if_true]
          exact Oper.wpIn_mono (fun a' w' ⟨v, h', ⟨_, hk⟩, hr'⟩ => ih _ _ _ a' w' hs' hl' (hcl.set hj) hc' hk hr') ((ht rfl).run hg hr hd Qc)
        | false =>
          simp only [Bool.false_eq_true, if_false]
          exact ⟨fun _ _ => trivial, ih _ _ _ _ w hs' hl' (hcl.set hj) hc' (hf rfl) (putO_skip hr hd)⟩

/-- a region with an allocation that nothing else hangs on till all else is done -/
theorem awp_region_late (hg : Good P tab) (H : LateOK ops i0 o0 d) (hdN : okDst N (some d) = true) (hal : ∀ ρ, aalloc tab ρ o0 = some (mk, blk)) (hno : ∀ ρ, aval tab ρ o0 = none ∧ ard tab ρ o0 = none ∧ acallee ρ o0 = none ∧ ayield ρ o0 = none ∧ ∀ n h, aeff tab ρ n o0 h = none)
    (hone : ∀ n, (mk n).oneCell' = true) {id : Nat} {Q : Exit → Env → Heap → Prop} {ρ : Env} {h : Heap} (l : List (Nat × Bool)) (hl : (l.length == (lateOps ops i0).size && goodOrder (lateOps ops i0) l (Array.replicate (lateOps ops i0).size false)) = true)
    (ho : AOrd P tab N (lateOps ops i0) (Q .normal) [] l ρ h) : AWP P N (.region id ops true) Q ρ h := by
  intro G a w hN hr
  have hlt := (Array.getElem?_eq_some_iff.1 H.at0).1
  have hr' : Rel G ρ h a { w with drawn := w.drawn + 1 } := by
    obtain ⟨h1, h2, r, h3, h4, h5, hh⟩ := hr
    exact ⟨h1, h2, r, h3, h4, h5, hh.world rfl⟩
  simp only [Bool.and_eq_true, beq_iff_eq] at hl
  have hany := aord_any l [] (Array.replicate (lateOps ops i0).size false) ρ h hl.2 Closed.start (by simp) ho
  rw [hl.1, late_size H.at0] at hany
  refine wpIn_region_any hg.mixed (late_a (pend := []) hg H hdN hal hno hone hN (fun ρ' h' a' w' hk hr' => ⟨G, ρ', h', G.le_refl, hk, hr'⟩) _ _ ρ h a _ (by simp) (by simp [hlt]) Closed.start ?_ hany hr')
  simp [cnt]
end
end Go.Mir

