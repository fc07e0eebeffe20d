/- Cells that are read and written. By a session's own hand. -/
import Derived.Test.YtlpenkjkggopiaaGreatME
set_option linter.unusedSimpArgs false
set_option linter.unusedVariables false
namespace Go.Mir

/-- cells written one behind the other -/
def writeA (c : Array Value) (o : Nat) : List Value → Array Value
  | [] => c
  | v :: l => writeA (c.setIfInBounds o v) (o + 1) l

theorem writeA_size (l : List Value) : ∀ (c : Array Value) (o : Nat), (writeA c o l).size = c.size := by
  induction l with
  | nil => intro c o; rfl
  | cons v l ih => intro c o; simp [writeA, ih]

theorem writeA_lt (l : List Value) : ∀ (c : Array Value) (o i : Nat), i < o → (writeA c o l)[i]? = c[i]? := by
  induction l with
  | nil => intro c o i _; rfl
  | cons v l ih =>
    intro c o i hi
    simp only [writeA]
    rw [ih _ _ _ (by omega), Array.getElem?_setIfInBounds_ne (by omega)]

theorem writeA_ge (l : List Value) : ∀ (c : Array Value) (o i : Nat), o + l.length ≤ i → (writeA c o l)[i]? = c[i]? := by
  induction l with
  | nil => intro c o i _; rfl
  | cons v l ih =>
    intro c o i hi
    simp only [writeA]
    simp only [List.length_cons] at hi
    rw [ih _ _ _ (by omega), Array.getElem?_setIfInBounds_ne (by omega)]

theorem writeA_in (l : List Value) : ∀ (c : Array Value) (o j : Nat) (h : j < l.length), o + l.length ≤ c.size → (writeA c o l)[o + j]? = some l[j] := by
  induction l with
  | nil => intro c o j h; simp at h
  | cons v l ih =>
    intro c o j h hs
    simp only [writeA]
    simp only [List.length_cons] at h hs
    cases j with
    | zero =>
      rw [writeA_lt _ _ _ _ (by omega)]
      have : o < c.size := by omega
      simp [this]
    | succ j =>
      have := ih (c.setIfInBounds o v) (o + 1) j (by omega) (by simp; omega)
      rw [show o + (j + 1) = o + 1 + j from by omega, this]; rfl

section
variable {P : Program} {tab : Tab} {r : Ren}

theorem addr_add' (b o n : Nat) : (Addr.mk b o none).add n = ⟨b, o + n, none⟩ := addr_add b o n

theorem run_loadFrom {w : World} {b o : Nat} : ∀ (vs : List Value) (i : Nat) (acc : Array Value), (∀ (j : Nat) (h : j < vs.length), w.cell? ⟨b, o + i + j, none⟩ = some vs[j]) →
    (loadCellsFrom ⟨b, o, none⟩ i vs.length acc).run P w = .ok (acc ++ vs.toArray) w
  | [], i, acc, _ => by simp [loadCellsFrom]
  | v :: vs, i, acc, h => by
    have h0 := h 0 (by simp)
    simp only [List.getElem_cons_zero, Nat.add_zero] at h0
    have ht := run_loadFrom (o := o) vs (i + 1) (acc.push v) (fun j hj => by
      have := h (j + 1) (by simp; omega)
      simp only [List.getElem_cons_succ] at this
      rw [← this]; congr 2; omega)
    simp only [List.length_cons, loadCellsFrom, Sem.run_bind, run_load, addr_add', h0, Result.andThen_ok, ht]
    simp

theorem run_loadCells {w : World} {b o : Nat} {vs : List Value} {n : Nat} (hn : n = vs.length) (h : ∀ (j : Nat) (hj : j < vs.length), w.cell? ⟨b, o + j, none⟩ = some vs[j]) :
    (loadCells ⟨b, o, none⟩ n).run P w = .ok vs.toArray w := by
  subst hn
  have := run_loadFrom (P := P) (w := w) (b := b) (o := o) vs 0 #[] (fun j hj => by simpa using h j hj)
  simpa [loadCells] using this

theorem cell_eq {w : World} {b : Nat} {c : Array Value} {e : TypeId} {fz : Nat × Nat} (h : w.heap[b]? = some (.cells c e fz)) (o : Nat) : w.cell? ⟨b, o, none⟩ = c[o]? := by
  simp [World.cell?, h]

theorem frozen_eq {w : World} {b : Nat} {c : Array Value} {e : TypeId} {fz : Nat × Nat} (h : w.heap[b]? = some (.cells c e fz)) {o : Nat} (hf : ¬ (fz.1 ≤ o ∧ o < fz.2)) : w.frozen? ⟨b, o, none⟩ = false := by
  obtain ⟨lo, hi⟩ := fz
  simp [World.frozen?, h]
  simp at hf; omega

theorem setCell_heap {w : World} {b : Nat} {c : Array Value} {e : TypeId} {fz : Nat × Nat} (h : w.heap[b]? = some (.cells c e fz)) (o : Nat) (v : Value) :
    (w.setCell ⟨b, o, none⟩ v).heap[b]? = some (.cells (c.setIfInBounds o v) e fz) ∧ ∀ b', b' ≠ b → (w.setCell ⟨b, o, none⟩ v).heap[b']? = w.heap[b']? := by
  obtain ⟨hlt, he⟩ := Array.getElem?_eq_some_iff.1 h
  constructor
  · simp [World.setCell, Array.getElem?_modify, h]
  · intro b' hb
    simp [World.setCell, Array.getElem?_modify, Ne.symm hb]

theorem setCell_ext (w : World) (a : Addr) (v : Value) : ((w.setCell a v).os, (w.setCell a v).output) = (w.os, w.output) := by
  unfold World.setCell
  split <;> rfl
theorem run_storeCells : ∀ (vs : List Value) (i : Nat) {w : World} {b o : Nat} {c : Array Value} {e : TypeId} {fz : Nat × Nat}, w.heap[b]? = some (.cells c e fz) →
    (∀ v ∈ vs, v.oneCell' = true) → o + i + vs.length ≤ c.size → (∀ j, j < vs.length → ¬ (fz.1 ≤ o + i + j ∧ o + i + j < fz.2)) →
    ∃ w', (storeCells ⟨b, o, none⟩ vs i).run P w = .ok () w' ∧ w'.heap[b]? = some (.cells (writeA c (o + i) vs) e fz) ∧ (∀ b', b' ≠ b → w'.heap[b']? = w.heap[b']?) ∧ (w'.os, w'.output) = (w.os, w.output)
  | [], i, w, b, o, c, e, fz, h, _, _, _ => ⟨w, by simp [storeCells], h, fun _ _ => rfl, rfl⟩
  | v :: vs, i, w, b, o, c, e, fz, h, h1, h2, h3 => by
    simp only [List.length_cons] at h2 h3
    have hc : w.cell? ⟨b, o + i, none⟩ = some (c[o + i]'(by omega)) := by rw [cell_eq h]; simp
    have hf := frozen_eq h (o := o + i) (by simpa using h3 0 (by omega))
    obtain ⟨g1, g2⟩ := setCell_heap h (o + i) v
    obtain ⟨w', hr, hb, ho, hx⟩ := run_storeCells (o := o) vs (i + 1) g1 (fun v hv => h1 v (by simp [hv])) (by simp; omega) (fun j hj => by
      have := h3 (j + 1) (by omega)
      rw [show o + (i + 1) + j = o + i + (j + 1) from by omega]; exact this)
    refine ⟨w', ?_, ?_, fun b' hb' => (ho b' hb').trans (g2 b' hb'), hx.trans (setCell_ext _ _ _)⟩
    · simp only [storeCells, Sem.run_bind, addr_add', run_store P w _ v _ (h1 v (by simp)), hc, hf, Bool.false_eq_true, if_false, Result.andThen_ok, hr]
    · rw [hb]; simp only [writeA]; rw [show o + (i + 1) = o + i + 1 from by omega]

/-- the abstract row's cells, written -/
def writeL (c : List Value) (o : Nat) : List Value → List Value
  | [] => c
  | v :: l => writeL (c.set o v) (o + 1) l

theorem writeL_length (l : List Value) : ∀ (c : List Value) (o : Nat), (writeL c o l).length = c.length := by
  induction l with
  | nil => intro c o; rfl
  | cons v l ih => intro c o; simp [writeL, ih]

theorem write_rel {ds ds' : List Value} (hd : LRel r ds ds') : ∀ {c : List Value} {c' : Array Value} {d o : Nat},
    (∀ (i : Nat) (v : Value), c[i]? = some v → ∃ v', c'[d + i]? = some v' ∧ VRel r v v') →
    ∀ (i : Nat) (v : Value), (writeL c o ds)[i]? = some v → ∃ v', (writeA c' (d + o) ds')[d + i]? = some v' ∧ VRel r v v' := by
  induction hd with
  | nil => intro c c' d o h; exact h
  | cons hv _ ih =>
    rename_i x x' ds ds' _
    intro c c' d o h
    simp only [writeL, writeA]
    rw [show d + o + 1 = d + (o + 1) from by omega]
    refine ih (fun i v hi => ?_)
    by_cases e : i = o
    · subst e
      have hlt : i < c.length := by
        rcases Nat.lt_or_ge i c.length with q | q
        · exact q
        · rw [List.getElem?_eq_none (by simpa using q)] at hi; cases hi
      rw [List.getElem?_set_self hlt] at hi
      cases hi
      obtain ⟨v', hv', _⟩ := h i c[i] (by simp [hlt])
      have : d + i < c'.size := (Array.getElem?_eq_some_iff.1 hv').1
      exact ⟨_, by simp [this], hv⟩
    · rw [List.getElem?_set_ne (Ne.symm e)] at hi
      obtain ⟨v', hv', hr⟩ := h i v hi
      exact ⟨v', by rw [Array.getElem?_setIfInBounds_ne (by omega)]; exact hv', hr⟩

theorem rel_oneCell {v v' : Value} (h : VRel r v v') : v'.oneCell' = v.oneCell' := by cases h <;> first | rfl | assumption

theorem LRel.of_agg {cs cs' : Array Value} (h : VRel r (.agg cs) (.agg cs')) : LRel r cs.toList cs'.toList := by
  have key : ∀ (l l' : List Value), l.length = l'.length → (∀ i (h1 : i < l.length) (h2 : i < l'.length), VRel r l[i] l'[i]) → LRel r l l' := by
    intro l
    induction l with
    | nil => intro l' h _; cases l' with
      | nil => exact .nil
      | cons x l' => simp at h
    | cons x l ih =>
      intro l' h hx
      cases l' with
      | nil => simp at h
      | cons x' l' => exact .cons (hx 0 (by simp) (by simp)) (ih l' (by simpa using h) fun i h1 h2 => by
        have := hx (i + 1) (by simp only [List.length_cons]; omega) (by simp only [List.length_cons]; omega)
        simp only [List.getElem_cons_succ] at this
        exact this)
  exact key _ _ (by simpa using agg_size h) fun i h1 h2 => by simpa using agg_get h i (by simpa using h1) (by simpa using h2)

theorem LRel.agg {l l' : List Value} (h : LRel r l l') : VRel r (.agg l.toArray) (.agg l'.toArray) :=
  .agg (by simpa using h.length) fun i h1 h2 => by simpa using h.get i (by simpa using h1) (by simpa using h2)

theorem LRel.oneCell {l l' : List Value} (h : LRel r l l') (ho : ∀ v ∈ l, v.oneCell' = true) : ∀ v ∈ l', v.oneCell' = true := by
  induction h with
  | nil => intro v hv; cases hv
  | cons hv _ ih =>
    intro v hm
    rcases List.mem_cons.1 hm with rfl | hm
    · rw [rel_oneCell hv]; exact ho _ (by simp)
    · exact ih (fun v hv => ho v (by simp [hv])) v hm

theorem LRel.mono {r' : Ren} (hr : r.le r') {l l' : List Value} (h : LRel r l l') : LRel r' l l' := by
  induction h with
  | nil => exact .nil
  | cons hv _ ih => exact .cons (hv.mono hr) ih

theorem LRel.append {a a' b b' : List Value} (h : LRel r a a') (h' : LRel r b b') : LRel r (a ++ b) (a' ++ b') := by
  induction h with
  | nil => exact h'
  | cons hv _ ih => exact .cons hv ih

/-- the cells of a row from a place on, as the world has them -/
theorem cells_read {w : World} {l : Loc} {c : List Value} {e : TypeId} {opn wr : Bool} (h : BlkRel r l (.cells c e opn wr) w.heap[l.b]?) (o n : Nat) (hn : o + n ≤ c.length) :
    ∃ vs', LRel r ((c.drop o).take n) vs' ∧ vs'.length = n ∧ ∀ (j : Nat) (hj : j < vs'.length), w.cell? ⟨l.b, l.d + o + j, none⟩ = some vs'[j] := by
  generalize hw : w.heap[l.b]? = ob at h
  cases ob with
  | none => exact h.elim
  | some ob =>
    cases ob <;> first | exact h.elim | skip
    rename_i c' e' fz
    obtain ⟨_, h2, h3, h4, _, h6, _⟩ := h
    have hsz : l.d + o + n ≤ c'.size := by omega
    have hlen : ((c'.toList.drop (l.d + o)).take n).length = n := by simp; omega
    refine ⟨(c'.toList.drop (l.d + o)).take n, ?_, hlen, fun j hj => ?_⟩
    · have : ∀ (a b : List Value), a.length = b.length → (∀ i (h1 : i < a.length) (h2 : i < b.length), VRel r a[i] b[i]) → LRel r a b := fun a b hl hx => by
        have := LRel.of_agg (cs := a.toArray) (cs' := b.toArray) (r := r) (.agg (by simpa using hl) fun i h1 h2 => by simpa using hx i (by simpa using h1) (by simpa using h2))
        simpa using this
      refine this _ _ (by simp; omega) fun i h1 h2 => ?_
      have hi : i < n := by simp at h1; omega
      simp only [List.getElem_take, List.getElem_drop]
      obtain ⟨v', hv', hr⟩ := h6 (o + i) (c[o + i]'(by omega)) (by simp)
      have q : c'.toList[l.d + o + i]'(by simp; omega) = v' := by
        have := (Array.getElem?_eq_some_iff.1 hv').2
        simp only [Array.getElem_toList]
        rw [← this]; congr 1; omega
      rw [q]; exact hr
    · have hj' : j < n := by omega
      rw [cell_eq hw]
      simp only [List.getElem_take, List.getElem_drop, Array.getElem_toList]
      simp

theorem cell_read {w : World} {l : Loc} {c : List Value} {e : TypeId} {opn wr : Bool} (h : BlkRel r l (.cells c e opn wr) w.heap[l.b]?) {o : Nat} {v : Value} (hv : c[o]? = some v) :
    ∃ v', VRel r v v' ∧ w.cell? ⟨l.b, l.d + o, none⟩ = some v' := by
  generalize hw : w.heap[l.b]? = ob at h
  cases ob with
  | none => exact h.elim
  | some ob =>
    cases ob <;> first | exact h.elim | skip
    obtain ⟨_, _, _, _, _, h6, _⟩ := h
    obtain ⟨v', hv', hr⟩ := h6 o v hv
    exact ⟨v', hr, by rw [cell_eq hw]; exact hv'⟩
end
end Go.Mir

