/- The runner's append. By a session's own hand. -/
import Derived.Test.YtlpenkjkggopiaaGreatMY
set_option linter.unusedSimpArgs false
set_option linter.unusedVariables false
namespace Go.Mir
section
variable {P : Program} {tab : Tab}

/-- what is copied -/
noncomputable def partOf (d : EV) (t : PT EV) (o n : Nat) : List Value := (List.range n).map fun i => (t.get d (o + i)).val
theorem partOf_succ {d : EV} {t : PT EV} {o n : Nat} : partOf d t o (n + 1) = (t.get d o).val :: partOf d t (o + 1) n := by
  unfold partOf
  rw [List.range_succ_eq_map]
  simp only [List.map_cons, List.map_map, Nat.add_zero]
  congr 1
  apply List.map_congr_left
  intro i _
  simp only [Function.comp, Nat.succ_eq_add_one]
  rw [show o + (i + 1) = o + 1 + i by omega]

theorem copyK_some {d : EV} {t : PT EV} {d' : EV} (n : Nat) : ∀ {o p : Nat} {q : PT EV} {k : PT EV → Option RR} {r : RR}, copyK d t d' n o p q k = some r →
    oneCells (partOf d t o n) = true ∧ ∃ q', (∀ len, listOf d' q' len = writeL (listOf d' q len) p (partOf d t o n)) ∧ (∀ i, q'.look d' i = if i < p then q.look d' i else if i < p + n then q'.look d' i else q.look d' i) ∧
      (∀ i, i < n → (q'.look d' (p + i)).val = (t.get d (o + i)).val) ∧ k q' = some r := by
  induction n with
  | zero => intro o p q k r h; exact ⟨rfl, q, fun _ => rfl, fun i => (by split <;> simp), fun i hi => (by omega), h⟩
  | succ n ih =>
    intro o p q k r h
    have key : ∃ u : EV, u.val = (t.get d o).val ∧ u.val.oneCell' = true ∧ q.setK d' p u (fun q => copyK d t d' n (Nat.succ o) (Nat.succ p) q k) = some r := by
      change EV.rec (motive := fun _ => Option RR) (fun a => q.setK d' p (.nat a) fun q => copyK d t d' n (Nat.succ o) (Nat.succ p) q k) (fun a => q.setK d' p (.bool a) fun q => copyK d t d' n (Nat.succ o) (Nat.succ p) q k)
        (fun v => one1 v fun v => q.setK d' p v fun q => copyK d t d' n (Nat.succ o) (Nat.succ p) q k) (t.get d o) = some r at h
      cases hq : t.get d o with
      | nat a => rw [hq] at h; exact ⟨.nat a, rfl, rfl, h⟩
      | bool a => rw [hq] at h; exact ⟨.bool a, rfl, rfl, h⟩
      | oth v =>
        rw [hq] at h
        obtain ⟨h1, h2⟩ := one1_some h
        exact ⟨.oth v, rfl, h1, h2⟩
    obtain ⟨u, hu, h1, h2⟩ := key
    obtain ⟨q1, h3, h4⟩ := PT.setK_spec (d := d') (x := u) q p
    rw [h4] at h2
    obtain ⟨g1, q', g2, g3, g4, g5⟩ := ih h2
    refine ⟨?_, q', fun len => ?_, fun i => ?_, fun i hi => ?_, g5⟩
    · rw [partOf_succ]
      simp only [oneCells, List.all_cons, Bool.and_eq_true]
      exact ⟨by rw [← hu]; exact h1, g1⟩
    · rw [g2, listOf_set h3, partOf_succ, hu]; rfl
    · rw [g3, h3]
      by_cases c1 : i < p
      · rw [if_pos (by omega), if_neg (by omega), if_pos c1]
      · by_cases c2 : i < p + (n + 1)
        · rw [if_neg c1, if_pos c2]
        · rw [if_neg c1, if_neg c2, if_neg (by omega), if_neg (by omega), if_neg (by omega)]
    · cases i with
      | zero => rw [Nat.add_zero, Nat.add_zero, g3, if_pos (by omega), h3, if_pos rfl, hu]
      | succ i =>
        have := g4 i (by omega)
        rw [show p + (i + 1) = Nat.succ p + i by omega, this, show o + (i + 1) = Nat.succ o + i by omega]

theorem partOf_cut {d : EV} {t : PT EV} {n o len : Nat} (h : o + n ≤ len) : ((listOf d t len).drop o).take n = partOf d t o n := listOf_cut h

theorem grow_list {d d' : EV} {t t' q : PT EV} {o a b clen : Nat} (ha : a ≤ clen) (h1 : ∀ i, i < a → q.look d i = t.look d i) (h2 : ∀ i, i < b → (q.look d (a + i)).val = (t'.get d' (o + i)).val) :
    listOf d q (a + b) = ((listOf d t clen).drop 0).take a ++ partOf d' t' o b := by
  rw [partOf_cut (by omega)]
  apply List.ext_getElem?
  intro i
  have la : (partOf d t 0 a).length = a := by simp [partOf]
  by_cases c1 : i < a
  · rw [List.getElem?_append_left (by omega), listOf_get (by omega)]
    simp [partOf, c1, PT.get_eq, h1 i c1]
  · rw [List.getElem?_append_right (by omega), la]
    by_cases c2 : i < a + b
    · rw [listOf_get c2, PT.get_eq]
      obtain ⟨j, rfl⟩ : ∃ j, i = a + j := ⟨i - a, by omega⟩
      rw [h2 j (by omega), Nat.add_sub_cancel_left]
      simp [partOf, show j < b by omega]
    · have e1 : (listOf d q (a + b))[i]? = none := List.getElem?_eq_none (by rw [listOf_length]; omega)
      have e2 : (partOf d' t' o b)[i - a]? = none := List.getElem?_eq_none (by simp [partOf]; omega)
      rw [e1, e2]

theorem chk_some {b : Bool} {x y : Option RR} {r : RR} (h : chk b x y = some r) : (b = true ∧ x = some r) ∨ y = some r := by
  cases b
  · exact .inr h
  · exact .inl ⟨rfl, h⟩

theorem chk_cases {b : Bool} {x y : Option RR} {r : RR} (h : chk b x y = some r) : (b = true ∧ x = some r) ∨ (b = false ∧ y = some r) := by
  cases b
  · exact .inr ⟨rfl, h⟩
  · exact .inl ⟨rfl, h⟩

theorem sliceK_some {x : EV} {nil : Nat → Nat → Option RR} {k : Nat → Nat → Nat → Nat → Nat → Option RR} {r : RR} (h : sliceK x nil k = some r) :
    (∃ l c, x.val = .slice none l c ∧ nil l c = some r) ∨ ∃ b o sz len cap, x.val = .slice (some ⟨b, o, some sz⟩) len cap ∧ k b o sz len cap = some r := by
  cases x with
  | nat n => cases h
  | bool b => cases h
  | oth v =>
    unfold sliceK at h
    dsimp only at h
    split at h
    · exact .inl ⟨_, _, rfl, h⟩
    · exact .inr ⟨_, _, _, _, _, rfl, h⟩
    · cases h

theorem small_some {len n bytes : Nat} {x y : Option RR} {r : RR} (h : small len n bytes x y = some r) : ((2 * (len + n) + 192) * bytes ≤ 2 ^ 48 ∧ len + n < 2 ^ 60 ∧ x = some r) ∨ y = some r := by
  rcases chk_some h with ⟨h1, h2⟩ | h
  · rcases chk_some h2 with ⟨h3, h4⟩ | h
    · exact .inl ⟨Nat.le_of_ble_eq_true h1, Nat.le_of_ble_eq_true h3, h4⟩
    · exact .inr h
  · exact .inr h

theorem does_append : AppendOK P tab := by
  intro o set hs c t0 t1 a b e a1 b1 c1 e' a2 b2 c2 k ho hc hts hargs ht0 ht1 hk ev0 m nx kk r h
  obtain ⟨sv, h1, h2⟩ := compO_reads a _ _ _ h
  obtain ⟨xv, h3, h4⟩ := compO_reads b _ _ _ h1
  have slow : sEff tab o set ev0 m nx kk = some r → ∃ v e' m' nx', Did P tab o (envOf ev0) (heapOf m nx) v (heapOf m' nx') ∧ envOf e' = putO (envOf ev0) o.dst v ∧ kk e' m' nx' = some r := fun q => does_eff hs ev0 m nx kk r q
  rcases sliceK_some h3 with ⟨_, _, _, q1⟩ | ⟨b', o', sz', n, cap', hx, q1⟩
  · exact slow q1
  obtain ⟨d', t', clen', el', opn', wr', hm', q2⟩ := cellsK_some q1
  rcases chk_some q2 with ⟨g1, q3⟩ | q3
  case inr => exact slow q3
  rcases chk_some q3 with ⟨g2, q4⟩ | q4
  case inr => exact slow q4
  rcases chk_some q4 with ⟨g3, q5⟩ | q5
  case inr => exact slow q5
  rcases chk_some q5 with ⟨g4, q6⟩ | q6
  case inr => exact slow q6
  have hsz : sz' = k.size := Nat.eq_of_beq_eq_true g1
  have hsrcb : o' + n * k.size ≤ clen' := Nat.le_of_ble_eq_true g2
  have hn1 : 1 ≤ n := Nat.le_of_ble_eq_true g3
  have hk1 : 1 ≤ k.size := Nat.le_of_ble_eq_true g4
  subst hsz
  have hxv := h4 (.slice (some ⟨b', o', some k.size⟩) n cap') (by rw [hx]; rfl)
  have hget' : (heapOf m nx).bump.get b' = some (.cells (listOf d' t' clen') el' opn' wr') := get_cells (nx := nx) hm'
  have hsrc : asrc tab k.size k.zero (some t1) (.slice (some ⟨b', o', some k.size⟩) n cap') (heapOf m nx).bump = some (partOf d' t' o' (n * k.size), n) := by
    simp only [asrc, ht1, hget', row, listOf_length, hsrcb, partOf_cut hsrcb, and_self, if_true]
  have heff : ∀ {sl : Value} {w : Value} {h' : Heap}, Go.Mir.ev (envOf ev0) a = some sl → aappend tab c.argTypes nx sl (.slice (some ⟨b', o', some k.size⟩) n cap') (heapOf m nx).bump = some (w, h') → Did P tab o (envOf ev0) (heapOf m nx) w h' := by
    intro sl w h' hsl hap
    refine .eff ?_
    simp only [aeff, ho, hc, hargs, evs, hsl, hxv]
    exact hap
  rcases sliceK_some q6 with ⟨l, cc, hsv, q7⟩ | ⟨b0, o0, sz2, len, cap, hsv, q7⟩
  · -- nil
    rcases chk_some q7 with ⟨f1, q8⟩ | q8
    case inr => exact slow q8
    rcases chk_some q8 with ⟨f2, q9⟩ | q9
    case inr => exact slow q9
    rcases small_some q9 with ⟨f3, f4, q10⟩ | q10
    case inr => exact slow q10
    have e1 : l = 0 := Nat.eq_of_beq_eq_true f1
    have e2 : cc = 0 := Nat.eq_of_beq_eq_true f2
    subst e1 e2
    obtain ⟨w1, q10', w2, w3, w4, w5⟩ := copyK_some _ q10
    have w1 : oneCells (partOf d' t' o' (n * k.size)) = true := w1
    obtain ⟨m', u1, u2⟩ := PT.setK_spec (d := RB.non) (x := RB.cells d' q10' (Nat.mul n k.size) e true true) m nx
    rw [u2] at w5
    obtain ⟨e'', u3, u4⟩ := set_some hs w5
    rw [forceNat_eq] at u4
    refine ⟨_, e'', m', nx + 1, ?_, u3, u4⟩
    have eh : heapOf m' (nx + 1) = (heapOf m nx).bump.set nx (.cells (listOf d' q10' (n * k.size)) e true true) := heapOf_set (m := m) (nx := nx + 1) (n := nx) (b := RB.cells d' q10' (Nat.mul n k.size) e true true) rfl u1
    rw [eh]
    refine heff (h2 (.slice none 0 0) (by rw [hsv]; rfl)) ?_
    have hl : listOf d' q10' (n * k.size) = partOf d' t' o' (n * k.size) := by
      have := grow_list (d := d') (d' := d') (t := .leaf) (t' := t') (q := q10') (o := o') (a := 0) (b := n * k.size) (clen := 0) (Nat.le_refl _) (fun i hi => by omega) (fun i hi => w4 i hi)
      rw [Nat.zero_add] at this
      rw [this]; simp
    rw [hl]
    have n0 : ¬ (0 + n ≤ 0) := by omega
    have k0 : ¬ (k.size = 0) := by omega
    have sm : ¬ ((2 * (0 + n) + 192) * k.bytes > 2 ^ 48 ∨ 0 + n ≥ 2 ^ 60) := by omega
    simp only [aappend, hts, ht0, hk, List.head?_cons, hsrc, w1, k0, n0, sm, if_false, false_or, Bool.true_eq_false]
    rfl
  · rcases chk_some q7 with ⟨f1, q11⟩ | q11
    case inr => exact slow q11
    have e1 : sz2 = k.size := Nat.eq_of_beq_eq_true f1
    subst e1
    obtain ⟨d, t, clen, el, opn, wr, hm, q12⟩ := cellsK_some q11
    have hget : (heapOf m nx).bump.get b0 = some (.cells (listOf d t clen) el opn wr) := get_cells (nx := nx) hm
    have hsl := h2 (.slice (some ⟨b0, o0, some k.size⟩) len cap) (by rw [hsv]; rfl)
    rcases chk_some q12 with ⟨f2, q13⟩ | q13
    case inr => exact slow q13
    have hb : o0 + cap * k.size ≤ clen := Nat.le_of_ble_eq_true f2
    have k0 : ¬ (k.size = 0) := by omega
    have n0 : ¬ (n = 0) := by omega
    rcases chk_cases q13 with ⟨f3, q14⟩ | ⟨f3, q14⟩
    · -- in place
      rcases chk_some q14 with ⟨f4, q15⟩ | q15
      case inr => exact slow q15
      subst f4
      have hfit : len + n ≤ cap := Nat.le_of_ble_eq_true f3
      obtain ⟨w1, q15', w2, w3, w4, w5⟩ := copyK_some _ q15
      have w1 : oneCells (partOf d' t' o' (n * k.size)) = true := w1
      obtain ⟨m', u1, u2⟩ := PT.setK_spec (d := RB.non) (x := RB.cells d q15' clen el opn true) m b0
      rw [u2, forceNat_eq] at w5
      obtain ⟨e'', u3, u4⟩ := set_some hs w5
      rw [forceNat_eq] at u4
      refine ⟨_, e'', m', nx + 1, ?_, u3, u4⟩
      have eh : heapOf m' (nx + 1) = (heapOf m nx).bump.set b0 (.cells (listOf d q15' clen) el opn true) := heapOf_set (m := m) (nx := nx + 1) (n := b0) (b := RB.cells d q15' clen el opn true) rfl u1
      rw [eh, w2]
      refine heff hsl ?_
      simp only [aappend, hts, ht0, hk, List.head?_cons, hsrc, w1, k0, n0, hfit, hget, wrow, listOf_length, hb, if_true, if_false, false_or, Bool.true_eq_false, true_and]
      rfl
    · -- a new row
      have hfit : ¬ (len + n ≤ cap) := fun q => by
        have : Nat.ble (Nat.add len n) cap = true := Nat.ble_eq_true_of_le q
        rw [this] at f3; cases f3
      rcases chk_some q14 with ⟨f4, q16⟩ | q16
      case inr => exact slow q16
      rcases chk_some q16 with ⟨f5, q17⟩ | q17
      case inr => exact slow q17
      rcases chk_some q17 with ⟨f6, q18⟩ | q18
      case inr => exact slow q18
      rcases small_some q18 with ⟨f7, f8, q19⟩ | q19
      case inr => exact slow q19
      have hlc : len ≤ cap := Nat.le_of_ble_eq_true f4
      have ho0 : o0 = 0 := Nat.eq_of_beq_eq_true f5
      have hel : el = e := Nat.eq_of_beq_eq_true f6
      subst ho0 hel
      rw [Nat.zero_add] at hb
      have hll : len * k.size ≤ clen := Nat.le_trans (Nat.mul_le_mul_right _ hlc) hb
      have sm : ¬ ((2 * (len + n) + 192) * k.bytes > 2 ^ 48 ∨ len + n ≥ 2 ^ 60) := by omega
      have hmul : (len + n) * k.size = len * k.size + n * k.size := Nat.add_mul _ _ _
      rcases chk_cases q19 with ⟨f9, q20⟩ | ⟨f9, q20⟩
      · have hop : opn = false ∨ 0 + cap * k.size < clen := by
          cases opn with
          | false => exact .inl rfl
          | true =>
            have := Nat.le_of_ble_eq_true f9
            exact .inr (by rw [Nat.zero_add]; exact this)
        obtain ⟨w1, q20', w2, w3, w4, w5⟩ := copyK_some _ q20
        have w1 : oneCells (partOf d' t' o' (n * k.size)) = true := w1
        obtain ⟨m', u1, u2⟩ := PT.setK_spec (d := RB.non) (x := RB.cells d q20' (Nat.mul (Nat.add len n) k.size) el true true) m nx
        rw [u2, forceNat_eq] at w5
        obtain ⟨e'', u3, u4⟩ := set_some hs w5
        rw [forceNat_eq] at u4
        refine ⟨_, e'', m', nx + 1, ?_, u3, u4⟩
        have eh : heapOf m' (nx + 1) = (heapOf m nx).bump.set nx (.cells (listOf d q20' ((len + n) * k.size)) el true true) := heapOf_set (m := m) (nx := nx + 1) (n := nx) (b := RB.cells d q20' (Nat.mul (Nat.add len n) k.size) el true true) rfl u1
        have hl : listOf d q20' ((len + n) * k.size) = ((listOf d t clen).drop 0).take (len * k.size) ++ partOf d' t' o' (n * k.size) := by
          rw [hmul]
          exact grow_list hll (fun i hi => by have q := w3 i; rw [if_pos (show i < Nat.mul len k.size from hi)] at q; exact q) (fun i hi => w4 i hi)
        rw [eh, hl]
        refine heff hsl ?_
        simp only [aappend, hts, ht0, hk, List.head?_cons, hsrc, w1, k0, hfit, hget, listOf_length, sm, hop, Nat.zero_add, hb, if_true, if_false, false_or, Bool.true_eq_false, true_and, and_self]
        first | rfl | (rw [if_pos (by rcases hop with h | h; exact .inl h; exact .inr (by omega))]; rfl)
      · rcases chk_some q20 with ⟨f10, q21⟩ | q21
        case inr => exact slow q21
        subst f10
        have hop : ¬ (opn = false ∨ 0 + cap * k.size < clen) := by
          cases opn with
          | false => cases f9
          | true =>
            intro h
            rcases h with h | h
            · cases h
            · have : Nat.ble (Nat.succ (Nat.mul cap k.size)) clen = true := Nat.ble_eq_true_of_le (by rw [Nat.zero_add] at h; exact h)
              change Nat.ble (Nat.succ (Nat.mul cap k.size)) clen = false at f9
              rw [this] at f9; cases f9
        obtain ⟨w1, q21', w2, w3, w4, w5⟩ := copyK_some _ q21
        have w1 : oneCells (partOf d' t' o' (n * k.size)) = true := w1
        obtain ⟨m0, v1, v2⟩ := PT.setK_spec (d := RB.non) (x := RB.dead) m b0
        rw [v2] at w5
        obtain ⟨m', u1, u2⟩ := PT.setK_spec (d := RB.non) (x := RB.cells d q21' (Nat.mul (Nat.add len n) k.size) el true true) m0 nx
        rw [u2, forceNat_eq] at w5
        obtain ⟨e'', u3, u4⟩ := set_some hs w5
        rw [forceNat_eq] at u4
        refine ⟨_, e'', m', nx + 1, ?_, u3, u4⟩
        have eh0 : heapOf m0 (nx + 1) = (heapOf m nx).bump.set b0 .dead := heapOf_set (m := m) (nx := nx + 1) (n := b0) (b := RB.dead) rfl v1
        have eh : heapOf m' (nx + 1) = (heapOf m0 (nx + 1)).set nx (.cells (listOf d q21' ((len + n) * k.size)) el true true) := heapOf_set (m := m0) (nx := nx + 1) (n := nx) (b := RB.cells d q21' (Nat.mul (Nat.add len n) k.size) el true true) rfl u1
        have hl : listOf d q21' ((len + n) * k.size) = ((listOf d t clen).drop 0).take (len * k.size) ++ partOf d' t' o' (n * k.size) := by
          rw [hmul]
          exact grow_list hll (fun i hi => by have q := w3 i; rw [if_pos (show i < Nat.mul len k.size from hi)] at q; exact q) (fun i hi => w4 i hi)
        rw [eh, eh0, hl]
        refine heff hsl ?_
        rw [Nat.zero_add] at hop
        simp only [aappend, hts, ht0, hk, List.head?_cons, hsrc, w1, k0, hfit, hget, listOf_length, sm, Nat.zero_add, hb, if_true, if_false, false_or, Bool.true_eq_false, true_and, and_self]
        rw [if_neg hop]; rfl
end
end Go.Mir

