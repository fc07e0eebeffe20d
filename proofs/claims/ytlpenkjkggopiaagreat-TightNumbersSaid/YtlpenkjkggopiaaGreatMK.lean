/- append. By a session's own hand. -/
import Derived.Test.YtlpenkjkggopiaaGreatMJ
set_option linter.unusedSimpArgs false
set_option linter.unusedVariables false
namespace Go.Mir
section
variable {P : Program} {tab : Tab} {r : Ren} {ρ : Env} {a : Act}

/-- what is appended, on the model's side: whether it is 'so many noughts', how many elements, and their cells -/
inductive Src (P : Program) (e sz : Nat) (ts : Array TypeId) (x : Value) (w : World) (n : Nat) (new : Array Value) : Prop
  | plain {t : Nat} {d : TypeDesc} (h1 : ts[1]? = some t) (h2 : P.underlying t = some d) (h3 : ∀ k, d ≠ .int k) (h4 : (Builtin.lenOf x).run P w = .ok n w)
      (h5 : ∀ dr, (Builtin.firstCells sz n x).run P { w with drawn := dr } = .ok new { w with drawn := dr })
  | zeros {t : Nat} {k k' : IntKind} {z : Value} (h1 : ts[1]? = some t) (h2 : P.underlying t = some (.int k)) (h3 : x = .int k' n) (h4 : (n : Int) < 2 ^ 40)
      (h5 : ∀ w, (zeroValue e).run P w = .ok z w) (h6 : new = if n * sz = 0 then #[] else Builtin.zeroCells z.cells n)

theorem wrap_small {n : Nat} (h : (n : Int) < 2 ^ 40) : IntKind.i64.wrap (n : Int) = n := by
  simp [IntKind.wrap, IntKind.bits, IntKind.signed]; omega

/-- in place -/
theorem append_in {e sz by_ : Nat} {ts : Array TypeId} {t0 : Nat} (ht0 : ts[0]? = some t0) (hu : P.underlying t0 = some (.slice e)) {i : TypeInfo} (hi : P.info? e = some i) (hsz : i.size = sz) (hby : i.bytes = by_)
    {x : Value} {w : World} {n : Nat} {new : Array Value} (hs : Src P e sz ts x w n new) (hb : 2 ^ 40 * by_ ≤ 2 ^ 48) {base : Option Addr} {sLen sCap : Nat} (hc : sLen + n ≤ sCap) (T : TypeId) :
    (Builtin.append_ ts T #[.slice base sLen sCap, x]).run P w =
      ((match base with | some b => storeCells (b.add (sLen * sz)) new.toList | none => pure () : Sem Unit).run P w).andThen fun _ w' => .ok (.slice base (sLen + n) sCap) w' := by
  cases hs with
  | plain h1 h2 h3 h4 h5 =>
    rename_i t d
    have h5 := h5 w.drawn
    unfold Builtin.append_
    simp only [ht0, h1, List.getElem?_toArray, List.getElem?_cons_zero, List.getElem?_cons_succ, Sem.run_bind, run_underlying hu, run_underlying h2, Result.andThen_ok, run_sizeOf hi, hsz, Sem.run_pure, Bool.false_eq_true,
      if_false, h4, hc, if_true, Bool.not_false, h5]
    cases base <;> simp
  | zeros h1 h2 h3 h4 h5 h6 =>
    rename_i t k k' z
    subst h3
    unfold Builtin.append_
    have hw := wrap_small h4
    have hn : ¬ ((n : Int) < 0) := by omega
    have hbb : ¬ (((n : Int)) * (by_ : Int) > 2 ^ 48) := by
      have : ((n : Int)) * by_ ≤ 2 ^ 40 * by_ := Int.mul_le_mul_of_nonneg_right (by omega) (by omega)
      omega
    simp only [ht0, h1, List.getElem?_toArray, List.getElem?_cons_zero, List.getElem?_cons_succ, Sem.run_bind, run_underlying hu, run_underlying h2, Result.andThen_ok, run_sizeOf hi, hsz, Sem.run_pure,
      if_true, asInt, asIntOf, hw, hn, if_false, run_typeInfo hi, hby, hbb, Int.toNat_natCast, hc, Bool.not_true, Bool.false_eq_true]
    subst h6
    by_cases h0 : n * sz = 0
    · simp only [h0, if_true]
      cases base <;> simp
    · simp only [h0, if_false, Sem.run_bind, h5]
      cases base <;> simp

theorem growBy_le (need : Nat) : ∀ (k c : Nat), c ≤ need + (need + 768) / 4 → Builtin.growBy need k c ≤ need + (need + 768) / 4
  | 0, c, h => h
  | k + 1, c, h => by
    simp only [Builtin.growBy]
    split
    · exact h
    · exact growBy_le need k _ (by omega)

theorem next_le {need c : Nat} (h : c < need) : Builtin.nextslicecap need c ≤ 2 * need + 192 := by
  unfold Builtin.nextslicecap
  split
  · omega
  · split
    · omega
    · have := growBy_le need 4 c (by omega)
      omega

/-- into a new row -/
theorem append_grow {e sz by_ : Nat} {ts : Array TypeId} {t0 : Nat} (ht0 : ts[0]? = some t0) (hu : P.underlying t0 = some (.slice e)) {i : TypeInfo} (hi : P.info? e = some i) (hsz : i.size = sz) (hby : i.bytes = by_)
    {z : Value} (hz : ∀ w, (zeroValue e).run P w = .ok z w)
    {x : Value} {w : World} {n : Nat} {new : Array Value} (hs : Src P e sz ts x w n new) (hb : 2 ^ 40 * by_ ≤ 2 ^ 48) {base : Option Addr} {sLen sCap : Nat} (hc : sCap < sLen + n)
    (hbig : (2 * (sLen + n) + 192) * by_ ≤ 2 ^ 48) (hlim : sLen + n < 2 ^ 60) {old : Array Value} (hold : ∀ dr, (Builtin.firstCells sz sLen (.slice base sLen sCap)).run P { w with drawn := dr } = .ok old { w with drawn := dr }) (T : TypeId) :
    ∃ cap, sLen + n ≤ cap ∧ (Builtin.append_ ts T #[.slice base sLen sCap, x]).run P w = .ok (.slice (some ⟨w.heap.size, 0, none⟩) (sLen + n) cap)
      { w with heap := w.heap.push (.cells (old ++ new ++ Builtin.zeroCells z.cells (cap - (sLen + n))) e (0, 0)), drawn := w.drawn + 1 } := by
  have hc' : ¬ (sLen + n ≤ sCap) := by omega
  have hl1 : ¬ (((sLen + n : Nat) : Int) > IntKind.i64.max) := by simp [IntKind.max, IntKind.signed, IntKind.bits]; omega
  have hnx : ¬ (Builtin.nextslicecap (sLen + n) sCap * by_ > 2 ^ 48) := by
    have := Nat.mul_le_mul_right by_ (next_le hc)
    omega
  have hf : ∀ e, (Question.appendCap (sLen + n) sCap e).forced = false := fun _ => rfl
  refine ⟨(Question.appendCap (sLen + n) sCap e).cut (w.tape w.drawn (.appendCap (sLen + n) sCap e)), by simp only [Question.cut]; omega, ?_⟩
  cases hs with
  | plain h1 h2 h3 h4 h5 =>
    rename_i t d
    unfold Builtin.append_
    simp only [ht0, h1, List.getElem?_toArray, List.getElem?_cons_zero, List.getElem?_cons_succ, Sem.run_bind, run_underlying hu, run_underlying h2, Result.andThen_ok, run_sizeOf hi, hsz, Sem.run_pure, Bool.false_eq_true,
      if_false, h4, hc', if_true, Bool.not_false, h5, hl1, false_and, run_typeInfo hi, hby, hnx, run_choose, hf, run_askRoom, hold, hz, newRow, run_newObj]
  | zeros h1 h2 h3 h4 h5 h6 =>
    rename_i t k k' z'
    subst h3
    have hzz : z' = z := by have := h5 w; rw [hz] at this; cases this; rfl
    subst hzz
    unfold Builtin.append_
    have hw := wrap_small h4
    have hn : ¬ ((n : Int) < 0) := by omega
    have hbb : ¬ (((n : Int)) * (by_ : Int) > 2 ^ 48) := by
      have : ((n : Int)) * by_ ≤ 2 ^ 40 * by_ := Int.mul_le_mul_of_nonneg_right (by omega) (by omega)
      omega
    simp only [ht0, h1, List.getElem?_toArray, List.getElem?_cons_zero, List.getElem?_cons_succ, Sem.run_bind, run_underlying hu, run_underlying h2, Result.andThen_ok, run_sizeOf hi, hsz, Sem.run_pure,
      if_true, asInt, asIntOf, hw, hn, if_false, run_typeInfo hi, hby, hbb, Int.toNat_natCast, hc', Bool.not_true, Bool.false_eq_true, hl1, false_and, hnx, run_choose, hf, run_askRoom, hold, hz, newRow, run_newObj]
    subst h6
    by_cases h0 : n * sz = 0
    · simp only [h0, if_true, Sem.run_pure, Result.andThen_ok]
    · simp only [h0, if_false, Sem.run_bind, Sem.run_pure, Result.andThen_ok, hz]

theorem strCells_rel (s : ByteArray) : LRel r (strCells s) (strCells s) := by
  have : ∀ l : List UInt8, LRel r (l.map fun b => Value.int .u8 b.toNat) (l.map fun b => Value.int .u8 b.toNat) := by
    intro l
    induction l with
    | nil => exact .nil
    | cons x l ih => exact .cons (.int _ _) ih
  exact this _

theorem strCells_length (s : ByteArray) : (strCells s).length = s.size := by simp [strCells]

theorem closed_rel {l : List Value} (h : ∀ v ∈ l, Value.closed1 v = true) : LRel r l l := by
  induction l with
  | nil => exact .nil
  | cons x l ih => exact .cons (rel_closed1 r (h x (by simp))) (ih fun v hv => h v (by simp [hv]))

theorem repl_closed {l : List Value} (h : ∀ v ∈ l, Value.closed1 v = true) (n : Nat) : ∀ v ∈ repl n l, Value.closed1 v = true := by
  intro v hv
  rw [repl_eq] at hv
  obtain ⟨q, hl1, hl2⟩ := List.mem_flatten.1 hv
  rw [(List.mem_replicate.1 hl1).2] at hl2
  exact h _ hl2

/-- the cells that append takes out of a text or a row -/
theorem asrc_run (hT : TabOK P tab) {e sz : Nat} {ke : TK} (hke : tab e = some ke) (hsz : ke.size = sz) {ts : Array TypeId} {t0 : Nat} {tl : List TypeId} (hts : ts.toList = t0 :: tl) {x x' : Value} {h : Heap} {new : List Value} {n : Nat}
    (hs : asrc tab sz ke.zero tl.head? x h = some (new, n)) (hx : VRel r x x') {prot : Prot} {w : World} (hh : HRel prot r h w) :
    ∃ new', LRel r new new' ∧ new.length = n * sz ∧ Src P e sz ts x' w n new'.toArray := by
  unfold asrc at hs
  split at hs
  · cases hs
  · rename_i t htl
    have ht1 : ts[1]? = some t := by
      rw [← Array.getElem?_toList, hts]
      cases tl with
      | nil => simp at htl
      | cons y tl => simpa using htl
    obtain ⟨z0, hz, hz1, hz2, _⟩ := zero_of (r := r) hT hke
    have hq : (∀ v ∈ ke.zero, Value.closed1 v = true) ∧ ke.zero.length = ke.size := by obtain ⟨_, _, _, _, _, _, _, _, hq, _⟩ := hT e ke hke; exact hq
    split at hs
    · rename_i kk a1 b1 c1 k' m ht
      split at hs
      · rename_i hm
        cases hs
        cases hx
        obtain ⟨_, d, _, _, _, _, _, _, _, hu, hd, _⟩ := hT t _ ht
        have hu' : P.underlying t = some (.int kk) := by cases d <;> first | exact hd.elim | (cases hd; exact hu)
        refine ⟨repl m.toNat ke.zero, closed_rel (repl_closed hq.1 _), by rw [repl_length, hq.2, hsz], .zeros (k' := k') (z := z0) ht1 hu' (by congr 1; omega) (by omega) hz ?_⟩
        have h1 : z0.cells = ke.zero.toArray := by rw [← hz1]
        split
        · rename_i h0
          have : (repl m.toNat ke.zero).length = 0 := by rw [repl_length, hq.2, hsz, h0]
          rw [List.eq_nil_of_length_eq_zero this]
        · apply Array.ext'
          rw [← range_repl]
          simp only [Builtin.zeroCells, h1, List.size_toArray]
      · cases hs
    · rename_i e2 a1 b1 c1 q1 q2 ht
      cases hs; cases hx
      exact ⟨[], .nil, by simp, .plain ht1 (slice_of hT ht) (by simp) rfl (fun _ => rfl)⟩
    · rename_i e2 a1 b1 c1 m o s len cap ht
      split at hs
      · rename_i c e3 opn hrow
        split at hs
        · rename_i hc
          obtain ⟨rfl, hc2⟩ := hc
          cases hs
          obtain ⟨wr, hk⟩ := row_some hrow
          obtain ⟨l, hl⟩ := named hh hk
          have hb := hh.blk m l _ hl hk
          obtain ⟨vs', g1, g2, g3⟩ := cells_read hb o (n * s) hc2
          have hlen : ((c.drop o).take (n * s)).length = n * s := by simp; omega
          refine ⟨vs', g1, hlen, ?_⟩
          cases hx with
          | slice hn =>
            rw [hl] at hn; cases hn
            refine .plain ht1 (slice_of hT ht) (by simp) rfl (fun dr => ?_)
            simp only [Builtin.firstCells]
            exact run_loadCells (w := { w with drawn := dr }) g2.symm g3
          | sliceEnd hn =>
            rename_i xo
            have : vs' = [] := List.eq_nil_of_length_eq_zero (by omega)
            subst this
            refine .plain ht1 (slice_of hT ht) (by simp) rfl (fun dr => ?_)
            simp [Builtin.firstCells, loadCells, loadCellsFrom]
        · cases hs
      · cases hs
    · rename_i a1 b1 c1 s ht
      split at hs
      · rename_i h1
        subst h1
        cases hs; cases hx
        refine ⟨strCells s, strCells_rel s, by rw [strCells_length]; omega, .plain ht1 (string_of hT ht) (by simp) rfl (fun dr => ?_)⟩
        have : s.extract 0 s.size = s := by simp
        simp only [Builtin.firstCells, this, Sem.run_pure]
        congr 1
        apply Array.ext'; simp [strCells]
      · cases hs
    · cases hs

theorem drop_take_len {c : List Value} {o n : Nat} (h : o + n ≤ c.length) : ((c.drop o).take n).length = n := by simp; omega

/-- append does what it says -/
theorem aappend_run (hT : TabOK P tab) {ts : Array TypeId} {name : Nat} {s x s' x' v : Value} {h h' : Heap} (ha : aappend tab ts name s x h = some (v, h')) (hs : VRel r s s') (hx : VRel r x x')
    {prot : Prot} {w : World} (hh : HRel prot r h w) (hf : h.get name = none) (hlt : name < h.next) (hby : ∀ t k, tab t = some k → k.bytes ≤ 256) (T : TypeId) :
    ∃ v' w' r', (Builtin.append_ ts T #[s', x']).run P w = .ok v' w' ∧ VRel r' v v' ∧ (∀ n, n ≠ name → r' n = r n) ∧ r.le r' ∧ HRel prot r' h' w' ∧ h'.next = h.next := by
  unfold aappend at ha
  split at ha
  · cases ha
  rename_i t0 tl hts
  have ht0 : ts[0]? = some t0 := by rw [← Array.getElem?_toList, hts]; rfl
  split at ha
  case h_2 => cases ha
  rename_i e a1 b1 c1 base sLen sCap ht
  split at ha
  case h_2 => cases ha
  rename_i k hk
  split at ha
  case h_2 => cases ha
  rename_i new n hsrc
  split at ha
  · cases ha
  rename_i hnz
  have hz0 : k.size ≠ 0 := fun e => hnz (.inl e)
  have hone : oneCells new = true := by
    cases hq : oneCells new
    · exact absurd (.inr hq) hnz
    · rfl
  obtain ⟨new', hnew, hnl, hS⟩ := asrc_run hT hk rfl hts hsrc hx hh
  obtain ⟨inf, _, _, hinf, hinfs, hinfb, _⟩ := hT e k hk
  have hb40 : 2 ^ 40 * k.bytes ≤ 2 ^ 48 := by have := hby e k hk; omega
  have hu := slice_of hT ht
  split at ha
  · -- in place
    rename_i hin
    split at ha
    · cases ha
      cases hs
      have hn0 : n = 0 := by omega
      subst hn0
      have := append_in (P := P) ht0 hu hinf hinfs hinfb hS hb40 (base := none) (sLen := 0) (sCap := 0) (by omega) T
      exact ⟨_, _, r, this, .sliceNil, fun _ _ => rfl, Ren.le_refl _, hh, rfl⟩
    · rename_i b o sz
      split at ha
      · rename_i hn0
        cases ha
        subst hn0
        have hnil : new' = [] := List.eq_nil_of_length_eq_zero (by rw [← hnew.length, hnl]; simp)
        subst hnil
        have key : ∀ (q : Addr) (c' : Nat), sLen ≤ c' → (Builtin.append_ ts T #[.slice (some q) sLen c', x']).run P w = .ok (.slice (some q) sLen c') w := by
          intro q c' hc'
          have := append_in (P := P) ht0 hu hinf hinfs hinfb hS hb40 (base := some q) (sLen := sLen) (sCap := c') (by omega) T
          rw [this]; simp [storeCells]
        cases hs with
        | slice hn hz hl hc hkn hsz hxx => exact ⟨_, _, r, key _ _ (by omega), .slice hn hz hl hc hkn hsz hxx, fun _ _ => rfl, Ren.le_refl _, hh, rfl⟩
        | sliceEnd hn => exact ⟨_, _, r, key _ _ (by omega), .sliceEnd hn, fun _ _ => rfl, Ren.le_refl _, hh, rfl⟩
      · rename_i hn0
        split at ha
        · rename_i c e' opn hrow
          split at ha
          · rename_i hcond
            obtain ⟨hsz, hcl⟩ := hcond
            cases ha
            have hkb := wrow_some hrow
            cases hs with
            | slice hn hz hl hc hkn hss hxx =>
              rename_i cap' l
              have e1 : o + sLen * sz + new.length ≤ c.length := by
                rw [hnl, ← hsz, Nat.add_assoc, ← Nat.add_mul]
                have := Nat.mul_le_mul_right sz hin
                omega
              obtain ⟨w', hrun, hrel⟩ := write_row (P := P) hh hn hkb hnew (oneCells_all hone) e1
              have hap := append_in (P := P) ht0 hu hinf hinfs hinfb hS hb40 (base := some ⟨l.b, l.d + o, none⟩) (sLen := sLen) (sCap := cap') (by omega) T
              refine ⟨.slice (some ⟨l.b, l.d + o, none⟩) (sLen + n) cap', w', r, ?_, .slice hn hz (by omega) hc hkn hss hxx, fun _ _ => rfl, Ren.le_refl _, hrel, rfl⟩
              rw [hap]
              simp only [addr_add', ← hsz, Nat.add_assoc] at hrun ⊢
              rw [hrun]; rfl
            | sliceEnd hn => exfalso; omega
          · cases ha
        · cases ha
    · cases ha
  · rename_i hnin
    split at ha
    · cases ha
    rename_i hlim
    have hl1 : (2 * (sLen + n) + 192) * k.bytes ≤ 2 ^ 48 := by omega
    have hl2 : sLen + n < 2 ^ 60 := by omega
    obtain ⟨z0, hz, hz1, hz2, _⟩ := zero_of (r := r) hT hk
    have hq : (∀ v ∈ k.zero, Value.closed1 v = true) ∧ k.zero.length = k.size := by obtain ⟨_, _, _, _, _, _, _, _, hq, _⟩ := hT e k hk; exact hq
    -- a new block of the world: what was, what is new, and noughts
    have fresh : ∀ (base' : Option Addr) (cap' : Nat) (old old' : List Value), LRel r old old' → old.length = sLen * k.size → cap' < sLen + n →
        (∀ dr, (Builtin.firstCells k.size sLen (.slice base' sLen cap')).run P { w with drawn := dr } = .ok old'.toArray { w with drawn := dr }) → ∀ h1 : Heap, HRel prot r h1 w → h1.get name = none → h1.next = h.next →
        ∃ v' w' r', (Builtin.append_ ts T #[.slice base' sLen cap', x']).run P w = .ok v' w' ∧ VRel r' (.slice (some ⟨name, 0, some k.size⟩) (sLen + n) (sLen + n)) v' ∧ (∀ n, n ≠ name → r' n = r n) ∧ r.le r' ∧
          HRel prot r' (h1.set name (.cells (old ++ new) e true true)) w' ∧ (h1.set name (.cells (old ++ new) e true true)).next = h.next := by
      intro base' cap' old old' hold hol hc hrun h1 hh1 hf1 hn1
      obtain ⟨cap, hcap, hap⟩ := append_grow (P := P) ht0 hu hinf hinfs hinfb hz hS hb40 (base := base') hc hl1 hl2 hrun T
      have hrn : r name = none := (hh1.dom name).2 hf1
      let rest : List Value := repl (cap - (sLen + n)) k.zero
      have hrest : Builtin.zeroCells z0.cells (cap - (sLen + n)) = rest.toArray := by
        apply Array.ext'
        have h1 : z0.cells = k.zero.toArray := by rw [← hz1]
        simp only [rest, ← range_repl, Builtin.zeroCells, h1, List.size_toArray]
      have hrl : rest.length = (cap - (sLen + n)) * k.size := by simp only [rest]; rw [repl_length, hq.2]
      let l : Loc := ⟨w.heap.size, 0, cap * k.size, (sLen + n) * k.size, k.size⟩
      have hlen : (old ++ new).length = (sLen + n) * k.size := by rw [List.length_append, hol, hnl, Nat.add_mul]
      have hle : Ren.le r (r.add name l) := Ren.le_add hrn l
      refine ⟨_, _, r.add name l, hap, ?_, fun m hm => Ren.add_ne _ _ hm, hle, ?_, hn1⟩
      · have := VRel.slice (r := r.add name l) (n := name) (o := 0) (len := sLen + n) (cap := sLen + n) (cap' := cap) (Ren.add_same _ _ _) rfl (Nat.le_refl _) hcap (by simp [l]) (by simp [l]) (fun hx => by simp [l] at hx)
        simpa [l] using this
      · have hall : LRel (r.add name l) (old ++ new) (old' ++ new') := (hold.mono hle).append (hnew.mono hle)
        have hsz2 : (old' ++ new').length = (sLen + n) * k.size := by rw [← hall.length, hlen]
        have e0 : old'.toArray ++ new'.toArray ++ rest.toArray = (old' ++ new' ++ rest).toArray := by simp
        refine (hh1.world (w' := { w with drawn := w.drawn + 1 }) rfl).alloc (obj := .cells (old'.toArray ++ new'.toArray ++ Builtin.zeroCells z0.cells (cap - (sLen + n))) e (0, 0)) hf1 (by rw [hn1]; exact hlt) rfl rfl ?_
        rw [hrest, e0]
        refine ⟨rfl, hlen, ?_, ?_, fun hx => by simp at hx, fun i v hv => ?_, fun _ o _ _ => by simp⟩
        · simp only [l, Nat.zero_add]; exact Nat.mul_le_mul_right _ hcap
        · simp only [l, List.size_toArray]
          rw [List.length_append, hsz2, hrl, ← Nat.add_mul]
          exact Nat.mul_le_mul_right _ (by omega)
        · have hlti : i < (old ++ new).length := (List.getElem?_eq_some_iff.1 hv).1
          have hlti' : i < (old' ++ new').length := by rw [← hall.length]; exact hlti
          obtain ⟨_, hve⟩ := List.getElem?_eq_some_iff.1 hv
          refine ⟨(old' ++ new')[i], ?_, hve ▸ hall.get i hlti hlti'⟩
          simp only [l, Nat.zero_add, List.getElem?_toArray]
          rw [List.getElem?_append_left hlti']; simp
    split at ha
    · cases ha
      cases hs
      obtain ⟨v', w', r', g1, g2, g3, g4, g5, g6⟩ := fresh none 0 [] [] .nil (by simp) (by omega) (fun dr => rfl) h hh hf rfl
      refine ⟨v', w', r', g1, ?_, g3, g4, ?_, g6⟩
      · simpa using g2
      · simpa using g5
    · rename_i b o sz
      split at ha
      case h_2 => cases ha
      rename_i c e' opn wr hkb
      split at ha
      case isFalse => cases ha
      rename_i hcond
      obtain ⟨hsz, hcl, hee⟩ := hcond
      subst hsz
      subst hee
      obtain ⟨l, hl⟩ := named hh hkb
      have hbl := hh.blk b l _ hl hkb
      have hle : sLen ≤ sCap := by cases hs <;> omega
      have hol : o + sLen * k.size ≤ c.length := by have := Nat.mul_le_mul_right k.size hle; omega
      obtain ⟨old', ho1, ho2, ho3⟩ := cells_read hbl o (sLen * k.size) hol
      have hol2 : ((c.drop o).take (sLen * k.size)).length = sLen * k.size := drop_take_len hol
      have hbn : b ≠ name := fun e => by subst e; rw [hf] at hkb; cases hkb
      have rd : ∀ xo, (xo = l.d + o ∨ sLen = 0) → ∀ cap' dr, (Builtin.firstCells k.size sLen (.slice (some ⟨l.b, xo, none⟩) sLen cap')).run P { w with drawn := dr } = .ok old'.toArray { w with drawn := dr } := by
        intro xo hxo cap' dr
        rcases hxo with rfl | h0
        · exact run_loadCells (w := { w with drawn := dr }) ho2.symm ho3
        · subst h0
          have : old' = [] := List.eq_nil_of_length_eq_zero (by omega)
          subst this
          simp [Builtin.firstCells, loadCells, loadCellsFrom]
      split at ha
      · -- it surely does not lie in the old row's place
        rename_i hex
        cases ha
        cases hs with
        | slice hn hzz hll hc hkn hss hxx =>
          rename_i cap' l2
          rw [hl] at hn; cases hn
          have hcap : cap' < sLen + n := by
            generalize hw : w.heap[l.b]? = ob at hbl
            cases ob with
            | none => exact hbl.elim
            | some ob =>
              cases ob <;> first | exact hbl.elim | skip
              obtain ⟨_, q2, _, _, q5, _⟩ := hbl
              by_cases he : o + sCap * k.size < l.known
              · have := hxx he
                omega
              · have he' : opn = false := hex.resolve_right (by omega)
                have := q5 he'
                have h3 : cap' * k.size ≤ sCap * k.size := by omega
                have := Nat.le_of_mul_le_mul_right h3 (by omega)
                omega
          exact fresh _ cap' _ _ ho1 hol2 hcap (rd _ (.inl rfl) cap') h hh hf rfl
        | sliceEnd hn =>
          rw [hl] at hn; cases hn
          exact fresh _ 0 _ _ ho1 hol2 (by omega) (rd _ (.inr rfl) 0) h hh hf rfl
      · rename_i hex
        split at ha
        case isFalse => cases ha
        rename_i hwr
        cases ha
        have hk1 := hh.kill (n := b) (by rw [hkb]; simp)
        have hk2 : (h.set b .dead).get name = none := by rw [Heap.set_ne _ _ (Ne.symm hbn)]; exact hf
        cases hs with
        | sliceEnd hn =>
          rw [hl] at hn; cases hn
          exact fresh _ 0 _ _ ho1 hol2 (by omega) (rd _ (.inr rfl) 0) _ hk1 hk2 rfl
        | slice hn hzz hll hc hkn hss hxx =>
          rename_i cap' l2
          rw [hl] at hn; cases hn
          by_cases hcap : cap' < sLen + n
          · exact fresh _ cap' _ _ ho1 hol2 hcap (rd _ (.inl rfl) cap') _ hk1 hk2 rfl
          · -- in place, after all: the new row lies where the old one lay
            have hwr' : wr = true := hwr
            subst hwr'
            have hrn : r name = none := (hh.dom name).2 hf
            let l2 : Loc := ⟨l.b, l.d + o, l.size, (sLen + n) * k.size, k.size⟩
            have hap := append_in (P := P) ht0 hu hinf hinfs hinfb hS hb40 (base := some ⟨l.b, l.d + o, none⟩) (sLen := sLen) (sCap := cap') (by omega) T
            have hle2 : Ren.le r (r.add name l2) := Ren.le_add hrn l2
            generalize hw : w.heap[l.b]? = ob at hbl
            cases ob with
            | none => exact hbl.elim
            | some ob =>
              cases ob <;> first | exact hbl.elim | skip
              rename_i c' e2 fz
              obtain ⟨q1, q2, q3, q4, q5, q6, q7⟩ := hbl
              have hmul : (sLen + n) * k.size ≤ cap' * k.size := Nat.mul_le_mul_right _ (by omega)
              have hmul2 : (sLen + n) * k.size = sLen * k.size + n * k.size := Nat.add_mul _ _ _
              have hnl' : new'.length = n * k.size := by rw [← hnew.length, hnl]
              obtain ⟨w', hrun, hobj, hsame, hex⟩ := run_storeCells (P := P) (b := l.b) (o := l.d + o + sLen * k.size) new' 0 hw (hnew.oneCell (oneCells_all hone)) (by omega) (fun j hj => q7 rfl _ (by omega) (by omega))
              refine ⟨.slice (some ⟨l.b, l.d + o, none⟩) (sLen + n) cap', w', r.add name l2, ?_, ?_, fun m hm => Ren.add_ne _ _ hm, hle2, ?_, rfl⟩
              · rw [hap]
                simp only [addr_add']
                rw [hrun]; rfl
              · have := VRel.slice (r := r.add name l2) (n := name) (o := 0) (len := sLen + n) (cap := sLen + n) (cap' := cap') (Ren.add_same _ _ _) rfl (Nat.le_refl _) (by omega) (by simp [l2]) (by simp [l2]; omega) (fun hx => by simp [l2] at hx)
                simpa [l2] using this
              · refine hh.heir hl hkb rfl hf hlt rfl hsame hobj ⟨q1, ?_, ?_, ?_, fun hx => by simp at hx, fun i v hv => ?_, fun _ p hp1 hp2 => q7 rfl p (by simp [l2] at hp1; omega) hp2⟩ hex
                · rw [List.length_append, hol2, hnl]; simp only [l2]; omega
                · simp only [l2]; omega
                · rw [writeA_size]; exact q4
                · have hlti := (List.getElem?_eq_some_iff.1 hv).1
                  rw [List.length_append, hol2, hnl] at hlti
                  by_cases hi : i < sLen * k.size
                  · rw [List.getElem?_append_left (by rw [hol2]; exact hi)] at hv
                    rw [List.getElem?_take_of_lt hi, List.getElem?_drop] at hv
                    obtain ⟨v', g1, g2⟩ := q6 (o + i) v hv
                    refine ⟨v', ?_, g2.mono hle2⟩
                    rw [writeA_lt _ _ _ _ (by simp only [l2]; omega)]
                    simp only [l2]
                    rw [← g1]; congr 1; omega
                  · rw [List.getElem?_append_right (by rw [hol2]; omega), hol2] at hv
                    obtain ⟨hj, hve⟩ := List.getElem?_eq_some_iff.1 hv
                    have hj' : i - sLen * k.size < new'.length := by rw [← hnew.length]; exact hj
                    refine ⟨new'[i - sLen * k.size], ?_, hve ▸ (hnew.get _ hj hj').mono hle2⟩
                    have := writeA_in new' c' (l.d + o + sLen * k.size + 0) (i - sLen * k.size) hj' (by omega)
                    rw [← this]; congr 1; simp only [l2]; omega
    · cases ha
end
end Go.Mir

