/- copy, unsafe.String; all that writes. By a session's own hand. -/
import Derived.Test.YtlpenkjkggopiaaGreatMK
set_option linter.unusedSimpArgs false
set_option linter.unusedVariables false
namespace Go.Mir
section
variable {P : Program} {tab : Tab} {r : Ren} {ρ : Env} {a : Act}

theorem run_copy {e sz : Nat} {ts : Array TypeId} {t0 : Nat} (ht0 : ts[0]? = some t0) (hu : P.underlying t0 = some (.slice e)) {i : TypeInfo} (hi : P.info? e = some i) (hsz : i.size = sz)
    {x : Value} {w : World} {n : Nat} {new : Array Value} {len cap : Nat} (h1 : (Builtin.lenOf x).run P w = .ok n w) (h2 : (Builtin.firstCells sz (min n len) x).run P w = .ok new w) (base : Option Addr) (T : TypeId) :
    (Builtin.copy_ ts T #[.slice base len cap, x]).run P w =
      ((match base with | some b => storeCells b new.toList | none => pure () : Sem Unit).run P w).andThen fun _ w' => .ok (.int .i64 ((min n len : Nat) : Int)) w' := by
  unfold Builtin.copy_
  have e : ∀ a b : Nat, Nat.min a b = min a b := fun _ _ => rfl
  simp only [ht0, List.getElem?_toArray, List.getElem?_cons_zero, List.getElem?_cons_succ, Sem.run_bind, run_underlying hu, Result.andThen_ok, run_sizeOf hi, hsz, h1, e, h2]
  cases base <;> simp only [goInt, Sem.run_bind, Sem.run_pure, Result.andThen_ok]

theorem acopy_run (hT : TabOK P tab) {ts : Array TypeId} {d x d' x' v : Value} {h h' : Heap} (ha : acopy tab ts d x h = some (v, h')) (hd : VRel r d d') (hx : VRel r x x')
    {prot : Prot} {w : World} (hh : HRel prot r h w) (T : TypeId) :
    ∃ w', (Builtin.copy_ ts T #[d', x']).run P w = .ok v w' ∧ VRel r v v ∧ HRel prot r h' w' ∧ h'.next = h.next := by
  unfold acopy at ha
  split at ha
  · cases ha
  rename_i t0 tl hts
  have ht0 : ts[0]? = some t0 := by rw [← Array.getElem?_toList, hts]; rfl
  split at ha
  · rename_i e a1 b1 c1 q1 q2 ht
    cases hd
    split at ha
    · rename_i k _ _ _ hk
      cases ha
      obtain ⟨inf, _, _, hinf, hinfs, _⟩ := hT e k hk
      have key : ∀ b n c, (Builtin.copy_ ts T #[.slice none 0 0, .slice b n c]).run P w = .ok (.int .i64 0) w := by
        intro b n c
        have h2 : (Builtin.firstCells k.size (min n 0) (.slice b n c)).run P w = .ok #[] w := by cases b <;> simp [Builtin.firstCells, loadCells, loadCellsFrom]
        have := run_copy (P := P) (x := .slice b n c) (n := n) ht0 (slice_of hT ht) hinf hinfs rfl h2 none T (cap := 0)
        rw [this]; simp
      refine ⟨w, ?_, .int _ _, hh, rfl⟩
      cases hx <;> exact key _ _ _
    · rename_i k _ hk
      cases ha; cases hx
      rename_i s
      obtain ⟨inf, _, _, hinf, hinfs, _⟩ := hT e k hk
      refine ⟨w, ?_, .int _ _, hh, rfl⟩
      have h2 : (Builtin.firstCells k.size (min s.size 0) (.string s)).run P w = .ok #[] w := by simp [Builtin.firstCells]
      have := run_copy (P := P) (x := .string s) (n := s.size) ht0 (slice_of hT ht) hinf hinfs rfl h2 none T (cap := 0)
      rw [this]; simp
    · cases ha
  · rename_i e a1 b1 c1 b o sz len cap ht
    split at ha
    case h_2 => cases ha
    rename_i k c e' opn hk hrow
    obtain ⟨inf, _, _, hinf, hinfs, _⟩ := hT e k hk
    have hkb := wrow_some hrow
    -- where it goes to
    have to : ∀ {n : Nat} {new new' : List Value}, LRel r new new' → oneCells new = true → new.length = min n len * k.size → o + len * k.size ≤ c.length → sz = k.size →
        (Builtin.lenOf x').run P w = .ok n w → (Builtin.firstCells k.size (min n len) x').run P w = .ok new'.toArray w →
        ∃ w', (Builtin.copy_ ts T #[d', x']).run P w = .ok (.int .i64 ((min n len : Nat) : Int)) w' ∧ HRel prot r (h.set b (.cells (writeL c o new) e' opn true)) w' := by
      intro n new new' hnew hone hnl hol hsz h1 h2
      have hmin : min n len * k.size ≤ len * k.size := Nat.mul_le_mul_right _ (Nat.min_le_right _ _)
      cases hd with
      | slice hn =>
        rename_i cap' l
        obtain ⟨w', hrun, hrel⟩ := write_row (P := P) (o := o) hh hn hkb hnew (oneCells_all hone) (by omega)
        refine ⟨w', ?_, hrel⟩
        rw [run_copy (P := P) ht0 (slice_of hT ht) hinf hinfs h1 h2]
        simp only []
        rw [hrun]; rfl
      | sliceEnd hn =>
        rename_i xo l
        have hnil : new = [] := List.eq_nil_of_length_eq_zero (by rw [hnl]; simp)
        subst hnil
        cases hnew
        have e0 : h.set b (.cells (writeL c o []) e' opn true) = h := by
          cases h
          simp only [Heap.set, writeL, Heap.mk.injEq, and_true]
          funext m
          split
          · rename_i e; subst e; exact hkb.symm
          · rfl
        rw [e0]
        refine ⟨w, ?_, hh⟩
        rw [run_copy (P := P) ht0 (slice_of hT ht) hinf hinfs h1 h2]
        simp [storeCells]
    split at ha
    · cases ha; cases hx
      have e0 : h.set b (.cells (writeL c o []) e' opn true) = h := by
        cases h
        simp only [Heap.set, writeL, Heap.mk.injEq, and_true]
        funext m
        split
        · rename_i e; subst e; exact hkb.symm
        · rfl
      refine ⟨w, ?_, .int _ _, hh, rfl⟩
      have h2 : (Builtin.firstCells k.size (min 0 len) (.slice none 0 0)).run P w = .ok #[] w := by simp [Builtin.firstCells]
      cases hd with
      | slice hn =>
        rw [run_copy (P := P) ht0 (slice_of hT ht) hinf hinfs (n := 0) rfl h2]
        simp [storeCells]
      | sliceEnd hn =>
        rw [run_copy (P := P) ht0 (slice_of hT ht) hinf hinfs (n := 0) rfl h2]
        simp [storeCells]
    · rename_i m p s n q
      split at ha
      case h_2 => cases ha
      rename_i cs e2 opn2 hrow2
      split at ha
      case isFalse => cases ha
      rename_i hc
      obtain ⟨hc1, hc2, hc3, hc4, hc5⟩ := hc
      cases ha
      subst hc2
      obtain ⟨wr2, hk2⟩ := row_some hrow2
      obtain ⟨l2, hl2⟩ := named hh hk2
      have hb2 := hh.blk m l2 _ hl2 hk2
      have hmin : min n len * k.size ≤ n * k.size := Nat.mul_le_mul_right _ (Nat.min_le_left _ _)
      obtain ⟨vs', g1, g2, g3⟩ := cells_read hb2 p (min n len * k.size) (by omega)
      have hlen : ((cs.drop p).take (min n len * k.size)).length = min n len * k.size := drop_take_len (by omega)
      have hx1 : (Builtin.lenOf x').run P w = .ok n w ∧ (Builtin.firstCells k.size (min n len) x').run P w = .ok vs'.toArray w := by
        cases hx with
        | slice hn =>
          rw [hl2] at hn; cases hn
          exact ⟨rfl, run_loadCells g2.symm g3⟩
        | sliceEnd hn =>
          have : vs' = [] := List.eq_nil_of_length_eq_zero (by simp at g2; exact List.length_eq_zero_iff.2 g2)
          subst this
          exact ⟨rfl, by simp [Builtin.firstCells, loadCells, loadCellsFrom]⟩
      obtain ⟨w', hr, hrel⟩ := to g1 hc5 hlen (by rw [← hc1]; exact hc3) hc1 hx1.1 hx1.2
      exact ⟨w', hr, .int _ _, hrel, rfl⟩
    · rename_i str
      split at ha
      case isFalse => cases ha
      rename_i hc
      obtain ⟨hc1, hc2, hc3⟩ := hc
      cases ha; cases hx
      have hl : LRel r ((strCells str).take (min str.size len)) ((strCells str).take (min str.size len)) := by
        have : ∀ (n : Nat) (l l' : List Value), LRel r l l' → LRel r (l.take n) (l'.take n) := by
          intro n l l' h
          induction h generalizing n with
          | nil => simp; exact .nil
          | cons hv _ ih => cases n with
            | zero => exact .nil
            | succ n => exact .cons hv (ih n)
        exact this _ _ _ (strCells_rel str)
      have hone : oneCells ((strCells str).take (min str.size len)) = true := by
        simp only [oneCells, List.all_eq_true]
        intro v hv
        obtain ⟨b, _, rfl⟩ := List.mem_map.1 (List.mem_of_mem_take hv)
        rfl
      have hfc : (Builtin.firstCells k.size (min str.size len) (.string str)).run P w = .ok ((strCells str).take (min str.size len)).toArray w := by
        simp only [Builtin.firstCells, Sem.run_pure]
        congr 1
        apply Array.ext'
        simp [strCells]
      obtain ⟨w', hr, hrel⟩ := to hl hone (by rw [List.length_take, strCells_length, hc2]; omega) (by rw [← hc2] at hc1; rw [← hc1]; exact hc3) (by omega) rfl hfc
      exact ⟨w', hr, .int _ _, hrel, rfl⟩
    · cases ha
  · cases ha

theorem loadBytes_run {w : World} {b : Nat} : ∀ {vs vs' : List Value} (_ : LRel r vs vs') {bs : List UInt8} (_ : bytesOf vs = some bs) (o : Nat) (acc : ByteArray)
    (_ : ∀ (j : Nat) (hj : j < vs'.length), w.cell? ⟨b, o + j, none⟩ = some vs'[j]), (loadBytes ⟨b, o, none⟩ acc vs.length).run P w = .ok ⟨acc.data ++ bs.toArray⟩ w := by
  intro vs vs' hr
  induction hr with
  | nil => intro bs h o acc _; cases h; simp [loadBytes]
  | cons hv ht ih =>
    rename_i v v' l l'
    intro bs h o acc hc
    unfold bytesOf at h
    split at h
    · rename_i heq; cases heq
    · rename_i n q heq
      cases heq
      cases hv
      split at h
      · rename_i bs' hbs
        cases h
        have h0 := hc 0 (by simp)
        simp only [List.getElem_cons_zero, Nat.add_zero] at h0
        have := ih hbs (o + 1) (acc.push n.toNat.toUInt8) (fun j hj => by
          have := hc (j + 1) (by simp; omega)
          simp only [List.getElem_cons_succ] at this
          rw [← this]; congr 2; omega)
        simp only [List.length_cons, loadBytes, Sem.run_bind, run_load, h0, Result.andThen_ok, addr_add', this]
        congr 1
        simp [ByteArray.push]
      · cases h
    · cases h

theorem variables_run {e : Nat} {i : TypeInfo} (hi : P.info? e = some i) (hs : i.size = 1) {b o n : Nat} {c : Array Value} {fz : Nat × Nat} {w : World} (hw : w.heap[b]? = some (.cells c e fz)) (ho : o + n ≤ c.size) :
    (variablesAt ⟨b, o, none⟩ e n).run P w = .ok true w := by
  have hsz : P.cellsOf e = 1 := by simp [Program.cellsOf, hi, hs]
  have hsh : w.shape? b = some (e, c.size) := by simp [World.shape?, hw]
  have hsame : ∀ d, sameLayout P (d + 1) e e = true := fun d => by simp [sameLayout]
  obtain ⟨d, hd⟩ : ∃ d, P.depth = d + 1 := ⟨_, rfl⟩
  have hrow : rowAt P (fun t => sameLayout P P.depth t e) P.depth e c.size o n = true := by
    rw [hd]
    unfold rowAt
    simp [hsz, Nat.mod_one, ho, hsame]
  have hl : liesAt P P.depth e c.size o e n = true := by
    rw [hd] at hrow ⊢
    unfold liesAt
    simp [hd, hrow]
  simp [variablesAt, hsh, hsz, hl]

/-- unsafe.String's text at a pointer that is nil, or an address -/
theorem unsafeString_at (ts : Array TypeId) (T : TypeId) (a : Addr) (x : Value) : Builtin.unsafeString_ ts T #[.pointer (some a), x] = (do
    let n ← asInt x
    let some pt := ts[0]? | stuck "unsafe.String: no argument types"
    if n < 0 then runtimePanic (.error "unsafe.String: len out of range")
    if n > IntKind.i64.max then unsupported (.unsafePointer "String: a length above the largest int")
    if n = 0 then pure (.string .empty)
    else if ← variablesAt a (← elemOf pt) n.toNat then do
      let s ← loadBytes a .empty n.toNat
      freeze a n.toNat
      pure (.string s)
    else unsupported (.unsafePointer "String: not so many bytes at ptr")) := rfl
theorem unsafeString_nil (ts : Array TypeId) (T : TypeId) (x : Value) : Builtin.unsafeString_ ts T #[.pointer none, x] = (do
    let n ← asInt x
    let some _ := ts[0]? | stuck "unsafe.String: no argument types"
    if n < 0 then runtimePanic (.error "unsafe.String: len out of range")
    if n > IntKind.i64.max then unsupported (.unsafePointer "String: a length above the largest int")
    if n = 0 then pure (.string .empty)
    else runtimePanic (.error "unsafe.String: ptr is nil and len is not zero")) := rfl

theorem aunsafeStr_run (hT : TabOK P tab) {ts : Array TypeId} {p n p' n' v : Value} {h h' : Heap} (ha : aunsafeStr tab ts p n h = some (v, h')) (hp : VRel r p p') (hn : VRel r n n')
    {prot : Prot} {w : World} (hh : HRel prot r h w) (T : TypeId) (hne : ts.toList ≠ []) :
    ∃ w', (Builtin.unsafeString_ ts T #[p', n']).run P w = .ok v w' ∧ VRel r v v ∧ HRel prot r h' w' ∧ h'.next = h.next := by
  obtain ⟨t0, tl, hts⟩ : ∃ t0 tl, ts.toList = t0 :: tl := by
    cases hq : ts.toList with
    | nil => exact absurd hq hne
    | cons a b => exact ⟨a, b, rfl⟩
  have ht0 : ts[0]? = some t0 := by rw [← Array.getElem?_toList, hts]; rfl
  unfold aunsafeStr at ha
  split at ha
  · split at ha
    · rename_i h0
      cases ha; cases hp; cases hn
      subst h0
      exact ⟨w, by rw [unsafeString_nil]; simp [asInt, asIntOf, ht0, IntKind.max, IntKind.signed, IntKind.bits], .string _, hh, rfl⟩
    · cases ha
  · rename_i t tl' b o k m hts'
    rw [hts'] at hts
    cases hts
    split at ha
    case h_2 => cases ha
    rename_i e a1 b1 c1 ht
    split at ha
    case h_2 => cases ha
    rename_i a2 b2 c2 c e' opn he hk
    cases hp with | ptr hb => ?_
    cases hn
    rename_i l
    split at ha
    · rename_i hc
      obtain ⟨hc1, hc2, hc3, rfl⟩ := hc
      split at ha
      case h_2 => cases ha
      rename_i bs hbs
      cases ha
      have hbl := hh.blk b l _ hb hk
      obtain ⟨vs', g1, g2, g3⟩ := cells_read hbl o m.toNat hc3
      generalize hw : w.heap[l.b]? = ob at hbl
      cases ob with
      | none => exact hbl.elim
      | some ob =>
        cases ob <;> first | exact hbl.elim | skip
        rename_i c' e2 fz
        obtain ⟨q1, q2, q3, q4, q5, q6, q7⟩ := hbl
        subst q1
        obtain ⟨inf, _, _, hinf, hinfs, _, _, _, _, _, _, hm⟩ := hT e' _ he
        have hsz : inf.size = 1 := by rw [hinfs]; exact hm.1
        have hvar := variables_run (P := P) hinf hsz (o := l.d + o) (n := m.toNat) hw (by omega)
        have hload := loadBytes_run (P := P) (w := w) (b := l.b) g1 hbs (l.d + o) .empty g3
        rw [drop_take_len hc3] at hload
        have hlt : l.b < w.heap.size := (Array.getElem?_eq_some_iff.1 hw).1
        let w' := w.freeze ⟨l.b, l.d + o, none⟩ m.toNat
        have hw' : ∃ fz', w'.heap[l.b]? = some (.cells c' e' fz') := by
          simp only [w', World.freeze]
          rw [if_neg (by omega)]
          obtain ⟨lo, hi⟩ := fz
          exact ⟨_, by simp only [Array.getElem?_modify, if_true, hw]; rfl⟩
        obtain ⟨fz', hw'⟩ := hw'
        refine ⟨w', ?_, .string _, ?_, rfl⟩
        · have g5 : ¬ m < 0 := by omega
          have g6 : ¬ m > IntKind.i64.max := by simp [IntKind.max, IntKind.signed, IntKind.bits]; omega
          have g7 : ¬ m = 0 := by omega
          rw [unsafeString_at]
          simp only [Sem.run_bind, asInt, asIntOf, Sem.run_pure, Result.andThen_ok, ht0, g5, g6, g7, if_false, elemOf, run_underlying (pointer_of hT ht), hvar, if_true, hload, run_freeze]
          simp [w']
        · refine hh.turn hb hk rfl (fun b' hb' => ?_) hw' ⟨rfl, q2, q3, q4, q5, q6, fun hx => by simp at hx⟩ (by show ((w.freeze _ _).os, (w.freeze _ _).output) = _; unfold World.freeze; split <;> rfl)
          simp only [w', World.freeze]
          rw [if_neg (by omega)]
          simp [Array.getElem?_modify, Ne.symm hb']
    · split at ha
      · rename_i h0
        cases ha
        subst h0
        exact ⟨w, by rw [unsafeString_at]; simp [asInt, asIntOf, ht0, IntKind.max, IntKind.signed, IntKind.bits], .string _, hh, rfl⟩
      · cases ha
  · cases ha

/-- all that writes -/
theorem aeff_run (hT : TabOK P tab) (hby : ∀ t k, tab t = some k → k.bytes ≤ 256) (he : ERel r ρ a.tmps) {o : Oper} {name : Nat} {h h' : Heap} {v : Value} (ha : aeff tab ρ name o h = some (v, h'))
    {prot : Prot} {w : World} (hh : HRel prot r h w) (hf : h.get name = none) (hlt : name < h.next) :
    ∃ v' w' r', ((execOp a.eval o).run P w = .ok (.value v') w' ∨ ((execOp a.eval o).run P w = .ok .skip w' ∧ v' = undef)) ∧ VRel r' v v' ∧ r.le r' ∧ (∀ n, n ≠ name → r' n = r n) ∧ HRel prot r' h' w' ∧ h'.next = h.next := by
  have undef_rel : VRel r undef undef := .tuple rfl (fun i h1 _ => by simp at h1)
  unfold aeff at ha
  split at ha <;> rename_i ho
  · split at ha
    · rename_i hx hv
      simp only [Option.map_eq_some_iff] at ha
      obtain ⟨h2, hs, heq⟩ := ha
      cases heq
      obtain ⟨w', hr, hrel, hn⟩ := astore_run (P := P) hT hs (ev_rel he hx) (ev_rel he hv) hh
      exact ⟨undef, w', r, .inr ⟨by simp [execOp, ho, hr], rfl⟩, undef_rel, Ren.le_refl _, fun _ _ => rfl, hrel, hn⟩
    · cases ha
  · split at ha
    · rename_i hm hk hv
      simp only [Option.map_eq_some_iff] at ha
      obtain ⟨h2, hs, heq⟩ := ha
      cases heq
      obtain ⟨w', hr, hrel, hn⟩ := amapUpdate_run (P := P) hT hs (ev_rel he hm) (ev_rel he hk) (ev_rel he hv) hh
      exact ⟨undef, w', r, .inr ⟨by simp [execOp, ho, hr], rfl⟩, undef_rel, Ren.le_refl _, fun _ _ => rfl, hrel, hn⟩
    · cases ha
  · split at ha
    · rename_i hm hk hv
      simp only [Option.map_eq_some_iff] at ha
      obtain ⟨h2, hs, heq⟩ := ha
      cases heq
      obtain ⟨w', hr, hrel, hn⟩ := amapUpdate_run (P := P) hT hs (ev_rel he hm) (ev_rel he hk) (ev_rel he hv) hh
      exact ⟨undef, w', r, .inr ⟨by simp [execOp, ho, hr], rfl⟩, undef_rel, Ren.le_refl _, fun _ _ => rfl, hrel, hn⟩
    · cases ha
  · rename_i c
    split at ha
    · rename_i s x hc hx
      have hl := evs_rel he hx
      generalize hq : List.map a.eval _ = xs at hl
      cases hl with | cons h1 hl => ?_
      cases hl with | cons h2 hl => ?_
      cases hl
      rename_i s' x'
      obtain ⟨v', w', r', hr, hv, hsame, hle, hrel, hn⟩ := aappend_run (P := P) hT ha h1 h2 hh hf hlt hby o.type
      have e : c.args.map a.eval = #[s', x'] := by apply Array.ext'; simpa using hq
      refine ⟨v', w', r', .inl ?_, hv, hle, hsame, hrel, hn⟩
      simp only [execOp, ho]
      refine run_builtin hc fun cs => ?_
      rw [e]; simp [builtin, hr]
    · rename_i s x hc hx
      have hl := evs_rel he hx
      generalize hq : List.map a.eval _ = xs at hl
      cases hl with | cons h1 hl => ?_
      cases hl with | cons h2 hl => ?_
      cases hl
      rename_i s' x'
      obtain ⟨w', hr, hv, hrel, hn⟩ := acopy_run (P := P) hT ha h1 h2 hh o.type
      have e : c.args.map a.eval = #[s', x'] := by apply Array.ext'; simpa using hq
      refine ⟨v, w', r, .inl ?_, hv, Ren.le_refl _, fun _ _ => rfl, hrel, hn⟩
      simp only [execOp, ho]
      refine run_builtin hc fun cs => ?_
      rw [e]; simp [builtin, hr]
    · rename_i s x hc hx
      have hl := evs_rel he hx
      generalize hq : List.map a.eval _ = xs at hl
      cases hl with | cons h1 hl => ?_
      cases hl with | cons h2 hl => ?_
      cases hl
      rename_i s' x'
      have hne : c.argTypes.toList ≠ [] := by
        intro e0
        unfold aunsafeStr at ha
        rw [e0] at ha
        split at ha
        · rename_i h; cases h
        · rename_i h; cases h
        · cases ha
      obtain ⟨w', hr, hv, hrel, hn⟩ := aunsafeStr_run (P := P) hT ha h1 h2 hh o.type hne
      have e : c.args.map a.eval = #[s', x'] := by apply Array.ext'; simpa using hq
      refine ⟨v, w', r, .inl ?_, hv, Ren.le_refl _, fun _ _ => rfl, hrel, hn⟩
      simp only [execOp, ho]
      refine run_builtin hc fun cs => ?_
      rw [e]; simp [builtin, hr]
    · cases ha
  · cases ha
end
end Go.Mir

