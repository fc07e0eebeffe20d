/- Operations that write memory: they do what they say. By a session's own hand. -/
import Derived.Test.YtlpenkjkggopiaaGreatMI
set_option linter.unusedSimpArgs false
set_option linter.unusedVariables false
namespace Go.Mir
section
variable {P : Program} {tab : Tab} {r : Ren} {ρ : Env} {a : Act}

theorem bytes_eq {x y : ByteArray} (h : (x == y) = true) : x = y := by
  cases x; cases y
  unfold BEq.beq ByteArray.instBEq ByteArray.beq at h
  simp at h
  rw [h]

theorem sameKey_bits {k k' : Value} (h : sameKey k k' = true) : k = k' ∧ ∀ n, Instr.sameBits n k k' = true := by
  unfold sameKey at h
  split at h
  · simp only [Bool.and_eq_true, beq_iff_eq] at h
    obtain ⟨h1, rfl⟩ := h
    obtain rfl := sameKind_eq h1
    exact ⟨rfl, fun n => by cases n <;> simp [Instr.sameBits]⟩
  · rename_i s s'
    have e : s = s' := bytes_eq h
    subst e
    exact ⟨rfl, fun n => by cases n <;> exact h⟩
  · cases h

/-- where a key lies, and what an update does to the entries -/
theorem findNow_upd {d : TypeDesc} {td : TD} (hd : TDOK d td) {k v : Value} : ∀ {es : List (Value × Value)} {es' : List MapEntry} (i : Nat), keysOK td k es = true →
    es.length = es'.length → (∀ (i : Nat) (p : Value × Value), es[i]? = some p → ∃ e, es'[i]? = some e ∧ e.key = p.1 ∧ VRel r p.2 e.val) →
    (Instr.findNow d k es' i = some none ∧ aupd k v es = es ++ [(k, v)]) ∨
    (∃ j e, Instr.findNow d k es' i = some (some (i + j, e.val)) ∧ es'[j]? = some e ∧ (∀ n, Instr.sameBits n e.key k = true) ∧ (aupd k v es).length = es.length ∧
      ∀ (q : Nat) (p : Value × Value), (aupd k v es)[q]? = some p → if q = j then p = (k, v) else es[q]? = some p) := by
  intro es
  induction es with
  | nil =>
    intro es' i _ hl _
    cases es' with
    | nil => exact .inl ⟨rfl, rfl⟩
    | cons x l => simp at hl
  | cons p es ih =>
    intro es' i hk hl hx
    cases es' with
    | nil => simp at hl
    | cons e es' =>
      obtain ⟨e', he', hkey, _⟩ := hx 0 p rfl
      simp at he'
      subst he'
      simp only [keysOK, List.all_cons, Bool.and_eq_true] at hk
      obtain ⟨hk0, ⟨hk1, hk2⟩, hk3⟩ := hk
      have hs : Instr.sameNow d k e.key = some (sameKey k p.1) := by
        rw [hkey]
        obtain ⟨pk, pv⟩ := p
        simp only at hk1 hk2 ⊢
        cases k <;> simp only [plainKey, Bool.false_eq_true] at hk0
        · cases td <;> simp only [Bool.false_eq_true] at hk0
          cases pk <;> simp only [plainKey, Bool.false_eq_true] at hk1
          cases d <;> first | exact hd.elim | skip
          obtain rfl := sameKind_eq hk2
          simp [Instr.sameNow, sameKey, hk2]
        · cases td <;> simp only [Bool.false_eq_true] at hk0
          cases pk <;> simp only [plainKey, Bool.false_eq_true] at hk1
          cases d <;> first | exact hd.elim | skip
          simp [Instr.sameNow, sameKey]
      simp only [Instr.findNow, hs, aupd]
      cases hq : sameKey k p.1 with
      | true =>
        refine .inr ⟨0, e, by simp, by simp, ?_, by simp, ?_⟩
        · obtain ⟨e1, e2⟩ := sameKey_bits hq
          intro n
          rw [hkey, ← e1]
          have := e2 n
          rwa [← e1] at this
        · intro q p' hp
          simp only [if_true] at hp
          cases q with
          | zero => simp at hp ⊢; exact hp.symm
          | succ q => simpa using hp
      | false =>
        have hk' : keysOK td k es = true := by simp only [keysOK, Bool.and_eq_true]; exact ⟨hk0, hk3⟩
        have := ih (es' := es') (i + 1) hk' (by simpa using hl) (fun j p' hj => by
          obtain ⟨e'', g1, g2⟩ := hx (j + 1) p' (by simpa using hj)
          exact ⟨e'', by simpa using g1, g2⟩)
        simp only [Bool.false_eq_true, if_false]
        rcases this with ⟨h1, h2⟩ | ⟨j, e2, h1, h2, h3, h4, h5⟩
        · exact .inl ⟨h1, by rw [h2]; rfl⟩
        · refine .inr ⟨j + 1, e2, by rw [h1]; simp; omega, by simpa using h2, h3, by simp [h4], fun q p' hp => ?_⟩
          cases q with
          | zero => simpa using hp
          | succ q =>
            have := h5 q p' (by simpa using hp)
            simpa using this

theorem run_setObj {w : World} {b : Nat} {es es' : Array MapEntry} {c c' : Nat} (h : w.heap[b]? = some (.map es c)) :
    (setObj b (.map es' c')).run P w = .ok () { w with heap := w.heap.setIfInBounds b (.map es' c') } := by
  simp [setObj, Sem.run, h]

theorem amapUpdate_run (hT : TabOK P tab) {t : Nat} {m m' k k' v v' : Value} {h h' : Heap} (hs : amapUpdate tab t m k v h = some h') (hm : VRel r m m') (hk : VRel r k k') (hv : VRel r v v')
    {prot : Prot} {w : World} (hh : HRel prot r h w) : ∃ w', (Instr.mapUpdate t m' k' v').run P w = .ok () w' ∧ HRel prot r h' w' ∧ h'.next = h.next := by
  unfold amapUpdate at hs
  split at hs
  · rename_i kt et a1 b1 c1 n ht
    split at hs
    · rename_i kk es hkk hes
      split at hs
      · rename_i hc
        cases hs
        cases hm with | map hn => ?_
        rename_i l
        have hpl : plainKey kk.desc k = true := by simp only [keysOK, Bool.and_eq_true] at hc; exact hc.1
        have hkk' : k' = k := by cases hk <;> first | rfl | (simp [plainKey] at hpl; done)
        subst hkk'
        have hb := hh.blk n l _ hn hes
        generalize hw : w.heap[l.b]? = ob at hb
        cases ob with
        | none => exact hb.elim
        | some ob =>
          cases ob <;> first | exact hb.elim | skip
          rename_i es' clock
          obtain ⟨h1, h2⟩ := hb
          have hlt : l.b < w.heap.size := (Array.getElem?_eq_some_iff.1 hw).1
          obtain ⟨_, dk, _, _, _, _, _, _, _, huk, hdk, _⟩ := hT kt kk hkk
          have hck := checkKey_run (P := P) huk hdk hpl false w
          have hx : ∀ (i : Nat) (p : Value × Value), es[i]? = some p → ∃ e, es'.toList[i]? = some e ∧ e.key = p.1 ∧ VRel r p.2 e.val := fun i p hp => by
            obtain ⟨e, he, hr⟩ := h2 i p hp
            exact ⟨e, by simpa using he, hr⟩
          have fin : ∀ (es2 : Array MapEntry) (c2 : Nat), BlkRel r l (.amap (aupd k' v es)) (some (.map es2 c2)) →
              (Instr.mapUpdate t (.map (some l.b)) k' v').run P w = (setObj l.b (.map es2 c2)).run P w →
              ∃ w', (Instr.mapUpdate t (.map (some l.b)) k' v').run P w = .ok () w' ∧ HRel prot r (h.set n (.amap (aupd k' v es))) w' ∧ (h.set n (.amap (aupd k' v es))).next = h.next := by
            intro es2 c2 hbr hrun
            refine ⟨_, hrun.trans (run_setObj hw), hh.turn hn hes rfl (fun b hb => ?_) ?_ hbr, rfl⟩
            · simp [Array.getElem?_setIfInBounds_ne (Ne.symm hb)]
            · simp [hlt]
          rcases findNow_upd (v := v) hdk 0 hc (by simpa using h1) hx with ⟨g1, g2⟩ | ⟨j, e, g1, g2, g3, g4, g5⟩
          · refine fin (es'.push { key := k', val := v', born := clock }) (clock + 1) ?_ ?_
            · rw [g2]
              refine ⟨by simp [h1], fun i p hp => ?_⟩
              by_cases hi : i < es.length
              · rw [List.getElem?_append_left hi] at hp
                obtain ⟨e, he, hr⟩ := h2 i p hp
                exact ⟨e, by rw [Array.getElem?_push, if_neg (by omega)]; exact he, hr⟩
              · have hi' : i = es.length := by
                  have := (List.getElem?_eq_some_iff.1 hp).1
                  simp at this; omega
                subst hi'
                simp at hp
                subst hp
                exact ⟨_, by rw [h1]; simp; rfl, rfl, hv⟩
            · unfold Instr.mapUpdate
              simp only [Sem.run_bind, run_underlying (map_of hT ht), Result.andThen_ok, run_getObj hw, hck]
              have hfk : (Instr.findKey kt k' es'.toList).run P w = .ok none w := by
                simp [Instr.findKey, run_underlying huk, g1]
              rw [hfk]; rfl
          · have hje : es'[j]? = some e := by simpa using g2
            have hkts : (Instr.keyThatStays (((es'[j]?).map (·.key)).getD k') k').run P w = .ok k' w := by
              rw [hje]
              simp [Instr.keyThatStays, g3]
            refine fin (es'.modify j fun e => { e with key := k', val := v' }) clock ?_ ?_
            · refine ⟨by simp [g4, h1], fun i p hp => ?_⟩
              have := g5 i p hp
              split at this
              · rename_i hij
                subst hij
                subst this
                exact ⟨{ e with key := k', val := v' }, by rw [Array.getElem?_modify, if_pos rfl, hje]; rfl, rfl, hv⟩
              · rename_i hij
                obtain ⟨e2, he, hr⟩ := h2 i p this
                exact ⟨e2, by rw [Array.getElem?_modify, if_neg (Ne.symm hij)]; exact he, hr⟩
            · unfold Instr.mapUpdate
              simp only [Sem.run_bind, run_underlying (map_of hT ht), Result.andThen_ok, run_getObj hw, hck]
              have hfk : (Instr.findKey kt k' es'.toList).run P w = .ok (some (j, e.val)) w := by
                simp [Instr.findKey, run_underlying huk, g1]
              rw [hfk]
              simp only [Result.andThen_ok, Sem.run_bind, hkts]
      · cases hs
    · cases hs
  · cases hs
end
end Go.Mir

