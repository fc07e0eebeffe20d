/- Open regions in the runner do what the regions do. By a session's own hand. -/
import Derived.Test.YtlpenkjkggopiaaGreatMX
set_option linter.unusedSimpArgs false
set_option linter.unusedVariables false
namespace Go.Mir

/-! ### the same row -/
theorem sameAddr_eq {a b : Addr} (h : sameAddr' a b = true) : a = b := by
  obtain ⟨x, y, s⟩ := a
  obtain ⟨x', y', s'⟩ := b
  simp only [sameAddr', Bool.and_eq_true] at h
  obtain ⟨⟨h1, h2⟩, h3⟩ := h
  have e1 := Nat.eq_of_beq_eq_true h1
  have e2 := Nat.eq_of_beq_eq_true h2
  cases s <;> cases s' <;> first | (cases h3; done) | skip
  · subst e1 e2; rfl
  · have e3 := Nat.eq_of_beq_eq_true h3
    subst e1 e2 e3; rfl

theorem zip_all_eq {f : Value → Value → Bool} (hf : ∀ a b, f a b = true → a = b) : ∀ {l l' : List Value}, l.length = l'.length → ((l.zip l').all fun p => f p.1 p.2) = true → l = l'
  | [], [], _, _ => rfl
  | x :: l, y :: l', hl, h => by
    simp only [List.zip_cons_cons, List.all_cons, Bool.and_eq_true] at h
    rw [hf _ _ h.1, zip_all_eq hf (by simpa using hl) h.2]
  | [], _ :: _, hl, _ => by simp at hl
  | _ :: _, [], hl, _ => by simp at hl

theorem sameVal_eq : ∀ (n : Nat) (a b : Value), sameVal n a b = true → a = b := by
  intro n
  induction n with
  | zero =>
    intro a b h
    unfold sameVal at h
    split at h <;> first | rfl | (cases h; done) | skip
    · simp at h; rw [h]
    · simp only [Bool.and_eq_true, beq_iff_eq] at h; rw [sameKind_eq h.1, h.2]
    · rename_i a b
      have : a.data = b.data := by apply Array.ext'; simpa using h
      cases a; cases b; simp at this; rw [this]
    · rw [sameAddr_eq h]
    · simp only [Bool.and_eq_true] at h; rw [Nat.eq_of_beq_eq_true h.1, Nat.eq_of_beq_eq_true h.2]
    · simp only [Bool.and_eq_true] at h; rw [sameAddr_eq h.1.1, Nat.eq_of_beq_eq_true h.1.2, Nat.eq_of_beq_eq_true h.2]
    · rw [Nat.eq_of_beq_eq_true h]
    · rename_i he; cases he
    · rename_i he; cases he
    · rename_i he; cases he
  | succ n ih =>
    intro a b h
    unfold sameVal at h
    split at h <;> first | rfl | (cases h; done) | skip
    · simp at h; rw [h]
    · simp only [Bool.and_eq_true, beq_iff_eq] at h; rw [sameKind_eq h.1, h.2]
    · rename_i a b
      have : a.data = b.data := by apply Array.ext'; simpa using h
      cases a; cases b; simp at this; rw [this]
    · rw [sameAddr_eq h]
    · simp only [Bool.and_eq_true] at h; rw [Nat.eq_of_beq_eq_true h.1, Nat.eq_of_beq_eq_true h.2]
    · simp only [Bool.and_eq_true] at h; rw [sameAddr_eq h.1.1, Nat.eq_of_beq_eq_true h.1.2, Nat.eq_of_beq_eq_true h.2]
    · rw [Nat.eq_of_beq_eq_true h]
    · rename_i he
      cases he
      simp only [Bool.and_eq_true] at h
      rw [zip_all_eq (ih) (Nat.eq_of_beq_eq_true h.1) h.2]
    · rename_i he
      cases he
      simp only [Bool.and_eq_true] at h
      rw [zip_all_eq (ih) (Nat.eq_of_beq_eq_true h.1) h.2]
    · rename_i he
      cases he
      simp only [Bool.and_eq_true] at h
      rw [Nat.eq_of_beq_eq_true h.1.1, zip_all_eq (ih) (Nat.eq_of_beq_eq_true h.1.2) h.2]

theorem sameEV_eq {a b : EV} (h : sameEV a b = true) : a.val = b.val := by
  unfold sameEV at h
  split at h <;> first | (cases h; done) | skip
  · rw [Nat.eq_of_beq_eq_true h]
  · simp at h; rw [h]
  · show _ = _; exact sameVal_eq _ _ _ h

theorem sameCells_eq {d d' : EV} {t t' : PT EV} : ∀ (n : Nat), sameCells d t d' t' n = true → ∀ i, i < n → (t.get d i).val = (t'.get d' i).val
  | 0, _, i, hi => by omega
  | n + 1, h, i, hi => by
    change Bool.rec (motive := fun _ => Bool) false (sameCells d t d' t' n) (sameEV (t.get d n) (t'.get d' n)) = true at h
    cases hs : sameEV (t.get d n) (t'.get d' n) with
    | false => rw [hs] at h; cases h
    | true =>
      rw [hs] at h
      by_cases e : i = n
      · subst e; exact sameEV_eq hs
      · exact sameCells_eq n h i (by omega)

theorem sameRB_eq {a b : RB} (h : sameRB a b = true) : a.opt = b.opt := by
  unfold sameRB at h
  split at h <;> first | rfl | (cases h; done) | skip
  · simp only [Bool.and_eq_true, beq_iff_eq] at h
    obtain ⟨⟨⟨⟨h1, h2⟩, rfl⟩, rfl⟩, h5⟩ := h
    rw [← Nat.eq_of_beq_eq_true h1, ← Nat.eq_of_beq_eq_true h2]
    simp only [RB.opt, Option.some.injEq, Blk.cells.injEq, and_true]
    apply List.map_congr_left
    intro i hi
    exact sameCells_eq _ h5 i (List.mem_range.1 hi)
  · rename_i l l'
    simp only [Bool.and_eq_true] at h
    have hl := Nat.eq_of_beq_eq_true h.1
    have h2 := h.2
    simp only [RB.opt, Option.some.injEq, Blk.amap.injEq]
    clear h
    induction l generalizing l' with
    | nil => cases l' with
      | nil => rfl
      | cons _ _ => simp at hl
    | cons p l ih => cases l' with
      | nil => simp at hl
      | cons p' l' =>
        simp only [List.zip_cons_cons, List.all_cons, Bool.and_eq_true] at h2
        have e1 := sameVal_eq _ _ _ h2.1.1
        have e2 := sameVal_eq _ _ _ h2.1.2
        rw [ih l' (by simpa using hl) h2.2]
        congr 1
        exact Prod.ext e1 e2

theorem keptK_some {ind : List Nat} {m m' : MT} {x : Option RR} {r : RR} : ∀ {pd : List (Nat × Nat)}, keptK ind m m' pd x = some r →
    (∀ p ∈ pd, p.1 ∈ ind → (m.get .non p.2).opt = (m'.get .non p.2).opt) ∧ x = some r
  | [], h => ⟨fun p hp => (by cases hp), h⟩
  | p :: pd, h => by
    change chk (ind.any (Nat.beq p.1)) (chk (sameRB (m.get .non p.2) (m'.get .non p.2)) (keptK ind m m' pd x) none) (keptK ind m m' pd x) = some r at h
    cases hb : ind.any (Nat.beq p.1) with
    | true =>
      rw [hb] at h
      change chk (sameRB (m.get .non p.2) (m'.get .non p.2)) (keptK ind m m' pd x) none = some r at h
      cases hs : sameRB (m.get .non p.2) (m'.get .non p.2) with
      | false => rw [hs] at h; cases h
      | true =>
        rw [hs] at h
        obtain ⟨h1, h2⟩ := keptK_some (pd := pd) h
        refine ⟨fun q hq hi => ?_, h2⟩
        rcases List.mem_cons.1 hq with rfl | hq
        · exact sameRB_eq hs
        · exact h1 q hq hi
    | false =>
      rw [hb] at h
      obtain ⟨h1, h2⟩ := keptK_some (pd := pd) h
      refine ⟨fun q hq hi => ?_, h2⟩
      rcases List.mem_cons.1 hq with rfl | hq
      · exfalso
        rw [List.any_eq_false] at hb
        exact hb q.1 hi (Nat.beq_refl _)
      · exact h1 q hq hi

theorem closed_force {v : Value} (h : closed v = true) : force v = some v := by
  cases v <;> first | rfl | (simp [closed, Value.closed1] at h; done)

theorem compO_exact {x : Operand} {e : ET} {k : EV → Option RR} {r : RR} (h : (compO x).ev e k = some r) : ∃ v : EV, k v = some r ∧ ev (envOf e) x = force v.val := by
  cases x with
  | tmp t =>
    simp only [compO] at h
    cases hb : Nat.blt t 256 with
    | true =>
      rw [hb, cond_true, selK_eq, selK_eq] at h
      refine ⟨getE t e, ?_, ?_⟩
      · rw [getE_eq]; exact h
      · simp only [ev, envOf, hb, cond_true]
    | false => rw [hb, cond_false] at h; cases h
  | const v =>
    simp only [compO] at h
    cases hc : closed v with
    | true =>
      rw [hc, cond_true, toEV_eq] at h
      refine ⟨evOf v, h, ?_⟩
      rw [evOf_val, closed_force hc]
      simp only [ev, hc, cond_true]
    | false => rw [hc, cond_false] at h; cases h
  | global g => cases h
  | func f => exact ⟨_, h, rfl⟩

section
variable {P : Program} {tab : Tab} {N : Nat} {call : Caller} {ops : Array Oper}

theorem rowE_some {o : Oper} {e : ET} {k : Option Nat → Option RR} {r : RR} (h : rowE tab (compRW o) e k = some r) : ∃ n, k n = some r ∧ ∀ q f, ard tab (envOf e) o = some (q, f) → n = some q := by
  have gen : rowE tab (.gen o) e k = some r → ∃ n, k n = some r ∧ ∀ q f, ard tab (envOf e) o = some (q, f) → n = some q := fun h =>
    ⟨_, h, fun q f hq => by rw [hq]; rfl⟩
  unfold compRW at h
  split at h
  · rename_i t x ho
    change (compO x).ev e _ = some r at h
    obtain ⟨v, h1, h2⟩ := compO_exact h
    have look : ∀ q f, ard tab (envOf e) o = some (q, f) → ∃ off, force v.val = some (.pointer (some ⟨q, off, none⟩)) := by
      intro q f hq
      simp only [ard, ho] at hq
      split at hq
      · rename_i hx; cases hq; exact ⟨_, h2 ▸ hx⟩
      · cases hq
    cases v with
    | nat n => exact ⟨_, h1, fun q f hq => by obtain ⟨off, hv⟩ := look q f hq; cases hv⟩
    | bool b => exact ⟨_, h1, fun q f hq => by obtain ⟨off, hv⟩ := look q f hq; cases hv⟩
    | oth v =>
      dsimp only at h1
      split at h1
      · rename_i a
        refine ⟨_, h1, fun q f hq => ?_⟩
        obtain ⟨off, hv⟩ := look q f hq
        cases hv; rfl
      · rename_i hne
        refine ⟨_, h1, fun q f hq => ?_⟩
        obtain ⟨off, hv⟩ := look q f hq
        have := force_eq hv
        exact absurd this.symm (hne _)
  · exact gen h

def PdOK (pd : List (Nat × Nat)) (rds : List Nat) (pend : Pend) : Prop := (∀ p ∈ pd, p.1 ∈ rds) ∧ ∀ q ∈ pend, ∃ n k, q.2 = single n k ∧ (q.1, n) ∈ pd
theorem PdOK.more {pd : List (Nat × Nat)} {rds : List Nat} {pend : Pend} (h : PdOK pd rds pend) (i : Nat) : PdOK pd (i :: rds) pend := ⟨fun p hp => List.mem_cons_of_mem _ (h.1 p hp), h.2⟩
theorem PdOK.extra {pd : List (Nat × Nat)} {rds : List Nat} {pend : Pend} (h : PdOK pd rds pend) (i n : Nat) : PdOK ((i, n) :: pd) (i :: rds) pend :=
  ⟨fun p hp => by
    rcases List.mem_cons.1 hp with rfl | hp
    · simp
    · exact List.mem_cons_of_mem _ (h.1 p hp), fun q hq => by
    obtain ⟨n, k, h1, h2⟩ := h.2 q hq
    exact ⟨n, k, h1, List.mem_cons_of_mem _ h2⟩⟩

theorem kept_check {pd : List (Nat × Nat)} {rds ind : List Nat} {pend : Pend} (hpd : PdOK pd rds pend) {i : Nat} (hind : ∀ j ∈ rds, dep ops j i = false → j ∈ ind) {m m' : MT} {nx nx' : Nat}
    (hk : ∀ p ∈ pd, p.1 ∈ ind → (m.get .non p.2).opt = (m'.get .non p.2).opt) : Kept ops pend i (heapOf m nx) (heapOf m' nx') := by
  intro p hp hd hle n k hF
  obtain ⟨n', k', h1, h2⟩ := hpd.2 p hp
  have h0 := hle n k hF
  rw [h1] at hF
  obtain ⟨rfl, rfl⟩ := hF
  have := hk (p.1, n) h2 (hind _ (hpd.1 _ h2) hd)
  simp only [heapOf] at h0 ⊢
  rw [← this]; exact h0

theorem draw_run (hcall : Sound P call) (happ : AppendOK P tab) : ∀ (l : List (Nat × Bool)) (rds : List Nat) (pd : List (Nat × Nat)) (pend : Pend) (e : ET) (m : MT) (nx : Nat) (r : RR), PdOK pd rds pend →
    sDraw tab call (compD tab N ops l rds) pd e m nx = some r → AOrd P tab N ops (At r .normal) pend l (envOf e) (heapOf m nx) := by
  intro l
  induction l with
  | nil => intro rds pd pend e m nx r _ h; cases h; unfold AOrd; exact ⟨rfl, rfl, rfl⟩
  | cons x l ih =>
    obtain ⟨i, t⟩ := x
    intro rds pd pend e m nx r hpd h
    cases t with
    | true =>
      unfold AOrd
      simp only [compD] at h
      cases ho : ops[i]? with
      | none => rw [ho] at h; cases h
      | some o =>
        rw [ho] at h
        simp only
        dsimp only at h
        cases hk : opKind tab o with
        | val =>
          rw [hk] at h
          change sCI tab call (compG tab N ops o) e m nx (sDraw tab call (compD tab N ops l rds) pd) = some r at h
          obtain ⟨h1, b, h2, h3, h4⟩ := compG_steps (ops := ops) (N := N) hcall happ e m nx _ r h
          refine ⟨h1, b, h2, fun q => .inl ?_, fun q => ?_⟩
          · obtain ⟨v, e', m', nx', g1, g2, g3⟩ := h3 q
            obtain ⟨g4, g5⟩ := val_did hk g1
            refine ⟨v, .val g4, ?_⟩
            rw [← g2, ← g5]
            exact ih _ _ _ _ _ _ _ hpd g3
          · obtain ⟨e', g2, g3⟩ := h4 q
            rw [← g2]
            exact ih _ _ _ _ _ _ _ hpd g3
        | rd =>
          rw [hk] at h
          change rowE tab (compRW o) e (fun n => sCI tab call (compG tab N ops o) e m nx (Option.rec (motive := fun _ => Kont) (sDraw tab call (compD tab N ops l (i :: rds)) pd) (fun n => sDraw tab call (compD tab N ops l (i :: rds)) ((i, n) :: pd)) n)) = some r at h
          obtain ⟨n?, h, hrow⟩ := rowE_some h
          obtain ⟨h1, b, h2, h3, h4⟩ := compG_steps (ops := ops) (N := N) hcall happ e m nx _ r h
          have go : ∀ e' m' nx', (Option.rec (motive := fun _ => Kont) (sDraw tab call (compD tab N ops l (i :: rds)) pd) (fun n => sDraw tab call (compD tab N ops l (i :: rds)) ((i, n) :: pd)) n? : Kont) e' m' nx' = some r →
              AOrd P tab N ops (At r .normal) pend l (envOf e') (heapOf m' nx') := by
            intro e' m' nx' g
            cases n? with
            | none => exact ih _ _ _ _ _ _ _ (hpd.more i) g
            | some n => exact ih _ _ _ _ _ _ _ (hpd.extra i n) g
          refine ⟨h1, b, h2, fun q => ?_, fun q => ?_⟩
          · obtain ⟨v, e', m', nx', g1, g2, g3⟩ := h3 q
            obtain ⟨g5, g4⟩ := rd_did hk g1
            rcases g4 with g4 | ⟨n, f, k, g4, g6, g7⟩
            · refine .inl ⟨v, .val g4, ?_⟩
              rw [← g2, ← g5]; exact go _ _ _ g3
            · have hn := hrow n f g4
              subst hn
              refine .inr ⟨v, single n k, .rd g4 ⟨rfl, rfl⟩ g7, fun _ _ ⟨e1, e2⟩ => by subst e1 e2; exact g6, ?_⟩
              rw [← g2, ← g5]
              refine ih _ _ _ _ _ _ _ ?_ g3
              refine ⟨(hpd.extra i n).1, fun q hq => ?_⟩
              rcases List.mem_cons.1 hq with rfl | hq
              · exact ⟨n, k, rfl, by simp⟩
              · exact (hpd.extra i n).2 q hq
          · obtain ⟨e', g2, g3⟩ := h4 q
            rw [← g2]
            exact go _ _ _ g3
        | call =>
          rw [hk] at h
          change sCI tab call (compP N ops o) e m nx (sDraw tab call (compD tab N ops l rds) pd) = some r at h
          obtain ⟨h1, b, h2, h3, h4⟩ := compP_steps (tab := tab) (ops := ops) (N := N) hcall e m nx _ r h
          refine ⟨h1, b, h2, fun q => .inl ?_, fun q => ?_⟩
          · obtain ⟨v, e', m', nx', ⟨g5, f, args, g4, g6⟩, g2, g3⟩ := h3 q
            refine ⟨v, .call g4 g6, ?_⟩
            rw [← g2, ← g5]
            exact ih _ _ _ _ _ _ _ hpd g3
          · obtain ⟨e', g2, g3⟩ := h4 q
            rw [← g2]
            exact ih _ _ _ _ _ _ _ hpd g3
        | alloc => rw [hk] at h; cases h
        | other => rw [hk] at h; cases h
    | false =>
      unfold AOrd AStep
      simp only [compD] at h
      cases ho : ops[i]? with
      | none => rw [ho] at h; cases h
      | some o =>
        rw [ho] at h
        simp only
        dsimp only at h
        have plain : (∀ j ∈ rds, dep ops j i = true) → sCI tab call (compG tab N ops o) e m nx (sDraw tab call (compD tab N ops l rds) pd) = some r → okDst N o.dst = true ∧ ∃ b, wantedA ops o (envOf e) = some b ∧
            (b = true → WStep P tab o (envOf e) (heapOf m nx) fun v h' => Kept ops pend i (heapOf m nx) h' ∧ AOrd P tab N ops (At r .normal) pend l (putO (envOf e) o.dst v) h') ∧
            (b = false → AOrd P tab N ops (At r .normal) pend l (putO (envOf e) o.dst undef) (heapOf m nx)) := by
          intro hall h
          obtain ⟨h1, b, h2, h3, h4⟩ := compG_steps (ops := ops) (N := N) hcall happ e m nx _ r h
          refine ⟨h1, b, h2, fun q => ?_, fun q => ?_⟩
          · obtain ⟨v, e', m', nx', g1, g2, g3⟩ := h3 q
            refine g1.step ⟨fun p hp hd => ?_, ?_⟩
            · obtain ⟨n', k', q1, q2⟩ := hpd.2 p hp
              rw [hall _ (hpd.1 _ q2)] at hd; cases hd
            · rw [← g2]; exact ih _ _ _ _ _ _ _ hpd g3
          · obtain ⟨e', g2, g3⟩ := h4 q
            rw [← g2]
            exact ih _ _ _ _ _ _ _ hpd g3
        have rest2 : sDraw tab call (match rds.filter fun j => !dep ops j i with
            | [] => .step (compG tab N ops o) :: compD tab N ops l rds
            | ind => .keep (compG tab N ops o) ind :: compD tab N ops l rds) pd e m nx = some r → okDst N o.dst = true ∧ ∃ b, wantedA ops o (envOf e) = some b ∧
            (b = true → WStep P tab o (envOf e) (heapOf m nx) fun v h' => Kept ops pend i (heapOf m nx) h' ∧ AOrd P tab N ops (At r .normal) pend l (putO (envOf e) o.dst v) h') ∧
            (b = false → AOrd P tab N ops (At r .normal) pend l (putO (envOf e) o.dst undef) (heapOf m nx)) := by
          intro h
          generalize hind : rds.filter (fun j => !dep ops j i) = ind at h
          cases ind with
          | nil =>
            refine plain (fun j hj => ?_) h
            have := List.filter_eq_nil_iff.1 hind j hj
            simpa using this
          | cons a0 ind0 =>
            change sCI tab call (compG tab N ops o) e m nx (fun e' m' nx' => keptK (a0 :: ind0) m m' pd (sDraw tab call (compD tab N ops l rds) pd e' m' nx')) = some r at h
            obtain ⟨h1, b, h2, h3, h4⟩ := compG_steps (ops := ops) (N := N) hcall happ e m nx _ r h
            have hsub : ∀ j ∈ rds, dep ops j i = false → j ∈ a0 :: ind0 := fun j hj hd => by
              rw [← hind]; exact List.mem_filter.2 ⟨hj, by simp [hd]⟩
            refine ⟨h1, b, h2, fun q => ?_, fun q => ?_⟩
            · obtain ⟨v, e', m', nx', g1, g2, g3⟩ := h3 q
              obtain ⟨g4, g5⟩ := keptK_some g3
              refine g1.step ⟨kept_check hpd hsub g4, ?_⟩
              rw [← g2]; exact ih _ _ _ _ _ _ _ hpd g5
            · obtain ⟨e', g2, g3⟩ := h4 q
              obtain ⟨g4, g5⟩ := keptK_some g3
              rw [← g2]
              exact ih _ _ _ _ _ _ _ hpd g5
        cases hk : opKind tab o with
        | alloc =>
          rw [hk] at h
          change sCI tab call (compG tab N ops o) e m nx (sDraw tab call (compD tab N ops l rds) pd) = some r at h
          obtain ⟨h1, b, h2, h3, h4⟩ := compG_steps (ops := ops) (N := N) hcall happ e m nx _ r h
          refine ⟨h1, b, h2, fun q => ?_, fun q => ?_⟩
          · obtain ⟨v, e', m', nx', g1, g2, g3⟩ := h3 q
            have g4 := ih _ _ _ _ _ _ _ hpd g3
            rw [g2] at g4
            have keep0 : Kept ops pend i (heapOf m nx) (heapOf m nx) := fun _ _ _ e => e
            have kinds := fun ρ h h' v => alloc_did (P := P) (ρ := ρ) (h := h) (h' := h') (v := v) hk
            generalize heapOf m' nx' = hp' at g1 g4
            cases g1 with
            | val hv => exact .pop (.val hv) ⟨keep0, g4⟩
            | rd hr hn hv => exact .pop (.rd hr hn hv) ⟨keep0, g4⟩
            | alloc ha hm => subst hm; exact .alloc ha fun hfr => ⟨kept_alloc hfr, g4⟩
            | eff ha =>
              refine .eff ha fun hfr => ⟨fun p hp hd hle n k hF => ?_, g4⟩
              exact kinds _ _ _ _ (.eff ha) (fun n k hn hq => by rw [hfr n hq] at hn; cases hn) n k (hle n k hF)
            | call ha hc =>
              exfalso
              unfold acallee at ha
              split at ha <;> rename_i hoo <;> first | (cases ha; done) | skip
              simp only [opKind, hoo] at hk
              split at ha
              · rename_i hc _; rw [hc] at hk; cases hk
              · cases ha
            | yield ha hc =>
              exfalso
              unfold ayield at ha
              split at ha <;> rename_i hoo <;> first | (cases ha; done) | skip
              simp only [opKind, hoo] at hk
              split at ha
              · rename_i hc _; rw [hc] at hk; cases hk
              · cases ha
          · obtain ⟨e', g2, g3⟩ := h4 q
            rw [← g2]
            exact ih _ _ _ _ _ _ _ hpd g3
        | val => rw [hk] at h; exact rest2 h
        | rd => rw [hk] at h; exact rest2 h
        | call => rw [hk] at h; exact rest2 h
        | other => rw [hk] at h; exact rest2 h
end
end Go.Mir

