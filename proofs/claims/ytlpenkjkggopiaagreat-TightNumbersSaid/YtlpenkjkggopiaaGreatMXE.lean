/- Open regions and loops over a function in the runner. By a session's own hand. -/
import Derived.Test.YtlpenkjkggopiaaGreatMXD
set_option linter.unusedSimpArgs false
set_option linter.unusedVariables false
namespace Go.Mir

theorem ready_true {ops : Array Oper} {listed : Array Bool} {i : Nat} (h : i ∈ Region.ready .any ops listed) : i < ops.size ∧ listed.getD i true = false := by
  obtain ⟨h1, o, h2, _⟩ := mem_ready.1 h
  exact ⟨(Array.getElem?_eq_some_iff.1 h2).1, h1⟩

/-- where an order is good, something is ready as long as not all is done -/
theorem good_more {ops : Array Oper} {listed : Array Bool} (hs : listed.size = ops.size) {j0 : Nat} (hj0 : j0 < ops.size) (h0 : listed.getD j0 false = false) :
    ∀ (l : List (Nat × Bool)) (L : Array Bool), goodOrder ops l L = true → L.size = ops.size → cnt L = l.length → (∀ j, L.getD j false = true → listed.getD j false = true) → Region.ready .any ops listed ≠ []
  | [], L, _, hL, hc, hsub => by
    have := hsub j0 (cnt_zero hc (by omega))
    rw [h0] at this; cases this
  | (i, t) :: l, L, hg, hL, hc, hsub => by
    have key : i ∈ Region.ready .any ops L ∧ goodOrder ops l (L.setIfInBounds i true) = true := by
      cases t with
      | true =>
        simp only [goodOrder, Bool.and_eq_true] at hg
        exact ⟨by simpa using hg.1.2, hg.2⟩
      | false =>
        simp only [goodOrder, Bool.and_eq_true, beq_iff_eq] at hg
        exact ⟨by rw [hg.1]; simp, hg.2⟩
    obtain ⟨h1, h2⟩ := key
    obtain ⟨h3, h4⟩ := ready_true h1
    cases hb : listed.getD i false with
    | false =>
      have : i ∈ Region.ready .any ops listed := by
        obtain ⟨_, o, h5, h6⟩ := mem_ready.1 h1
        exact mem_ready.2 ⟨(unlisted (by omega)).2 hb, o, h5, fun e he hbd => hsub _ (h6 e he hbd)⟩
      intro e
      rw [e] at this; cases this
    | true =>
      refine good_more hs hj0 h0 l _ h2 (by simpa using hL) ?_ fun j hj => ?_
      · have := cnt_set h4
        simp only [List.length_cons] at hc
        omega
      · by_cases e : i = j
        · subst e; exact hb
        · rw [getD_set_ne false e] at hj; exact hsub j hj

section
variable {P : Program} {tab : Tab} {N : Nat} {call : Caller} {ops : Array Oper}

theorem const_ev {x : Operand} (h : constOp x = true) (ρ ρ' : Env) : ev ρ x = ev ρ' x := by
  cases x <;> first | rfl | cases h

theorem lateRest_ok {i0 d : Nat} {o0 : Oper} (h0 : ops[i0]? = some o0) (hg : o0.guard = none) (hd : o0.dst = some d) (h : lateCheck.lateRest N ops i0 o0 d = true) {l : List (Nat × Bool)}
    (hl : (l.length == (lateOps ops i0).size && goodOrder (lateOps ops i0) l (Array.replicate (lateOps ops i0).size false)) = true) : okDst N (some d) = true ∧ LateOK ops i0 o0 d := by
  unfold lateCheck.lateRest at h
  simp only [Bool.and_eq_true] at h
  obtain ⟨⟨h1, h2⟩, h3⟩ := h
  have hlt := (Array.getElem?_eq_some_iff.1 h0).1
  refine ⟨h1, h0, hg, hd, fun k ok hk ⟨e, he, hb, hon⟩ j hj => ?_, fun j hj oj hoj => ?_, fun listed hs hun => ?_⟩
  · rw [List.all_eq_true] at h2
    have := h2 k (List.mem_range.2 (Array.getElem?_eq_some_iff.1 hk).1)
    rw [hk] at this
    simp only [Bool.or_eq_true, Bool.not_eq_true'] at this
    rcases this with this | this
    · rw [List.any_eq_false] at this
      exfalso
      refine this e (by simpa using he) ?_
      rw [hb, hon, Nat.beq_refl]; rfl
    · rw [List.all_eq_true] at this
      exact this j hj
  · rw [List.all_eq_true] at h3
    have := h3 j hj
    rw [hoj] at this
    exact this
  · simp only [Bool.and_eq_true, beq_iff_eq] at hl
    have hsz := late_size (ops := ops) h0
    refine good_more (ops := lateOps ops i0) (by rw [hsz]; exact hs) (j0 := i0) (by rw [hsz]; exact hlt) hun l _ hl.2 (by simp) ?_ fun j hj => ?_
    · simp [cnt, hl.1]
    · exfalso
      rw [Array.getD_eq_getD_getElem?, Array.getElem?_replicate] at hj
      split at hj <;> cases hj

theorem runs_draw (hg : Good P tab) (hcall : Sound P call) (happ : AppendOK P tab) {id : Nat} {dd : DOrd} :
    drawOK tab N ops dd = true → Runs P N (.region id ops true) (rCC tab call (match dd with
      | .plain l => .draw (compD tab N ops l [])
      | .late i l => .draw (compD tab N (lateOps ops i) l []))) := by
  intro hdd
  have pd0 : PdOK [] [] [] := ⟨fun p hp => (by cases hp), fun q hq => (by cases hq)⟩
  intro e m nx r h
  cases dd with
  | plain l =>
    exact awp_region_draw hg l hdd (draw_run hcall happ l [] [] [] e m nx r pd0 h)
  | late i0 l =>
    have hord := draw_run (ops := lateOps ops i0) hcall happ l [] [] [] e m nx r pd0 h
    simp only [drawOK, Bool.and_eq_true] at hdd
    obtain ⟨h1, h2⟩ := hdd
    unfold lateCheck at h1
    split at h1
    · cases h1
    · rename_i o0 h0
      split at h1
      · rename_i d t hgd hdst hop
        simp only [Bool.and_eq_true] at h1
        obtain ⟨h4, h5⟩ := h1
        obtain ⟨h6, h7⟩ := lateRest_ok h0 hgd hdst h4 (by simp only [Bool.and_eq_true]; exact h2)
        cases ha : aalloc tab (fun _ => undef) o0 with
        | none => rw [ha] at h5; cases h5
        | some p =>
          obtain ⟨mk, blk⟩ := p
          refine awp_region_late hg h7 h6 (mk := mk) (blk := blk) (fun ρ => ?_) (fun ρ => ⟨by simp only [aval, hop], by simp only [ard, hop], by simp only [acallee, hop], by simp only [ayield, hop], fun n h => by simp only [aeff, hop]⟩) (fun n => ?_) l (by simp only [Bool.and_eq_true]; exact h2) hord
          · rw [← ha]; simp only [aalloc, hop]
          · simp only [aalloc, hop] at ha
            split at ha
            · cases ha; rfl
            · cases ha
      · rename_i d t ll cc hgd hdst hop
        simp only [Bool.and_eq_true] at h1
        obtain ⟨⟨⟨c1, c2⟩, h4⟩, h5⟩ := h1
        obtain ⟨h6, h7⟩ := lateRest_ok h0 hgd hdst h4 (by simp only [Bool.and_eq_true]; exact h2)
        cases ha : aalloc tab (fun _ => undef) o0 with
        | none => rw [ha] at h5; cases h5
        | some p =>
          obtain ⟨mk, blk⟩ := p
          refine awp_region_late hg h7 h6 (mk := mk) (blk := blk) (fun ρ => ?_) (fun ρ => ⟨by simp only [aval, hop], by simp only [ard, hop], by simp only [acallee, hop], by simp only [ayield, hop], fun n h => by simp only [aeff, hop]⟩) (fun n => ?_) l (by simp only [Bool.and_eq_true]; exact h2) hord
          · rw [← ha]; simp only [aalloc, hop, const_ev c1 ρ (fun _ => undef), const_ev c2 ρ (fun _ => undef)]
          · simp only [aalloc, hop] at ha
            split at ha
            · split at ha
              · split at ha
                · cases ha; rfl
                · cases ha
              · cases ha
            · cases ha
      · cases h1

/-! ### loops over a function -/
theorem runs_range (hcall : Sound P call) {f : Operand} {ps : Array Tmp} {a b : Code} {g : Nat} : Runs P N (.rangeFunc f ps a b) (rRange call (compO f) N ps a b g) := by
  intro e m nx r h
  obtain ⟨v, h1, h2⟩ := compO_exact h
  cases v with
  | nat n => cases h1
  | bool b => cases h1
  | oth fv =>
    change funcOf fv _ = some r at h1
    rcases funcOf_some h1 with ⟨q, cs, rfl, q1⟩ | ⟨n, rfl, q1⟩
    · have hf : ev (envOf e) f = some (.func (.func q) #[] cs) := h2
      obtain ⟨cv, h3, h4⟩ := caughtK_some q1
      obtain ⟨m1, h5, h6⟩ := PT.setK_spec (d := RB.non) (x := RB.loop e N ps a b g .normal) m nx
      rw [h6] at h4
      obtain ⟨p, h7, h8⟩ := ocase_some h4
      obtain ⟨hfn, hac⟩ : SoundAt P (.it q) _ _ _ _ := hcall (.it q) _ m1 (Nat.succ nx) p.1 p.2.1 p.2.2 h7
      have e1 : heapOf m1 (Nat.succ nx) = (heapOf m nx).bump.set (heapOf m nx).next (.loop (envOf e) N ps a b .ready none) :=
        heapOf_set (m := m) (nx := nx + 1) (n := nx) (b := RB.loop e N ps a b g .normal) rfl h5
      have e2 : ((EV.oth (.func (.yield nx) #[] #[]) :: cv).map EV.val).toArray = #[.func (.yield (heapOf m nx).next) #[] #[]] ++ cs := by
        apply Array.ext'
        simp only [List.map_cons, h3, Array.toList_append]
        rfl
      rw [e1, e2] at hac
      refine awp_rangeFunc hf hfn (hac.mono ?_)
      rintro u k ⟨rfl, rfl⟩
      change RB.rec (motive := fun _ => Option RR) none none (fun _ _ _ _ _ _ => none) (fun _ => none)
        (fun _ _ _ _ _ _ x => p.2.1.setK .non nx .dead fun m2 => some ⟨x, e, m2, p.2.2⟩) (p.2.1.get .non nx) = some r at h8
      cases hb : p.2.1.get .non nx with
      | non => rw [hb] at h8; cases h8
      | dead => rw [hb] at h8; cases h8
      | amap es => rw [hb] at h8; cases h8
      | cells d t len e opn wr => rw [hb] at h8; cases h8
      | loop e3 N3 ps3 a3 b3 g3 x =>
        rw [hb] at h8
        obtain ⟨m2, h9, h10⟩ := PT.setK_spec (d := RB.non) (x := RB.dead) p.2.1 nx
        change p.2.1.setK .non nx .dead (fun m2 => some ⟨x, e, m2, p.2.2⟩) = some r at h8
        rw [h10] at h8
        cases h8
        have e4 : heapOf m2 p.2.2 = (heapOf p.2.1 p.2.2).set (heapOf m nx).next .dead := heapOf_set (m := p.2.1) (nx := p.2.2) (n := nx) (b := RB.dead) rfl h9
        refine ⟨envOf e3, N3, ps3, a3, b3, x.state, x.pend, ?_, ?_, ?_⟩
        · show (p.2.1.get .non nx).opt = _
          rw [hb]; rfl
        · cases x <;> simp [RX.state]
        · rw [← e4]
          cases x with
          | normal => exact ⟨rfl, rfl, rfl⟩
          | exit i => exact ⟨rfl, rfl, rfl⟩
          | ret => exact ⟨rfl, rfl, rfl⟩
    · cases q1

theorem compC_runs (hg : Good P tab) (hcall : Sound P call) (happ : AppendOK P tab) {ord : Nat → DOrd} {g : Nat} (c : Code) (hd : drawsIn tab ord N c = true) : Runs P N c (rCC tab call (compC tab ord g N c)) := by
  induction c with
  | region id ops d =>
    cases d with
    | true =>
      have hd : drawOK tab N ops (ord id) = true := by simpa [drawsIn] using hd
      exact runs_draw hg hcall happ hd
    | false => exact runs_region hg hcall happ
  | seq a b iha ihb =>
    simp only [drawsIn, Bool.and_eq_true] at hd
    exact runs_seq (iha hd.1) (ihb hd.2)
  | cond x a b iha ihb =>
    simp only [drawsIn, Bool.and_eq_true] at hd
    exact runs_cond (iha hd.1) (ihb hd.2)
  | block i a iha => exact runs_block (iha hd)
  | loop a iha => exact runs_loop (iha hd)
  | scope a iha =>
    intro e m nx r h
    refine awp_scope ((iha hd e m nx r h).mono ?_)
    rintro x ρ hp ⟨rfl, h2⟩
    refine ⟨fun l q => ?_, rfl, h2⟩
    cases hx : r.x <;> rw [hx] at q <;> cases q
  | rangeFunc f ps a b _ _ => exact runs_range hcall
  | skip => intro e m nx r h; cases h; exact awp_skip ⟨rfl, rfl, rfl⟩
  | label l => intro e m nx r h; cases h; exact awp_label ⟨rfl, rfl, rfl⟩
  | exit i => intro e m nx r h; cases h; exact awp_exit ⟨rfl, rfl, rfl⟩
  | ret => intro e m nx r h; cases h; exact awp_ret ⟨rfl, rfl, rfl⟩
  | _ => intro e m nx r h; cases h

theorem putPsK_some (hN : Nat.ble N 256 = true) : ∀ {ps : List Tmp} {vs : List EV} {e : ET} {k : ET → Option RR} {r : RR}, putPsK N ps vs e k = some r →
    vs.length = ps.length ∧ (∀ t ∈ ps, t < N) ∧ ∃ e', envOf e' = putPs (envOf e) ps (vs.map EV.val) ∧ k e' = some r
  | [], [], e, k, r, h => ⟨rfl, fun t ht => (by cases ht), e, rfl, h⟩
  | [], v :: vs, e, k, r, h => by cases h
  | t :: ts, [], e, k, r, h => by cases h
  | t :: ts, v :: vs, e, k, r, h => by
    change chk (Nat.ble (Nat.succ t) N) (setK (some t) fun set => set v e fun e => putPsK N ts vs e k) none = some r at h
    cases hb : Nat.ble (Nat.succ t) N with
    | false => rw [hb] at h; cases h
    | true =>
      rw [hb] at h
      change (setK (some t) fun set => set v e fun e => putPsK N ts vs e k) = some r at h
      have hlt : t < N := Nat.le_of_ble_eq_true hb
      have h256 := Nat.le_of_ble_eq_true hN
      obtain ⟨set, hs, hk⟩ := setK_sets (γ := Option RR) (d := some t) fun q hq => by cases hq; exact Nat.lt_of_lt_of_le hlt h256
      rw [hk] at h
      obtain ⟨e1, h1, h2⟩ := set_some hs h
      obtain ⟨h3, h4, e2, h5, h6⟩ := putPsK_some hN h2
      refine ⟨by simp [h3], fun q hq => ?_, e2, ?_, h6⟩
      · rcases List.mem_cons.1 hq with rfl | hq
        · exact hlt
        · exact h4 q hq
      · rw [h5, h1]; rfl

theorem runY_sound (hg : Good P tab) (hcall : Sound P call) (happ : AppendOK P tab) {ord : Nat → Nat → DOrd} {n : Nat} {args : List EV} {m : MT} {nx : Nat} {v : EV} {m' : MT} {nx' : Nat}
    (h : runY tab call ord n args m nx = some (v, m', nx')) : SoundAt P (.yld n) args (heapOf m nx) v (heapOf m' nx') := by
  unfold runY at h
  cases hb : m.get .non n with
  | non => rw [hb] at h; cases h
  | dead => rw [hb] at h; cases h
  | amap es => rw [hb] at h; cases h
  | cells d t len e opn wr => rw [hb] at h; cases h
  | loop e N ps a b g x =>
    rw [hb] at h
    dsimp only at h
    cases x with
    | exit i => cases h
    | ret => cases h
    | normal =>
      dsimp only at h
      cases hN : Nat.ble N 256 with
      | false => rw [hN] at h; cases h
      | true =>
      cases hda : drawsIn tab (ord g) N a with
      | false => rw [hN, hda] at h; cases h
      | true =>
      cases hdb : drawsIn tab (ord g) N b with
      | false => rw [hN, hda, hdb] at h; cases h
      | true =>
      rw [hN, hda, hdb] at h
      simp only [Bool.and_self, cond_true] at h
      generalize hq : putPsK N ps.toList args e _ = q at h
      cases q with
      | none => cases h
      | some r0 =>
        dsimp only at h
        obtain ⟨h1, h2, e1, h3, h4⟩ := putPsK_some hN hq
        obtain ⟨m1, h5, h6⟩ := PT.setK_spec (d := RB.non) (x := RB.dead) m n
        rw [h6] at h4
        obtain ⟨r1, h7, h8⟩ := rcase_some h4
        have hget : (heapOf m nx).get n = some (.loop (envOf e) N ps a b .ready none) := by
          simp only [heapOf, hb]; rfl
        have ed : heapOf m1 nx = (heapOf m nx).set n .dead := heapOf_set (m := m) (nx := nx) (n := n) (b := RB.dead) rfl h5
        refine ⟨envOf e, N, ps, a, b, hget, by simpa using h1, ?_, ?_⟩
        · rw [Array.all_eq_true]
          intro i hi
          have := h2 ps[i] (by simp)
          simpa using this
        · have := compC_runs hg hcall happ (g := g) a hda e1 m1 nx r1 h7
          rw [h3, ed] at this
          refine this.mono ?_
          rintro ex ρ1 hp1 ⟨rfl, rfl, rfl⟩
          cases hx : r1.x with
          | exit i => rw [hx] at h8; cases h8
          | ret => rw [hx] at h8; cases h8
          | normal =>
            rw [hx] at h8
            refine ⟨rfl, ?_⟩
            obtain ⟨r2, h9, h10⟩ := rcase_some h8
            refine (compC_runs hg hcall happ (g := g) b hdb r1.e r1.m r1.nx r2 h9).mono ?_
            rintro ex ρ2 hp2 ⟨rfl, rfl, rfl⟩
            cases hb2 : r2.m.get .non n with
            | non => rw [hb2] at h10; cases h10
            | amap es => rw [hb2] at h10; cases h10
            | cells d t len e opn wr => rw [hb2] at h10; cases h10
            | loop e N ps a b g x => rw [hb2] at h10; cases h10
            | dead =>
              rw [hb2] at h10
              dsimp only at h10
              obtain ⟨m3, h11, h12⟩ := PT.setK_spec (d := RB.non) (x := RB.loop e N ps a b g r2.x) r2.m n
              rw [h12] at h10
              cases h10
              have e3 : heapOf m3 r2.nx = (heapOf r2.m r2.nx).set n (.loop (envOf e) N ps a b r2.x.state r2.x.pend) := heapOf_set (m := r2.m) (nx := r2.nx) (n := n) (b := RB.loop e N ps a b g r2.x) rfl h11
              refine ⟨by simp only [heapOf, hb2]; rfl, ?_⟩
              cases hx2 : r2.x with
              | normal =>
                rw [hx2] at h e3
                cases h
                exact ⟨rfl, e3.symm⟩
              | exit i =>
                rw [hx2] at h e3
                cases h
                exact ⟨rfl, e3.symm⟩
              | ret =>
                rw [hx2] at h e3
                cases h
                exact ⟨rfl, e3.symm⟩
end
end Go.Mir

