/- Functions in the runner. By a session's own hand. -/
import Derived.Test.YtlpenkjkggopiaaGreatMXE
set_option linter.unusedSimpArgs false
set_option linter.unusedVariables false
namespace Go.Mir

theorem layAt_sets : ∀ (fuel n : Nat), n + fuel ≤ 256 → ∀ i s, (layAt n fuel)[i]? = some s → Sets (some (n + i)) s := by
  intro fuel
  induction fuel with
  | zero => intro n _ i s h; exact absurd h (by show ([] : List Setter)[i]? ≠ some s; simp)
  | succ fuel ih =>
    intro n hn i s h
    have unf : layAt n (fuel + 1) = setK (some n) fun set => set :: layAt (n + 1) fuel := rfl
    obtain ⟨set, hs, hk⟩ := setK_sets (γ := List Setter) (d := some n) fun t e => by cases e; omega
    rw [unf, hk] at h
    cases i with
    | zero => simp at h; subst h; exact hs
    | succ i =>
      rw [List.getElem?_cons_succ] at h
      have := ih (n + 1) (by omega) i s h
      rw [show n + (i + 1) = n + 1 + i by omega]; exact this

theorem layK_some (l : List EV) : ∀ (n : Nat) (ss : List Setter) (e : ET) (k : ET → Option RR) (r : RR), (∀ i s, ss[i]? = some s → Sets (some (n + i)) s) → layK l ss e k = some r →
    l.length ≤ ss.length ∧ ∃ e', (∀ i, envOf e' i = if i < n then envOf e i else match l[i - n]? with | some v => v.val | none => envOf e i) ∧ k e' = some r := by
  induction l with
  | nil => intro n ss e k r _ h; exact ⟨Nat.zero_le _, e, fun i => by simp, h⟩
  | cons v l ih =>
    intro n ss e k r hss h
    cases ss with
    | nil => cases h
    | cons s ss =>
      change s v e (fun e => layK l ss e k) = some r at h
      obtain ⟨e1, h1, h2⟩ := set_some (hss 0 s rfl) h
      obtain ⟨h0, e2, h3, h4⟩ := ih (n + 1) ss e1 k r (fun i s hi => by
        have := hss (i + 1) s (by simpa using hi)
        rw [show n + (i + 1) = n + 1 + i by omega] at this; exact this) h2
      refine ⟨by simp only [List.length_cons]; omega, e2, fun i => ?_, h4⟩
      rw [h3, h1]
      show (if i < n + 1 then put (envOf e) (n + 0) v.val i else _) = _
      by_cases hi : i < n
      · rw [if_pos (by omega), if_pos hi, put_ne _ _ (by omega)]
      · rw [if_neg hi]
        by_cases he : i = n
        · subst he; rw [if_pos (by omega)]; simp [put_same]
        · obtain ⟨j, rfl⟩ : ∃ j, i = n + 1 + j := ⟨i - n - 1, by omega⟩
          rw [if_neg (by omega), show n + 1 + j - (n + 1) = j by omega, show n + 1 + j - n = j + 1 by omega, List.getElem?_cons_succ]
          cases l[j]? with
          | some u => rfl
          | none => exact put_ne _ _ (by omega)

theorem envOf_e0 (i : Nat) : envOf e0 i = undef := by
  unfold envOf
  cases hb : Nat.blt i 256 with
  | false => rfl
  | true =>
    rw [cond_true, getE_eq]
    have h1 : i / 16 < 16 := by have := Nat.le_of_ble_eq_true hb; omega
    have h2 : i % 16 < 16 := by omega
    unfold e0
    have key : ∀ {α : Type} (x : α) j, (R16.all x).sel j = x := fun x j => by
      unfold R16.sel selK; split <;> rfl
    rw [key, key]; rfl

theorem layAt_length : ∀ (fuel n : Nat), n + fuel ≤ 256 → (layAt n fuel).length = fuel := by
  intro fuel
  induction fuel with
  | zero => intro n _; rfl
  | succ fuel ih =>
    intro n hn
    have unf : layAt n (fuel + 1) = setK (some n) fun set => set :: layAt (n + 1) fuel := rfl
    obtain ⟨set, _, hk⟩ := setK_sets (γ := List Setter) (d := some n) fun t e => by cases e; omega
    rw [unf, hk, List.length_cons, ih _ (by omega)]

theorem lay_env {c : Nat} (hc : c ≤ 40) {l : List EV} {k : ET → Option RR} {r : RR} (h : layK l (layAt 0 c) e0 k = some r) : l.length ≤ c ∧ ∃ e', envOf e' = env0 (l.map EV.val).toArray ∧ k e' = some r := by
  obtain ⟨h0, e', h1, h2⟩ := layK_some l 0 (layAt 0 c) e0 k r (layAt_sets c 0 (by omega)) h
  rw [layAt_length c 0 (by omega)] at h0
  refine ⟨h0, e', ?_, h2⟩
  funext i
  rw [h1, if_neg (by omega), Nat.sub_zero, envOf_e0]
  unfold env0
  simp only [Array.getD_eq_getD_getElem?, List.getElem?_toArray, List.getElem?_map]
  cases l[i]? <;> rfl

section
variable {P : Program} {tab : Tab} {N : Nat} {call : Caller}

theorem compO_tmp {t : Nat} {f : ET → EV} (h : compO (.tmp t) = .tmp f) (e : ET) : (f e).val = envOf e t := by
  simp only [compO] at h
  cases hb : Nat.blt t 256 with
  | false => rw [hb, cond_false] at h; cases h
  | true =>
    rw [hb, cond_true, selK_eq, selK_eq] at h
    cases h
    simp only [envOf, hb, cond_true, getE_eq]
    rfl

theorem res1_some {f : ET → EV} {r : RR} {v : EV} {m' : MT} {nx' : Nat} (h : res1 f r = some (v, m', nx')) : force (f r.e).val = some v.val ∧ m' = r.m ∧ nx' = r.nx := by
  unfold res1 at h
  cases hf : f r.e with
  | nat n => rw [hf] at h; cases h; exact ⟨rfl, rfl, rfl⟩
  | bool b => rw [hf] at h; cases h; exact ⟨rfl, rfl, rfl⟩
  | oth u =>
    rw [hf] at h
    dsimp only at h
    split at h
    · rename_i w hw; cases h; exact ⟨hw, rfl, rfl⟩
    · cases h

theorem resM_some {res : List ResultVar} {r : RR} {v : EV} {m' : MT} {nx' : Nat} (h : resM tab res r = some (v, m', nx')) :
    (match resAll tab (envOf r.e) (heapOf r.m r.nx) res with | some [u] => some u | some us => some (.tuple us.toArray) | none => none) = some v.val ∧ m' = r.m ∧ nx' = r.nx := by
  have hh : ∀ l, resAll tab (envOf r.e) (heapOf r.m 0) l = resAll tab (envOf r.e) (heapOf r.m r.nx) l := by
    intro l
    induction l with
    | nil => rfl
    | cons x l ih => cases x <;> simp only [resAll, ih] <;> rfl
  unfold resM at h
  rw [hh] at h
  split at h
  · cases h
  · rename_i u hu
    rw [toEV_eq] at h; cases h
    rw [hu]; exact ⟨by rw [evOf_val], rfl, rfl⟩
  · rename_i us hne hu
    rw [toEV_eq] at h; cases h
    rw [hu]
    refine ⟨?_, rfl, rfl⟩
    rw [evOf_val]
    split
    · rename_i u e; cases e; exact (hne u rfl).elim
    · rename_i e; cases e; rfl
    · rename_i e; cases e

theorem valK_eq {β : Type} (v : EV) (k : Value → β) : valK v k = k v.val := by cases v <;> rfl

theorem valsK_some : ∀ {l : List ResultVar} {cs : List CO} {e : ET} {h : Heap} {k : List Value → Option RR} {r : RR}, tmpsOf l = some cs → valsK cs e k = some r → ∃ vs, resAll tab (envOf e) h l = some vs ∧ vs.length = l.length ∧ k vs = some r := by
  intro l
  induction l with
  | nil => intro cs e h k r hl hr; cases hl; exact ⟨[], rfl, rfl, hr⟩
  | cons x l ih =>
    intro cs e h k r hl hr
    cases x with
    | cell q t => simp [tmpsOf] at hl
    | tmp t =>
      simp only [tmpsOf] at hl
      split at hl
      · rename_i cs' hcs
        cases hl
        change (compO (.tmp t)).ev e (fun v => movable v fun v => valK v fun v => valsK cs' e fun vs => k (v :: vs)) = some r at hr
        obtain ⟨v, h1, h2⟩ := compO_reads (.tmp t) _ _ _ hr
        obtain ⟨y, h3, h4⟩ := movable_some h1
        rw [valK_eq] at h4
        obtain ⟨vs, h5, h6, h7⟩ := ih (h := h) hcs h4
        have h8 := h2 _ h3
        simp only [ev] at h8
        exact ⟨y.val :: vs, by simp only [resAll, h8, h5], by simp [h6], h7⟩
      · cases hl

noncomputable def oneOf (l : List ResultVar) : Option CO := match l with
  | [.tmp t] => some (compO (.tmp t))
  | _ => none

theorem resK_some {fn : Func} {r : RR} {v : EV} {m' : MT} {nx' : Nat} (h : resK tab (oneOf fn.results.toList) (tmpsOf fn.results.toList) fn.results.toList r = some (v, m', nx')) :
    resA tab fn (envOf r.e) (heapOf r.m r.nx) = some v.val ∧ m' = r.m ∧ nx' = r.nx := by
  unfold resA
  generalize fn.results.toList = l at h
  unfold resK at h
  split at h
  · rename_i f h1
    unfold oneOf at h1
    split at h1
    · rename_i t
      obtain ⟨g1, g2, g3⟩ := res1_some h
      have hq : compO (.tmp t) = .tmp f := Option.some.inj h1
      have := compO_tmp hq r.e
      rw [this] at g1
      exact ⟨by simp only [resAll, g1], g2, g3⟩
    · cases h1
  · rename_i cs h2 hne
    unfold resT at h
    cases hvk : valsK cs r.e fun vs => some ⟨.ret, .all (.all (.oth (.tuple ⟨vs⟩))), r.m, r.nx⟩ with
    | none => rw [hvk] at h; cases h
    | some r2 =>
      rw [hvk] at h
      obtain ⟨vs, h5, h6, h7⟩ := valsK_some (tab := tab) (h := heapOf r.m r.nx) h2 hvk
      cases h7
      cases h
      refine ⟨?_, rfl, rfl⟩
      rw [h5]
      have hlen : vs.length ≠ 1 := by
        intro e1
        rw [e1] at h6
        obtain ⟨x, rfl⟩ := List.length_eq_one_iff.1 h6.symm
        cases x with
        | cell q t => simp [tmpsOf] at h2
        | tmp t =>
          have hc : compO (.tmp t) = .cst none := by
            cases hq : compO (.tmp t) with
            | tmp f => exact (hne f (by simp only [oneOf, hq])).elim
            | cst c =>
              simp only [compO] at hq
              cases hb : Nat.blt t 256 with
              | true => rw [hb, cond_true, selK_eq, selK_eq] at hq; cases hq
              | false => rw [hb, cond_false] at hq; exact hq.symm
          simp only [tmpsOf, hc, Option.some.injEq] at h2
          subst h2
          cases hvk
      split
      · rename_i u e; cases e; exact absurd rfl hlen
      · rename_i e; cases e; rfl
      · rename_i e; cases e
  · exact resM_some h

theorem runCF_some {lay : List Setter} {code : CC} {one : Option CO} {many : Option (List CO)} {res : List ResultVar} {args : List EV} {m : MT} {nx : Nat} {p : EV × MT × Nat} (h : runCF tab call ⟨lay, code, one, many, res⟩ args m nx = some p) :
    ∃ r, layK args lay e0 (fun e => rCC tab call code e m nx) = some r ∧ (r.x = .normal ∨ r.x = .ret) ∧ resK tab one many res r = some p := by
  unfold runCF at h
  dsimp only at h
  cases hl : layK args lay e0 (fun e => rCC tab call code e m nx) with
  | none => rw [hl] at h; cases h
  | some r =>
    rw [hl] at h
    dsimp only at h
    cases hx : r.x with
    | normal => rw [hx] at h; exact ⟨r, rfl, .inl hx, h⟩
    | exit i => rw [hx] at h; cases h
    | ret => rw [hx] at h; exact ⟨r, rfl, .inr hx, h⟩

/-- are the open regions' orders of all functions good? -/
def DrawsOK (P : Program) (tab : Tab) (ord : Nat → Nat → DOrd) : Prop := ∀ (g : Nat) (fn : Func) (c : Code), P.funcs[g]? = some fn → fn.body = some c → drawsIn tab (ord g) fn.ntmps c = true

theorem runCF_sound (hg : Good P tab) (hcall : Sound P call) (happ : AppendOK P tab) {ord : Nat → Nat → DOrd} (hdraw : DrawsOK P tab ord) {g : FuncId} {args : List EV} {m : MT} {nx : Nat} {v : EV} {m' : MT} {nx' : Nat}
    (h : runCF tab call (compF P tab ord g) args m nx = some (v, m', nx')) : SoundAt P (.it g) args (heapOf m nx) v (heapOf m' nx') := by
  have nobad : ∀ lay : List Setter, (∀ i s, lay[i]? = some s → Sets (some (0 + i)) s) → ∀ r, layK args lay e0 (fun e => rCC tab call .bad e m nx) = some r → False := by
    intro lay hl r hr
    obtain ⟨_, e', _, h2⟩ := layK_some args 0 lay e0 _ r hl hr
    cases h2
  have nonil : ∀ i s, ([] : List Setter)[i]? = some s → Sets (some (0 + i)) s := fun i s q => by simp at q
  unfold compF at h
  cases hf : P.funcs[g]? with
  | none => rw [hf] at h; obtain ⟨r, h1, _⟩ := runCF_some h; exact (nobad _ nonil r h1).elim
  | some fn =>
    rw [hf] at h
    dsimp only at h
    cases hb : fn.body with
    | none => rw [hb] at h; obtain ⟨r, h1, _⟩ := runCF_some h; exact (nobad _ nonil r h1).elim
    | some c =>
      rw [hb] at h
      dsimp only at h
      obtain ⟨r, h1, h2, h3⟩ := runCF_some h
      have hc40 : (bif Nat.ble fn.ntmps 40 then fn.ntmps else 40) ≤ 40 ∧ (bif Nat.ble fn.ntmps 40 then fn.ntmps else 40) ≤ fn.ntmps := by
        cases hq : Nat.ble fn.ntmps 40 with
        | true => exact ⟨Nat.le_of_ble_eq_true hq, Nat.le_refl _⟩
        | false =>
          refine ⟨Nat.le_refl _, ?_⟩
          show 40 ≤ fn.ntmps
          refine Nat.le_of_not_le fun q => ?_
          rw [Nat.ble_eq_true_of_le q] at hq; cases hq
      cases hfn : isFn P g with
      | false =>
        rw [hfn] at h1
        exact (nobad _ (layAt_sets _ 0 (by omega)) r h1).elim
      | true =>
        rw [hfn, cond_true] at h1
        obtain ⟨h4, e', h5, h6⟩ := lay_env hc40.1 h1
        obtain ⟨h7, rfl, rfl⟩ := resK_some (fn := fn) h3
        refine ⟨hfn, acall_of_awp hg.tabOK hf hb rfl (Nat.ble_eq_true_of_le (by simp; omega)) fun _ => ?_⟩
        have := compC_runs hg hcall happ (g := g) c (hdraw g fn c hf hb) e' m nx r h6
        rw [h5] at this
        refine this.mono ?_
        rintro x ρ hp ⟨rfl, rfl, rfl⟩
        refine ⟨?_, _, h7, rfl, rfl⟩
        rcases h2 with h2 | h2 <;> rw [h2]
        · exact .inl rfl
        · exact .inr rfl

/-- what the runner answers is true -/
theorem runF_sound (hg : Good P tab) (happ : AppendOK P tab) {kn : Caller} (hkn : Sound P kn) {ord : Nat → Nat → DOrd} (hdraw : DrawsOK P tab ord) :
    ∀ depth, Sound P (runF P tab kn ord depth) := by
  intro depth
  induction depth with
  | zero => intro q args m nx v m' nx' h; cases h
  | succ depth ih =>
    intro q args m nx v m' nx' h
    change Option.rec (motive := fun _ => Option (EV × MT × Nat)) (Ent.rec (motive := fun _ => Option (EV × MT × Nat)) (fun g => runCF tab (runF P tab kn ord depth) (compF P tab ord g) args m nx) (fun n => runY tab (runF P tab kn ord depth) ord n args m nx) (fun g => runCF tab (runF P tab kn ord depth) (compF P tab ord g) args m nx) q) some (kn q args m nx) = some (v, m', nx') at h
    cases hk : kn q args m nx with
    | some p => rw [hk] at h; cases h; exact hkn _ _ _ _ _ _ _ hk
    | none =>
      rw [hk] at h
      cases q with
      | fn g => exact .inl (runCF_sound hg ih happ hdraw h)
      | yld n => exact runY_sound hg ih happ h
      | it g => exact runCF_sound hg ih happ hdraw h
end
end Go.Mir

