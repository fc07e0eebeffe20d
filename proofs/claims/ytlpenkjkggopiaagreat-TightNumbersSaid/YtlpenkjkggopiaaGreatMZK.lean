/- What is known of calls that hang on their operands alone. By a session's own hand. -/
import Derived.Test.YtlpenkjkggopiaaGreatMZ
set_option linter.unusedSimpArgs false
set_option linter.unusedVariables false
namespace Go.Mir

/-- a call, and what it answers -/
structure KE where
  g : Nat
  args : List EV
  v : EV

def KE.holds (P : Program) (p : KE) : Prop := ∀ h, ACallX P p.g (p.args.map EV.val).toArray h fun u h' => u = p.v.val ∧ h' = h

noncomputable def sameEVs (l : List EV) : List EV → Bool :=
  List.rec (motive := fun _ => List EV → Bool) (fun r => List.rec (motive := fun _ => Bool) true (fun _ _ _ => false) r)
    (fun x _ ih r => List.rec (motive := fun _ => Bool) false (fun y r _ => Bool.rec (motive := fun _ => Bool) false (ih r) (sameEV x y)) r) l

theorem sameEVs_eq : ∀ {l r : List EV}, sameEVs l r = true → l.map EV.val = r.map EV.val
  | [], [], _ => rfl
  | [], y :: r, h => by cases h
  | x :: l, [], h => by cases h
  | x :: l, y :: r, h => by
    change Bool.rec (motive := fun _ => Bool) false (sameEVs l r) (sameEV x y) = true at h
    cases hb : sameEV x y with
    | false => rw [hb] at h; cases h
    | true =>
      rw [hb] at h
      simp only [List.map_cons]
      rw [sameEV_eq hb, sameEVs_eq h]

/-- what is known, by function -/
abbrev KT := PT (List KE)
noncomputable def findKE (args : List EV) (l : List KE) : Option EV :=
  List.rec (motive := fun _ => Option EV) none (fun p _ ih => Bool.rec (motive := fun _ => Option EV) ih (some p.v) (sameEVs p.args args)) l
noncomputable def knT (t : KT) (kn : Caller) : Caller := fun q args m nx => Ent.rec (motive := fun _ => Option (EV × MT × Nat))
  (fun g => Option.rec (motive := fun _ => Option (EV × MT × Nat)) (kn q args m nx) (fun v => some (v, m, nx)) (findKE args (t.get [] g))) (fun _ => kn q args m nx) (fun _ => kn q args m nx) q

/-- laid into the table -/
noncomputable def ktOf (l : List KE) : KT := List.rec (motive := fun _ => KT) .leaf (fun p _ ih => ih.setK (β := KT) [] p.g (p :: ih.get [] p.g) fun t => t) l

theorem findKE_some {args : List EV} {v : EV} : ∀ {l : List KE}, findKE args l = some v → ∃ p ∈ l, p.v = v ∧ p.args.map EV.val = args.map EV.val
  | [], h => by cases h
  | p :: l, h => by
    change Bool.rec (motive := fun _ => Option EV) (findKE args l) (some p.v) (sameEVs p.args args) = some v at h
    cases hb : sameEVs p.args args with
    | true => rw [hb] at h; cases h; exact ⟨p, by simp, rfl, sameEVs_eq hb⟩
    | false =>
      rw [hb] at h
      obtain ⟨q, h1, h2⟩ := findKE_some (l := l) h
      exact ⟨q, List.mem_cons_of_mem _ h1, h2⟩

theorem ktOf_mem : ∀ {l : List KE} {g : Nat} {p : KE}, p ∈ (ktOf l).look [] g → p.g = g ∧ p ∈ l
  | [], g, p, h => by
    have : (ktOf []).look [] g = [] := rfl
    rw [this] at h; cases h
  | q :: l, g, p, h => by
    obtain ⟨t', h1, h2⟩ := PT.setK_spec (d := ([] : List KE)) (x := q :: (ktOf l).get [] q.g) (ktOf l) q.g
    have e : ktOf (q :: l) = t' := h2 (β := KT) fun t => t
    rw [e, h1] at h
    split at h
    · rename_i hg
      subst hg
      rcases List.mem_cons.1 h with rfl | h
      · exact ⟨rfl, by simp⟩
      · rw [PT.get_eq] at h
        obtain ⟨h3, h4⟩ := ktOf_mem h
        exact ⟨h3, List.mem_cons_of_mem _ h4⟩
    · obtain ⟨h3, h4⟩ := ktOf_mem h
      exact ⟨h3, List.mem_cons_of_mem _ h4⟩

section
variable {P : Program}
theorem knT_sound {kn : Caller} (hkn : Sound P kn) {l : List KE} (hl : ∀ p ∈ l, p.holds P) : Sound P (knT (ktOf l) kn) := by
  intro q args m nx v m' nx' h
  cases q with
  | yld n => exact hkn _ _ _ _ _ _ _ h
  | it g => exact hkn _ _ _ _ _ _ _ h
  | fn g =>
    change Option.rec (motive := fun _ => Option (EV × MT × Nat)) (kn (.fn g) args m nx) (fun v => some (v, m, nx)) (findKE args ((ktOf l).get [] g)) = some (v, m', nx') at h
    cases hf : findKE args ((ktOf l).get [] g) with
    | none => rw [hf] at h; exact hkn _ _ _ _ _ _ _ h
    | some u =>
      rw [hf] at h
      cases h
      rw [PT.get_eq] at hf
      obtain ⟨p, h1, h2, h3⟩ := findKE_some hf
      obtain ⟨h4, h5⟩ := ktOf_mem h1
      have := hl p h5 (heapOf m nx)
      rw [h4, h3, h2] at this
      exact this

/-- is a call's answer the one that is told? it is run where there is no memory -/
noncomputable def checkE (call : Caller) (p : KE) : Bool := p.args.all closedEV && Option.rec (motive := fun _ => Bool) false (fun r => sameEV r.1 p.v && closed r.1.val) (call (.fn p.g) p.args .leaf 0)

theorem checkE_ok {call : Caller} (hcall : Sound P call) {p : KE} (h : checkE call p = true) : p.holds P := by
  unfold checkE at h
  simp only [Bool.and_eq_true] at h
  obtain ⟨h1, h2⟩ := h
  cases hq : call (.fn p.g) p.args .leaf 0 with
  | none => rw [hq] at h2; cases h2
  | some r =>
    rw [hq] at h2
    have h2 : (sameEV r.1 p.v && closed r.1.val) = true := h2
    simp only [Bool.and_eq_true] at h2
    have hs : SoundAt P (.fn p.g) _ _ _ _ := hcall (.fn p.g) p.args .leaf 0 r.1 r.2.1 r.2.2 hq
    have hcla : closed (.tuple (p.args.map EV.val).toArray) = true := by
      show ((p.args.map EV.val).toArray).all _ = true
      rw [Array.all_eq_true]
      intro i hi
      rw [List.all_eq_true] at h1
      simp only [List.getElem_toArray, List.getElem_map]
      have := h1 (p.args[i]'(by simpa using hi)) (List.getElem_mem _)
      cases hx : p.args[i]'(by simpa using hi) with
      | nat n => rfl
      | bool b => rfl
      | oth x => rw [hx] at this; exact this
    unfold KE.holds
    rw [← sameEV_eq h2.1]
    exact apure_of_empty hcla h2.2 ⟨_, hs⟩

noncomputable def checkEs (call : Caller) (l : List KE) : Bool := List.rec (motive := fun _ => Bool) true (fun p _ ih => Bool.rec (motive := fun _ => Bool) false ih (checkE call p)) l
theorem checkEs_ok {call : Caller} (hcall : Sound P call) : ∀ {l : List KE}, checkEs call l = true → ∀ p ∈ l, p.holds P
  | [], _, p, hp => by cases hp
  | q :: l, h, p, hp => by
    change Bool.rec (motive := fun _ => Bool) false (checkEs call l) (checkE call q) = true at h
    cases hb : checkE call q with
    | false => rw [hb] at h; cases h
    | true =>
      rw [hb] at h
      rcases List.mem_cons.1 hp with rfl | hp
      · exact checkE_ok hcall hb
      · exact checkEs_ok hcall h p hp
end
end Go.Mir

