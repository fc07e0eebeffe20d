/- What the runner does with code, told of abstract states. By a session's own hand. -/
import Derived.Test.YtlpenkjkggopiaaGreatMV
set_option linter.unusedSimpArgs false
set_option linter.unusedVariables false
namespace Go.Mir

def RX.exit' : RX → Exit
  | .normal => .normal
  | .exit i => .exit i
  | .ret => .ret

/-- where a run comes to -/
def At (r : RR) (x : Exit) (ρ : Env) (h : Heap) : Prop := x = r.x.exit' ∧ ρ = envOf r.e ∧ h = heapOf r.m r.nx
def Runs (P : Program) (N : Nat) (c : Code) (f : Run) : Prop := ∀ e m nx r, f e m nx = some r → AWP P N c (At r) (envOf e) (heapOf m nx)

section
variable {P : Program} {tab : Tab} {N : Nat} {call : Caller}

theorem sOps_cons {c : CI} {l : List CI} {e : ET} {m : MT} {nx : Nat} : sOps tab call (c :: l) e m nx = sCI tab call c e m nx (sOps tab call l) := rfl

theorem ops_run {ops : Array Oper} {comp : Oper → CI} (l : List Oper) (hl : ∀ o ∈ l, Steps P tab N ops o (sCI tab call (comp o))) :
    ∀ e m nx r, sOps tab call (l.map comp) e m nx = some r → AOps P tab N ops (At r .normal) l (envOf e) (heapOf m nx) := by
  induction l with
  | nil => intro e m nx r h; cases h; exact ⟨rfl, rfl, rfl⟩
  | cons o l ih =>
    intro e m nx r h
    rw [List.map_cons, sOps_cons] at h
    obtain ⟨h1, b, h2, h3, h4⟩ := hl o (by simp) e m nx _ r h
    refine ⟨h1, b, h2, fun q => ?_, fun q => ?_⟩
    · obtain ⟨v, e', m', nx', g1, g2, g3⟩ := h3 q
      refine g1.step ?_
      rw [← g2]
      exact ih (fun o ho => hl o (by simp [ho])) _ _ _ _ g3
    · obtain ⟨e', g1, g2⟩ := h4 q
      rw [← g1]
      exact ih (fun o ho => hl o (by simp [ho])) _ _ _ _ g2

theorem rcase_some {x : Option RR} {k : RR → Option RR} {r : RR} (h : rcase x k = some r) : ∃ v, x = some v ∧ k v = some r := by
  cases x with
  | none => cases h
  | some v => exact ⟨v, rfl, h⟩

theorem runs_seq {a b : Code} {f g : Run} (ha : Runs P N a f) (hb : Runs P N b g) : Runs P N (.seq a b) (rSeq f g) := by
  intro e m nx r h
  obtain ⟨v, h1, h2⟩ := rcase_some h
  refine awp_seq ((ha e m nx v h1).mono ?_)
  rintro x ρ hp ⟨e1, e2, e3⟩
  unfold rxSeq at h2
  cases hx : v.x with
  | normal => rw [hx] at h2 e1; subst e1 e2 e3; exact hb _ _ _ _ h2
  | exit i => rw [hx] at h2 e1; cases h2; subst e1 e2 e3; exact ⟨by rw [hx], rfl, rfl⟩
  | ret => rw [hx] at h2 e1; cases h2; subst e1 e2 e3; exact ⟨by rw [hx], rfl, rfl⟩

theorem runs_cond {c : Operand} {a b : Code} {f g : Run} (ha : Runs P N a f) (hb : Runs P N b g) : Runs P N (.cond c a b) (rCond (compO c) f g) := by
  intro e m nx r h
  obtain ⟨v, h1, h2⟩ := compO_reads c _ _ _ h
  cases v with
  | nat n => cases h1
  | oth v => cases h1
  | bool t =>
    refine awp_cond (h2 (.bool t) rfl) (fun q => ?_) (fun q => ?_)
    · subst q; exact ha _ _ _ _ h1
    · subst q; exact hb _ _ _ _ h1

theorem runs_block {i : Nat} {a : Code} {f : Run} (ha : Runs P N a f) : Runs P N (.block i a) (rBlock i f) := by
  intro e m nx r h
  obtain ⟨v, h1, h2⟩ := rcase_some h
  refine awp_block ((ha e m nx v h1).mono ?_)
  rintro x ρ hp ⟨e1, e2, e3⟩
  cases hx : v.x with
  | normal => rw [hx] at h2 e1; cases h2; subst e1 e2 e3; exact ⟨by rw [hx], rfl, rfl⟩
  | ret => rw [hx] at h2 e1; cases h2; subst e1 e2 e3; exact ⟨by rw [hx], rfl, rfl⟩
  | exit j =>
    rw [hx] at h2 e1
    subst e1 e2 e3
    change (bif Nat.beq j i then some (⟨.normal, v.e, v.m, v.nx⟩ : RR) else some v) = some r at h2
    show InBlock i (At r) (.exit j) _ _
    simp only [InBlock]
    cases hb : Nat.beq j i with
    | true => rw [hb, cond_true] at h2; cases h2; rw [if_pos (Nat.eq_of_beq_eq_true hb)]; exact ⟨rfl, rfl, rfl⟩
    | false =>
      rw [hb, cond_false] at h2; cases h2
      rw [if_neg (fun q => by subst q; rw [Nat.beq_refl] at hb; cases hb)]
      exact ⟨by rw [hx]; rfl, rfl, rfl⟩

theorem runs_loop {a : Code} {f : Run} (ha : Runs P N a f) : Runs P N (.loop a) (rLoop f) := by
  intro e m nx r h
  let F : Nat → Run := fun n => Nat.rec (motive := fun _ => Run) (fun _ _ _ => none) (fun _ ih e m nx => rcase (f e m nx) (rxSeq ih)) n
  refine awp_loop (fun n ρ hp => ∃ e m nx, ρ = envOf e ∧ hp = heapOf m nx ∧ F n e m nx = some r) 1000000 ⟨e, m, nx, rfl, rfl, h⟩ ?_
  rintro n ρ hp ⟨e, m, nx, rfl, rfl, hr⟩
  cases n with
  | zero => cases hr
  | succ n =>
    change rcase (f e m nx) (rxSeq (F n)) = some r at hr
    obtain ⟨v, h1, h2⟩ := rcase_some hr
    refine (ha e m nx v h1).mono ?_
    rintro x ρ hp ⟨e1, e2, e3⟩
    unfold rxSeq at h2
    cases hx : v.x with
    | normal => rw [hx] at h2 e1; subst e1 e2 e3; exact ⟨n, Nat.lt_succ_self n, _, _, _, rfl, rfl, h2⟩
    | exit i => rw [hx] at h2 e1; cases h2; subst e1 e2 e3; exact ⟨by rw [hx], rfl, rfl⟩
    | ret => rw [hx] at h2 e1; cases h2; subst e1 e2 e3; exact ⟨by rw [hx], rfl, rfl⟩
end
end Go.Mir

