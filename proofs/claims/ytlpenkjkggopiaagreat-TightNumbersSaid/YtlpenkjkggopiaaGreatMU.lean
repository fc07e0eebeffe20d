/- The runner's means: what is forced is what it was; trees and wide rows answer what was laid into them. By a session's own hand. -/
import Derived.Test.YtlpenkjkggopiaaGreatMR
set_option linter.unusedSimpArgs false
set_option linter.unusedVariables false
namespace Go.Mir

theorem forceNat_eq {β : Type} (n : Nat) (k : Nat → β) : forceNat n k = k n := by cases n <;> rfl
theorem forceInt_eq {β : Type} (n : Int) (k : Int → β) : forceInt n k = k n := by
  cases n with
  | ofNat m => exact forceNat_eq m fun m => k (.ofNat m)
  | negSucc m => exact forceNat_eq m fun m => k (.negSucc m)
theorem forceList_eq {α β : Type} {f : α → (α → β) → β} (hf : ∀ x k, f x k = k x) (l : List α) : ∀ k : List α → β, forceList f l k = k l := by
  induction l with
  | nil => intro k; rfl
  | cons x l ih => intro k; show f x _ = _; rw [hf]; exact ih _
theorem forceByte_eq {β : Type} (b : UInt8) (k : UInt8 → β) : forceByte b k = k b := by
  unfold forceByte; rw [forceNat_eq]; simp
theorem forceBool_eq {β : Type} (b : Bool) (k : Bool → β) : forceBool b k = k b := by cases b <;> rfl
theorem forceAddr_eq {β : Type} (a : Addr) (k : Addr → β) : forceAddr a k = k a := by
  obtain ⟨b, o, s⟩ := a
  unfold forceAddr; rw [forceNat_eq, forceNat_eq]
  cases s with
  | none => rfl
  | some s => exact forceNat_eq _ _
theorem forceV_eq {β : Type} : ∀ (fuel : Nat) (v : Value) (k : Value → β), forceV fuel v k = k v := by
  intro fuel
  induction fuel with
  | zero => intro v k; rfl
  | succ fuel ih =>
    have key : ∀ (v : Value) (k : Value → β), forceV (fuel + 1) v k = (match v with
      | .bool b => bif b then k (.bool true) else k (.bool false)
      | .int kd n => forceInt n fun n => k (.int kd n)
      | .string s => forceList forceByte s.data.toList fun l => k (.string ⟨⟨l⟩⟩)
      | .pointer none => k (.pointer none)
      | .pointer (some a) => forceAddr a fun a => k (.pointer (some a))
      | .slice none l c => forceNat l fun l => forceNat c fun c => k (.slice none l c)
      | .slice (some a) l c => forceAddr a fun a => forceNat l fun l => forceNat c fun c => k (.slice (some a) l c)
      | .map (some n) => forceNat n fun n => k (.map (some n))
      | .agg cs => forceList (forceV fuel) cs.toList fun l => k (.agg ⟨l⟩)
      | .tuple cs => forceList (forceV fuel) cs.toList fun l => k (.tuple ⟨l⟩)
      | .func f fs cs => forceList (forceV fuel) cs.toList fun l => k (.func f fs ⟨l⟩)
      | v => k v) := fun v k => rfl
    intro v k
    rw [key]
    split
    · rename_i b; cases b <;> rfl
    · rw [forceInt_eq]
    · rename_i s; rw [forceList_eq forceByte_eq]
    · rfl
    · rw [forceAddr_eq]
    · rw [forceNat_eq, forceNat_eq]
    · rw [forceAddr_eq, forceNat_eq, forceNat_eq]
    · rw [forceNat_eq]
    · rw [forceList_eq ih]
    · rw [forceList_eq ih]
    · rw [forceList_eq ih]
    · rfl

/-- a value, laid into a slot -/
def evOf : Value → EV
  | .int .i64 (.ofNat n) => .nat n
  | .bool b => .bool b
  | v => .oth v
theorem evOf_val (v : Value) : (evOf v).val = v := by unfold evOf; split <;> rfl
theorem toEV_eq {β : Type} (v : Value) (k : EV → β) : toEV v k = k (evOf v) := by
  unfold toEV
  split
  · rw [forceNat_eq]; rfl
  · rw [forceBool_eq]; rfl
  · rename_i h1 h2
    rw [forceV_eq]
    have : evOf v = .oth v := by
      unfold evOf
      split
      · exact absurd rfl (h1 _)
      · exact absurd rfl (h2 _)
      · rfl
    rw [this]

/-! ### trees -/
section
variable {α : Type} {d x : α}
def PT.look (d : α) : PT α → Nat → α
  | .leaf, _ => d
  | .node l v r, n => if n = 0 then v else if n % 2 = 1 then l.look d (n / 2) else r.look d (n / 2 - 1)
theorem PT.get_eq (t : PT α) : ∀ n, t.get d n = t.look d n := by
  induction t with
  | leaf => intro n; rfl
  | node l v r ihl ihr =>
    intro n
    show Bool.rec (motive := fun _ => α) (Bool.rec (motive := fun _ => α) (r.get d (n / 2 - 1)) (l.get d (n / 2)) (Nat.beq (n % 2) 1)) v (Nat.beq n 0) = _
    simp only [PT.look]
    cases h0 : Nat.beq n 0 with
    | true => rw [if_pos (Nat.eq_of_beq_eq_true h0)]
    | false =>
      have : n ≠ 0 := fun e => by subst e; cases h0
      rw [if_neg this]
      cases h1 : Nat.beq (n % 2) 1 with
      | true => rw [if_pos (Nat.eq_of_beq_eq_true h1)]; exact ihl _
      | false =>
        have : n % 2 ≠ 1 := fun e => by rw [e] at h1; cases h1
        rw [if_neg this]; exact ihr _

theorem PT.one_spec (n : Nat) : ∀ fuel, n < fuel → ∃ t : PT α, (∀ m, t.look d m = if m = n then x else d) ∧ ∀ {β : Type} (k : PT α → β), PT.one d x fuel n k = k t := by
  induction n using Nat.strongRecOn with
  | _ n ih =>
    intro fuel hf
    cases fuel with
    | zero => omega
    | succ fuel =>
      have unf : ∀ {β : Type} (k : PT α → β), PT.one d x (fuel + 1) n k = Bool.rec (motive := fun _ => β) (Bool.rec (motive := fun _ => β) (PT.one d x fuel (n / 2 - 1) (fun r => k (.node .leaf d r))) (PT.one d x fuel (n / 2) (fun l => k (.node l d .leaf))) (Nat.beq (n % 2) 1)) (k (.node .leaf x .leaf)) (Nat.beq n 0) := fun k => rfl
      by_cases h0 : n = 0
      · subst h0
        refine ⟨.node .leaf x .leaf, fun m => ?_, fun k => rfl⟩
        simp only [PT.look]
        split <;> simp_all
      · have b0 : Nat.beq n 0 = false := by cases h : Nat.beq n 0; rfl; exact absurd (Nat.eq_of_beq_eq_true h) h0
        by_cases h1 : n % 2 = 1
        · obtain ⟨t, ht, hk⟩ := ih (n / 2) (by omega) fuel (by omega)
          refine ⟨.node t d .leaf, fun m => ?_, fun k => ?_⟩
          · simp only [PT.look]
            by_cases m0 : m = 0
            · subst m0; simp [Ne.symm h0]
            · rw [if_neg m0]
              by_cases m1 : m % 2 = 1
              · rw [if_pos m1, ht]
                by_cases e : m = n
                · subst e; simp
                · rw [if_neg (by omega), if_neg e]
              · rw [if_neg m1, if_neg (by intro e; subst e; exact m1 h1)]
          · rw [unf, b0, h1]; exact hk _
        · have b1 : Nat.beq (n % 2) 1 = false := by cases h : Nat.beq (n % 2) 1; rfl; exact absurd (Nat.eq_of_beq_eq_true h) h1
          obtain ⟨t, ht, hk⟩ := ih (n / 2 - 1) (by omega) fuel (by omega)
          refine ⟨.node .leaf d t, fun m => ?_, fun k => ?_⟩
          · simp only [PT.look]
            by_cases m0 : m = 0
            · subst m0; simp [Ne.symm h0]
            · rw [if_neg m0]
              by_cases m1 : m % 2 = 1
              · rw [if_pos m1, if_neg (by intro e; subst e; exact h1 m1)]
              · rw [if_neg m1, ht]
                by_cases e : m = n
                · subst e; simp
                · rw [if_neg (by omega), if_neg e]
          · rw [unf, b0, b1]; exact hk _

theorem PT.setK_spec (t : PT α) : ∀ n, ∃ t' : PT α, (∀ m, t'.look d m = if m = n then x else t.look d m) ∧ ∀ {β : Type} (k : PT α → β), t.setK d n x k = k t' := by
  induction t with
  | leaf =>
    intro n
    obtain ⟨t, ht, hk⟩ := PT.one_spec (d := d) (x := x) n (n + 1) (by omega)
    exact ⟨t, fun m => by rw [ht]; rfl, fun k => hk k⟩
  | node l v r ihl ihr =>
    intro n
    have unf : ∀ {β : Type} (k : PT α → β), (PT.node l v r).setK d n x k = Bool.rec (motive := fun _ => β) (Bool.rec (motive := fun _ => β) (r.setK d (n / 2 - 1) x (fun r' => k (.node l v r'))) (l.setK d (n / 2) x (fun l' => k (.node l' v r))) (Nat.beq (n % 2) 1)) (k (.node l x r)) (Nat.beq n 0) := fun k => rfl
    by_cases h0 : n = 0
    · subst h0
      refine ⟨.node l x r, fun m => ?_, fun k => rfl⟩
      simp only [PT.look]
      split <;> rfl
    · have b0 : Nat.beq n 0 = false := by cases h : Nat.beq n 0; rfl; exact absurd (Nat.eq_of_beq_eq_true h) h0
      by_cases h1 : n % 2 = 1
      · obtain ⟨t, ht, hk⟩ := ihl (n / 2)
        refine ⟨.node t v r, fun m => ?_, fun k => ?_⟩
        · simp only [PT.look]
          by_cases m0 : m = 0
          · subst m0; simp [Ne.symm h0]
          · rw [if_neg m0, if_neg m0]
            by_cases m1 : m % 2 = 1
            · rw [if_pos m1, if_pos m1, ht]
              by_cases e : m = n
              · subst e; simp
              · rw [if_neg (by omega), if_neg e]
            · rw [if_neg m1, if_neg m1, if_neg (by intro e; subst e; exact m1 h1)]
        · rw [unf, b0, h1]; exact hk _
      · have b1 : Nat.beq (n % 2) 1 = false := by cases h : Nat.beq (n % 2) 1; rfl; exact absurd (Nat.eq_of_beq_eq_true h) h1
        obtain ⟨t, ht, hk⟩ := ihr (n / 2 - 1)
        refine ⟨.node l v t, fun m => ?_, fun k => ?_⟩
        · simp only [PT.look]
          by_cases m0 : m = 0
          · subst m0; simp [Ne.symm h0]
          · rw [if_neg m0, if_neg m0]
            by_cases m1 : m % 2 = 1
            · rw [if_pos m1, if_pos m1, if_neg (by intro e; subst e; exact h1 m1)]
            · rw [if_neg m1, if_neg m1, ht]
              by_cases e : m = n
              · subst e; simp
              · rw [if_neg (by omega), if_neg e]
        · rw [unf, b0, b1]; exact hk _
end

/-! ### wide rows -/
section
variable {α β γ : Type}
def R16.sel (n : Nat) : R16 α → α := selK (fun f => f) n
theorem selK_eq (k : (R16 α → α) → β) (n : Nat) : selK k n = k (R16.sel n) := by
  unfold R16.sel selK; split <;> rfl
noncomputable def usel (n : Nat) : (α → (α → β) → β) → R16 α → (R16 α → β) → β := updK (fun f => f) n
theorem updK_eq (k : ((α → (α → β) → β) → R16 α → (R16 α → β) → β) → γ) (n : Nat) : updK k n = k (usel n) := by
  unfold usel updK; split <;> rfl
theorem cases16 {i : Nat} (h : i < 16) : i = 0 ∨ i = 1 ∨ i = 2 ∨ i = 3 ∨ i = 4 ∨ i = 5 ∨ i = 6 ∨ i = 7 ∨ i = 8 ∨ i = 9 ∨ i = 10 ∨ i = 11 ∨ i = 12 ∨ i = 13 ∨ i = 14 ∨ i = 15 := by omega
theorem usel_spec {f : α → (α → β) → β} {g : α → α} (hf : ∀ x q, f x q = q (g x)) (t : R16 α) {i : Nat} (hi : i < 16) :
    ∃ t' : R16 α, (∀ j, j < 16 → t'.sel j = if j = i then g (t.sel i) else t.sel j) ∧ ∀ k : R16 α → β, usel i f t k = k t' := by
  obtain ⟨a0, a1, a2, a3, a4, a5, a6, a7, a8, a9, a10, a11, a12, a13, a14, a15⟩ := t
  rcases cases16 hi with rfl | rfl | rfl | rfl | rfl | rfl | rfl | rfl | rfl | rfl | rfl | rfl | rfl | rfl | rfl | rfl <;> refine ⟨_, ?_, fun k => hf _ _⟩ <;> intro j hj <;> rcases cases16 hj with rfl | rfl | rfl | rfl | rfl | rfl | rfl | rfl | rfl | rfl | rfl | rfl | rfl | rfl | rfl | rfl <;> rfl
end

theorem getE_eq (n : Nat) (e : ET) : getE n e = (e.sel (n / 16)).sel (n % 16) := by
  unfold getE; rw [selK_eq, selK_eq]; rfl

/-- a setter does what it is to do -/
def Sets (d : Option Nat) (set : Setter) : Prop := ∀ (v : EV) (e : ET), ∃ e', envOf e' = putO (envOf e) d v.val ∧ ∀ k, set v e k = k e'

theorem setK_sets {γ : Type} {d : Option Nat} (hd : ∀ t, d = some t → t < 256) : ∃ set, Sets d set ∧ ∀ k : Setter → γ, setK d k = k set := by
  cases d with
  | none => exact ⟨fun _ e k => k e, fun v e => ⟨e, rfl, fun k => rfl⟩, fun k => rfl⟩
  | some t =>
    have ht := hd t rfl
    refine ⟨fun v e k => usel (β := Option RR) (t / 16) (usel (β := Option RR) (t % 16) fun _ q => q v) e k, fun v e => ?_, fun k => ?_⟩
    · have inner : ∀ r : R16 EV, ∃ r' : R16 EV, (∀ j, j < 16 → r'.sel j = if j = t % 16 then v else r.sel j) ∧ ∀ k : R16 EV → Option RR, usel (t % 16) (fun _ q => q v) r k = k r' :=
        fun r => usel_spec (f := fun _ q => q v) (g := fun _ => v) (fun _ _ => rfl) r (by omega)
      obtain ⟨e', h1, h2⟩ := usel_spec (β := Option RR) (f := usel (t % 16) fun _ q => q v) (g := fun r => Classical.choose (inner r)) (fun r q => (Classical.choose_spec (inner r)).2 q) e (i := t / 16) (by omega)
      refine ⟨e', ?_, h2⟩
      funext n
      show _ = put (envOf e) t v.val n
      by_cases hn : n < 256
      · have hb : Nat.blt n 256 = true := Nat.ble_eq_true_of_le hn
        by_cases he : n = t
        · subst he
          rw [put_same]
          unfold envOf
          rw [hb, cond_true, getE_eq, h1 _ (by omega), if_pos rfl, (Classical.choose_spec (inner _)).1 _ (by omega), if_pos rfl]
        · rw [put_ne _ _ he]
          unfold envOf
          rw [hb, cond_true, cond_true, getE_eq, getE_eq, h1 _ (by omega)]
          by_cases hq : n / 16 = t / 16
          · rw [if_pos hq, (Classical.choose_spec (inner _)).1 _ (by omega), if_neg (by omega), hq]
          · rw [if_neg hq]
      · have hb : Nat.blt n 256 = false := by
          cases h : Nat.blt n 256
          · rfl
          · have := Nat.le_of_ble_eq_true h; omega
        have he : n ≠ t := by omega
        rw [put_ne _ _ he]
        unfold envOf
        rw [hb, cond_false, cond_false]
    · unfold setK
      simp only [updK_eq]
      rfl

theorem heapOf_set {m m' : MT} {nx n : Nat} {b : RB} {k : Blk} (hb : b.opt = some k) (h : ∀ i, m'.look .non i = if i = n then b else m.look .non i) : heapOf m' nx = (heapOf m nx).set n k := by
  unfold heapOf Heap.set
  congr 1
  funext i
  rw [PT.get_eq, h]
  by_cases e : i = n
  · subst e; simp [hb]
  · simp [e, PT.get_eq]
end Go.Mir

