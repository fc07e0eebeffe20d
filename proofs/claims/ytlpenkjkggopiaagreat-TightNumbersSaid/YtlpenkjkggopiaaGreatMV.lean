/- What each of the runner's steps does, told of abstract states. By a session's own hand. -/
import Derived.Test.YtlpenkjkggopiaaGreatMU
set_option linter.unusedSimpArgs false
set_option linter.unusedVariables false
namespace Go.Mir

/-- what an operation did -/
inductive Did (P : Program) (tab : Tab) (o : Oper) (ρ : Env) (h : Heap) (v : Value) : Heap → Prop
  | val (hv : aval tab ρ o = some v) : Did P tab o ρ h v h
  | rd {n : Nat} {f : Blk → Option Value} {k : Blk} (hr : ard tab ρ o = some (n, f)) (hk : h.get n = some k) (hv : f k = some v) : Did P tab o ρ h v h
  | alloc {mk : Nat → Value} {blk : Blk} (ha : aalloc tab ρ o = some (mk, blk)) (hm : mk h.next = v) : Did P tab o ρ h v (h.bump.set h.next blk)
  | eff {h' : Heap} (ha : aeff tab ρ h.next o h.bump = some (v, h')) : Did P tab o ρ h v h'
  | call {f : FuncId} {args : Array Value} {h' : Heap} (ha : acallee ρ o = some (f, args)) (hc : ACallX P f args h fun u k => u = v ∧ k = h') : Did P tab o ρ h v h'
  | yield {n : Nat} {args : Array Value} {h' : Heap} (ha : ayield ρ o = some (n, args)) (hc : AYield P n args h fun u k => u = v ∧ k = h') : Did P tab o ρ h v h'

section
variable {P : Program} {tab : Tab} {o : Oper}

theorem Did.step {ρ : Env} {h h' : Heap} {v : Value} {K : Value → Heap → Prop} (hd : Did P tab o ρ h v h') (hk : K v h') : WStep P tab o ρ h K := by
  cases hd with
  | val hv => exact .pop (.val hv) hk
  | rd hr hn hv => exact .pop (.rd hr hn hv) hk
  | alloc ha hm => subst hm; exact .alloc ha fun _ => hk
  | eff ha => exact .eff ha fun _ => hk
  | call ha hc => exact .call ha (hc.mono fun u q ⟨e1, e2⟩ => by subst e1 e2; exact hk)
  | yield ha hc => exact .yield ha (hc.mono fun u q ⟨e1, e2⟩ => by subst e1 e2; exact hk)

/-- a step does what the operation does -/
def DoesR (R : Env → Heap → Value → Heap → Prop) (o : Oper) (c : Step) : Prop := ∀ e m nx k r, c e m nx k = some r →
  ∃ v e' m' nx', R (envOf e) (heapOf m nx) v (heapOf m' nx') ∧ envOf e' = putO (envOf e) o.dst v ∧ k e' m' nx' = some r
abbrev Does (P : Program) (tab : Tab) (o : Oper) (c : Step) : Prop := DoesR (Did P tab o) o c

theorem ocase_some {α : Type} {x : Option α} {k : α → Option RR} {r : RR} (h : ocase x k = some r) : ∃ v, x = some v ∧ k v = some r := by
  cases x with
  | none => cases h
  | some v => exact ⟨v, rfl, h⟩

/-- an operand, made ready -/
def Reads (x : Operand) (c : CO) : Prop := ∀ e k r, c.ev e k = some r → ∃ v : EV, k v = some r ∧ ∀ u, force v.val = some u → ev (envOf e) x = some u

theorem compO_reads (x : Operand) : Reads x (compO x) := by
  intro e k r h
  cases x with
  | tmp t =>
    simp only [compO] at h
    cases hb : Nat.blt t 256 with
    | true =>
      rw [hb, cond_true, selK_eq, selK_eq] at h
      refine ⟨getE t e, ?_, fun u hu => ?_⟩
      · rw [getE_eq]; exact h
      · simp only [ev, envOf, hb, cond_true]; exact hu
    | false => rw [hb, cond_false] at h; cases h
  | const v =>
    simp only [compO] at h
    cases hc : closed v with
    | true =>
      rw [hc, cond_true, toEV_eq] at h
      refine ⟨evOf v, h, fun u hu => ?_⟩
      rw [evOf_val] at hu
      simp only [ev, hc, cond_true, force_eq hu]
    | false => rw [hc, cond_false] at h; cases h
  | global g => cases h
  | func f =>
    refine ⟨_, h, fun u hu => ?_⟩
    rw [force_eq hu]; rfl

theorem see_some {x : EV} {k : Value → Option RR} {r : RR} (h : x.see k = some r) : ∃ u, force x.val = some u ∧ k u = some r := by
  cases x with
  | nat n => exact ⟨_, rfl, h⟩
  | bool b => exact ⟨_, rfl, h⟩
  | oth v => exact ocase_some h
theorem movable_some {x : EV} {k : EV → Option RR} {r : RR} (h : movable x k = some r) : ∃ y : EV, force x.val = some y.val ∧ k y = some r := by
  cases x with
  | nat n => exact ⟨_, rfl, h⟩
  | bool b => exact ⟨_, rfl, h⟩
  | oth v =>
    obtain ⟨u, hu, hk⟩ := ocase_some h
    exact ⟨.oth u, hu, hk⟩
theorem set_some {d : Option Nat} {set : Setter} (hs : Sets d set) {v : EV} {e : ET} {k : ET → Option RR} {r : RR} (h : set v e k = some r) : ∃ e', envOf e' = putO (envOf e) d v.val ∧ k e' = some r := by
  obtain ⟨e', h1, h2⟩ := hs v e
  exact ⟨e', h1, by rw [← h2 k]; exact h⟩
theorem retV_some {d : Option Nat} {set : Setter} (hs : Sets d set) {v : Value} {e : ET} {m : MT} {nx : Nat} {k : Kont} {r : RR} (h : retV set e m nx k v = some r) : ∃ e', envOf e' = putO (envOf e) d v ∧ k e' m nx = some r := by
  unfold retV at h
  rw [toEV_eq] at h
  obtain ⟨e', h1, h2⟩ := set_some hs h
  rw [evOf_val] at h1
  exact ⟨e', h1, h2⟩

variable {set : Setter} (hs : Sets o.dst set)
include hs

theorem does_mov {x : Operand} (ho : o.op = .move x ∨ o.op = .assign x) : Does P tab o (sMov (compO x) set) := by
  intro e m nx k r h
  obtain ⟨v, h1, h2⟩ := compO_reads x _ _ _ h
  obtain ⟨y, h3, h4⟩ := movable_some h1
  obtain ⟨e', h5, h6⟩ := set_some hs h4
  refine ⟨y.val, e', m, nx, .val ?_, h5, h6⟩
  rcases ho with ho | ho <;> simp only [aval, ho] <;> exact h2 _ h3

theorem does_val : Does P tab o (sVal tab o set) := by
  intro e m nx k r h
  obtain ⟨v, h1, h2⟩ := ocase_some h
  obtain ⟨e', h3, h4⟩ := retV_some hs h2
  exact ⟨v, e', m, nx, .val h1, h3, h4⟩

theorem does_op1 {f : Value → Option Value} {x : Operand} (hf : ∀ ρ u v, ev ρ x = some u → f u = some v → aval tab ρ o = some v) : Does P tab o (sOp1 f (compO x) set) := by
  intro e m nx k r h
  obtain ⟨v, h1, h2⟩ := compO_reads x _ _ _ h
  obtain ⟨u, h3, h4⟩ := see_some h1
  obtain ⟨w, h5, h6⟩ := ocase_some h4
  obtain ⟨e', h7, h8⟩ := retV_some hs h6
  exact ⟨w, e', m, nx, .val (hf _ _ _ (h2 _ h3) h5), h7, h8⟩

theorem does_op2 {f : Value → Value → Option Value} {x y : Operand} (hf : ∀ ρ u u' v, ev ρ x = some u → ev ρ y = some u' → f u u' = some v → aval tab ρ o = some v) : Does P tab o (sOp2 f (compO x) (compO y) set) := by
  intro e m nx k r h
  obtain ⟨v, h1, h2⟩ := compO_reads x _ _ _ h
  obtain ⟨u, h3, h4⟩ := see_some h1
  obtain ⟨v', h1', h2'⟩ := compO_reads y _ _ _ h4
  obtain ⟨u', h3', h4'⟩ := see_some h1'
  obtain ⟨w, h5, h6⟩ := ocase_some h4'
  obtain ⟨e', h7, h8⟩ := retV_some hs h6
  exact ⟨w, e', m, nx, .val (hf _ _ _ _ (h2 _ h3) (h2' _ h3') h5), h7, h8⟩

theorem does_pick {c x y : Operand} (ho : o.op = .pick c x y) : Does P tab o (sPick (compO c) (compO x) (compO y) set) := by
  intro e m nx k r h
  obtain ⟨v, h1, h2⟩ := compO_reads c _ _ _ h
  obtain ⟨u, h3, h4⟩ := see_some h1
  obtain ⟨v', h1', h2'⟩ := compO_reads x _ _ _ h4
  obtain ⟨u', h3', h4'⟩ := see_some h1'
  obtain ⟨v'', h1'', h2''⟩ := compO_reads y _ _ _ h4'
  obtain ⟨u'', h3'', h4''⟩ := see_some h1''
  obtain ⟨w, h5, h6⟩ := ocase_some h4''
  obtain ⟨e', h7, h8⟩ := retV_some hs h6
  refine ⟨w, e', m, nx, .val ?_, h7, h8⟩
  simp only [aval, ho, h2 _ h3, h2' _ h3', h2'' _ h3'', h5]

theorem does_rd : Does P tab o (sRd tab o set) := by
  intro e m nx k r h
  unfold sRd at h
  cases h1 : ard tab (envOf e) o with
  | none =>
    rw [h1] at h
    obtain ⟨v, h5, h6⟩ := ocase_some h
    obtain ⟨e', h7, h8⟩ := retV_some hs h6
    exact ⟨v, e', m, nx, .val h5, h7, h8⟩
  | some p =>
    rw [h1] at h
    obtain ⟨b, h3, h4⟩ := ocase_some h
    obtain ⟨v, h5, h6⟩ := ocase_some h4
    obtain ⟨e', h7, h8⟩ := retV_some hs h6
    exact ⟨v, e', m, nx, .rd (n := p.1) (f := p.2) h1 h3 h5, h7, h8⟩

omit hs
/-- what a quick rule for two numbers does -/
def Quick (op : BinOp) (f : NatOp) : Prop := ∀ a b k slow r, f a b k slow = some r → (∃ v : EV, k v = some r ∧ aint op .i64 (.ofNat a) (.ofNat b) = some v.val) ∨ slow () = some r

theorem wrap_i64 {n : Nat} (h : n ≤ 9223372036854775807) : IntKind.i64.wrap (.ofNat n) = .ofNat n := by
  have e : (Int.ofNat n : Int) = (n : Int) := rfl
  rw [e]
  have hb : IntKind.i64.bits = 64 := rfl
  have hsg : IntKind.i64.signed = true := rfl
  unfold IntKind.wrap
  rw [hb, hsg]
  have h1 : (n : Int) % (2 ^ 64 : Int) = n := Int.emod_eq_of_lt (by omega) (by omega)
  simp only [h1]
  have : ¬ ((n : Int) ≥ 2 ^ (64 - 1)) := by omega
  simp [this]
  omega

theorem fit_some {n : Nat} {k : EV → Option RR} {slow : Unit → Option RR} {r : RR} (h : fit n k slow = some r) : (n ≤ 9223372036854775807 ∧ k (.nat n) = some r) ∨ slow () = some r := by
  unfold fit at h
  rw [forceNat_eq] at h
  cases hb : Nat.ble n 9223372036854775807 with
  | true => rw [hb] at h; exact .inl ⟨Nat.le_of_ble_eq_true hb, h⟩
  | false => rw [hb] at h; exact .inr h

theorem kBool_some {b : Bool} {k : EV → Option RR} {r : RR} (h : kBool b k = some r) : k (.bool b) = some r := by cases b <;> exact h

theorem quick_add : Quick .add nAdd := by
  intro a b k slow r h
  rcases fit_some h with ⟨h1, h2⟩ | h1
  · exact .inl ⟨_, h2, by simp only [aint, EV.val]; rw [show (Int.ofNat a + Int.ofNat b) = Int.ofNat (Nat.add a b) from rfl, wrap_i64 h1]⟩
  · exact .inr h1
theorem quick_mul : Quick .mul nMul := by
  intro a b k slow r h
  rcases fit_some h with ⟨h1, h2⟩ | h1
  · exact .inl ⟨_, h2, by simp only [aint, EV.val]; rw [show (Int.ofNat a * Int.ofNat b) = Int.ofNat (Nat.mul a b) from rfl, wrap_i64 h1]⟩
  · exact .inr h1
theorem quick_sub : Quick .sub nSub := by
  intro a b k slow r h
  unfold nSub at h
  cases hb : Nat.ble b a with
  | true =>
    rw [hb] at h
    have hle := Nat.le_of_ble_eq_true hb
    rcases fit_some h with ⟨h1, h2⟩ | h1
    · exact .inl ⟨_, h2, by simp only [aint, EV.val]; rw [show (Int.ofNat a - Int.ofNat b) = Int.ofNat (Nat.sub a b) from (Int.ofNat_sub hle).symm, wrap_i64 h1]⟩
    · exact .inr h1
  | false => rw [hb] at h; exact .inr h
theorem quick_lss : Quick .lss nLss := by
  intro a b k slow r h
  refine .inl ⟨_, kBool_some h, ?_⟩
  simp only [aint, EV.val, Option.some.injEq, Value.bool.injEq]
  rw [Bool.eq_iff_iff]; simp
  omega
theorem quick_leq : Quick .leq nLeq := by
  intro a b k slow r h
  refine .inl ⟨_, kBool_some h, ?_⟩
  simp only [aint, EV.val, Option.some.injEq, Value.bool.injEq]
  rw [Bool.eq_iff_iff]; simp
theorem quick_gtr : Quick .gtr nGtr := by
  intro a b k slow r h
  refine .inl ⟨_, kBool_some h, ?_⟩
  simp only [aint, EV.val, Option.some.injEq, Value.bool.injEq]
  rw [Bool.eq_iff_iff]; simp
  omega
theorem quick_geq : Quick .geq nGeq := by
  intro a b k slow r h
  refine .inl ⟨_, kBool_some h, ?_⟩
  simp only [aint, EV.val, Option.some.injEq, Value.bool.injEq]
  rw [Bool.eq_iff_iff]; simp
theorem beq_int (a b : Nat) : (Int.ofNat a == Int.ofNat b) = Nat.beq a b := by
  rw [Bool.eq_iff_iff, beq_iff_eq]
  constructor
  · intro e; cases e; exact Nat.beq_refl a
  · intro e; rw [Nat.eq_of_beq_eq_true e]
theorem quick_eql : Quick .eql nEql := by
  intro a b k slow r h
  refine .inl ⟨_, kBool_some h, ?_⟩
  simp only [aint, EV.val, beq_int]
theorem quick_neq : Quick .neq nNeq := by
  intro a b k slow r h
  unfold nNeq at h
  have : k (.bool (!(Nat.beq a b))) = some r := by cases hb : Nat.beq a b <;> (rw [hb] at h; exact h)
  refine .inl ⟨_, this, ?_⟩
  simp only [aint, EV.val, bne, beq_int]
theorem quick_none {op : BinOp} : Quick op nNone := fun _ _ _ _ _ h => .inr h

theorem natBin_quick {γ : Type} (op : BinOp) (k : NatOp → γ) : ∃ f, Quick op f ∧ natBin k op = k f := by
  cases op
  case add => exact ⟨_, quick_add, rfl⟩
  case sub => exact ⟨_, quick_sub, rfl⟩
  case mul => exact ⟨_, quick_mul, rfl⟩
  case lss => exact ⟨_, quick_lss, rfl⟩
  case leq => exact ⟨_, quick_leq, rfl⟩
  case gtr => exact ⟨_, quick_gtr, rfl⟩
  case geq => exact ⟨_, quick_geq, rfl⟩
  case eql => exact ⟨_, quick_eql, rfl⟩
  case neq => exact ⟨_, quick_neq, rfl⟩
  all_goals exact ⟨_, quick_none, rfl⟩

theorem does_bin (hs : Sets o.dst set) {op : BinOp} {t : Nat} {x y : Operand} {z : Nat} (ho : o.op = .binOp op t x y z) {f : NatOp} (hf : Quick op f) : Does P tab o (sBin f (abin tab op t) (compO x) (compO y) set) := by
  intro e m nx k r h
  obtain ⟨v, h1, h2⟩ := compO_reads x _ _ _ h
  obtain ⟨w, h3, h4⟩ := compO_reads y _ _ _ h1
  have slow : slowBin (abin tab op t) set v w e m nx k = some r → ∃ v e' m' nx', Did P tab o (envOf e) (heapOf m nx) v (heapOf m' nx') ∧ envOf e' = putO (envOf e) o.dst v ∧ k e' m' nx' = some r := by
    intro q
    obtain ⟨u, h5, h6⟩ := see_some q
    obtain ⟨u', h5', h6'⟩ := see_some h6
    obtain ⟨p, h7, h8⟩ := ocase_some h6'
    obtain ⟨e', h9, h10⟩ := retV_some hs h8
    exact ⟨p, e', m, nx, .val (by simp only [aval, ho, h2 _ h5, h4 _ h5', h7]), h9, h10⟩
  cases v with
  | nat a =>
    cases w with
    | nat b =>
      rcases hf a b _ _ r h3 with ⟨u, h5, h6⟩ | q
      · obtain ⟨e', h7, h8⟩ := set_some hs h5
        refine ⟨u.val, e', m, nx, .val ?_, h7, h8⟩
        simp only [aval, ho, h2 (.int .i64 (.ofNat a)) rfl, h4 (.int .i64 (.ofNat b)) rfl, abin, sameKind, Bool.or_true, cond_true, h6]
      · exact slow q
    | bool b => exact slow h3
    | oth b => exact slow h3
  | bool a => exact slow h3
  | oth a => exact slow h3

/-! ### rows -/
theorem ptrK_some {x : EV} {k : Nat → Nat → Option RR} {r : RR} (h : ptrK x k = some r) : ∃ n q, x.val = .pointer (some ⟨n, q, none⟩) ∧ k n q = some r := by
  cases x with
  | nat n => cases h
  | bool b => cases h
  | oth v =>
    unfold ptrK at h
    dsimp only at h
    split at h
    · exact ⟨_, _, rfl, h⟩
    · cases h

/-- what a tree's row holds -/
noncomputable def listOf (d : EV) (t : PT EV) (n : Nat) : List Value := (List.range n).map fun i => (t.get d i).val
theorem cellsK_some {m : MT} {n : Nat} {k : EV → PT EV → Nat → Nat → Bool → Bool → Option RR} {r : RR} (h : cellsK m n k = some r) :
    ∃ d t len e opn wr, m.get .non n = .cells d t len e opn wr ∧ k d t len e opn wr = some r := by
  unfold cellsK at h
  cases hb : m.get .non n with
  | non => rw [hb] at h; cases h
  | dead => rw [hb] at h; cases h
  | amap es => rw [hb] at h; cases h
  | loop e N ps a b g x => rw [hb] at h; cases h
  | cells d t len e opn wr => rw [hb] at h; exact ⟨_, _, _, _, _, _, rfl, h⟩
theorem get_cells {m : MT} {nx n : Nat} {d : EV} {t : PT EV} {len e : Nat} {opn wr : Bool} (h : m.get .non n = .cells d t len e opn wr) : (heapOf m nx).get n = some (.cells (listOf d t len) e opn wr) := by
  simp only [heapOf, h, RB.opt]; rfl
theorem listOf_length {d : EV} {t : PT EV} {n : Nat} : (listOf d t n).length = n := by simp [listOf]
theorem listOf_get {d : EV} {t : PT EV} {n i : Nat} (h : i < n) : (listOf d t n)[i]? = some (t.get d i).val := by simp [listOf, h]
theorem listOf_cut {d : EV} {t : PT EV} {n o len : Nat} (h : o + n ≤ len) : ((listOf d t len).drop o).take n = (List.range n).map fun i => (t.get d (o + i)).val := by
  apply List.ext_getElem?
  intro i
  by_cases hi : i < n
  · simp [List.getElem?_take, hi, listOf, show o + i < len by omega]
  · simp [List.getElem?_take, hi]

theorem readK_eq {d : EV} {t : PT EV} (n : Nat) : ∀ (o : Nat) (k : List Value → Option RR), readK d t n o k = k ((List.range n).map fun i => (t.get d (o + i)).val) := by
  induction n with
  | zero => intro o k; rfl
  | succ n ih =>
    intro o k
    have e : ((List.range (n + 1)).map fun i => (t.get d (o + i)).val) = (t.get d o).val :: ((List.range n).map fun i => (t.get d (o + 1 + i)).val) := by
      rw [List.range_succ_eq_map]
      simp only [List.map_cons, List.map_map, Nat.add_zero]
      congr 1
      apply List.map_congr_left
      intro i _
      simp only [Function.comp, Nat.succ_eq_add_one]
      rw [show o + (i + 1) = o + 1 + i by omega]
    rw [e]
    show EV.rec (motive := fun _ => Option RR) (fun a => readK d t n (Nat.succ o) fun l => k (.int .i64 (.ofNat a) :: l)) (fun a => readK d t n (Nat.succ o) fun l => k (.bool a :: l)) (fun v => readK d t n (Nat.succ o) fun l => k (v :: l)) (t.get d o) = _
    cases hv : t.get d o <;> exact ih _ _

theorem does_load (hs : Sets o.dst set) {t : Nat} {x : Operand} (ho : o.op = .load t x) {k : TK} (ht : tab t = some k) : Does P tab o (sLoad k.desc.agg k.size (compO x) set) := by
  intro e m nx kk r h
  obtain ⟨v, h1, h2⟩ := compO_reads x _ _ _ h
  obtain ⟨n, q, h3, h4⟩ := ptrK_some h1
  obtain ⟨d, tr, len, el, opn, wr, h5, h6⟩ := cellsK_some h4
  have hx := h2 (.pointer (some ⟨n, q, none⟩)) (by rw [h3]; rfl)
  have hr : ard tab (envOf e) o = some (n, aload tab t q) := by simp only [ard, ho, hx]
  cases hag : k.desc.agg with
  | false =>
    rw [hag] at h6
    change Bool.rec (motive := fun _ => Option RR) none (set (tr.get d q) e fun e => kk e m nx) (Nat.ble (Nat.succ q) len) = some r at h6
    cases hb : Nat.ble (Nat.succ q) len with
    | false => rw [hb] at h6; cases h6
    | true =>
      rw [hb] at h6
      have hlt : q < len := Nat.le_of_ble_eq_true hb
      obtain ⟨e', h7, h8⟩ := set_some hs h6
      exact ⟨_, e', m, nx, .rd hr (get_cells h5) (by simp only [aload, ht, hag]; exact listOf_get hlt), h7, h8⟩
  | true =>
    rw [hag] at h6
    change Bool.rec (motive := fun _ => Option RR) none (readK d tr k.size q fun l => set (.oth (.agg ⟨l⟩)) e fun e => kk e m nx) (Nat.ble (Nat.add q k.size) len) = some r at h6
    cases hb : Nat.ble (Nat.add q k.size) len with
    | false => rw [hb] at h6; cases h6
    | true =>
      rw [hb] at h6
      have hle : q + k.size ≤ len := Nat.le_of_ble_eq_true hb
      rw [readK_eq] at h6
      obtain ⟨e', h7, h8⟩ := set_some hs h6
      refine ⟨_, e', m, nx, .rd hr (get_cells h5) ?_, h7, h8⟩
      simp only [aload, ht, hag, if_true, listOf_length, hle]
      rw [listOf_cut hle]; rfl


theorem fillK_spec {d : EV} (l : List Value) : ∀ (n : Nat) (t : PT EV), ∃ t' : PT EV, (∀ i, t'.look d i = if i < n then t.look d i else match l[i - n]? with
    | some v => evOf v
    | none => t.look d i) ∧ ∀ {β : Type} (k : Nat → PT EV → β), fillK d l n t k = k (n + l.length) t' := by
  induction l with
  | nil => intro n t; exact ⟨t, fun i => by simp, fun k => rfl⟩
  | cons v l ih =>
    intro n t
    obtain ⟨t1, h1, h2⟩ := PT.setK_spec (d := d) (x := evOf v) t n
    obtain ⟨t2, h3, h4⟩ := ih (n + 1) t1
    refine ⟨t2, fun i => ?_, fun k => ?_⟩
    · rw [h3, h1]
      by_cases hi : i < n
      · rw [if_pos (by omega), if_neg (by omega), if_pos hi]
      · rw [if_neg hi]
        by_cases he : i = n
        · subst he; simp
        · obtain ⟨j, rfl⟩ : ∃ j, i = n + 1 + j := ⟨i - n - 1, by omega⟩
          rw [if_neg (by omega), show n + 1 + j - (n + 1) = j by omega, show n + 1 + j - n = j + 1 by omega, List.getElem?_cons_succ, if_neg (by omega)]
    · show toEV v (fun v => t.setK d n v fun t => forceNat (Nat.succ n) fun n => fillK d l n t k) = _
      rw [toEV_eq, h2, forceNat_eq]
      show fillK d l (n + 1) t1 k = _
      rw [h4]
      simp only [List.length_cons]
      congr 1
      omega

theorem rowK_some {b : Blk} {k : RB → Option RR} {r : RR} (h : rowK b k = some r) : ∃ rb : RB, rb.opt = some b ∧ k rb = some r := by
  cases b with
  | loop => cases h
  | dead => exact ⟨.dead, rfl, h⟩
  | amap es =>
    refine ⟨.amap es, rfl, ?_⟩
    unfold rowK at h
    dsimp only at h
    rw [forceList_eq] at h
    · exact h
    · intro p k
      rw [forceV_eq, forceV_eq]
  | cells c e opn wr =>
    obtain ⟨t, h1, h2⟩ := fillK_spec (d := .nat 0) c 0 .leaf
    refine ⟨.cells (.nat 0) t c.length e opn wr, ?_, ?_⟩
    · simp only [RB.opt, Option.some.injEq, Blk.cells.injEq, and_true]
      apply List.ext_getElem?
      intro i
      by_cases hi : i < c.length
      · simp [hi, PT.get_eq, h1, evOf_val]
      · simp [hi]
    · change fillK (.nat 0) c 0 .leaf _ = _ at h
      rw [h2, forceBool_eq, forceBool_eq, Nat.zero_add] at h
      exact h

theorem does_alloc (hs : Sets o.dst set) : Does P tab o (sAlloc tab o set) := by
  intro e m nx k r h
  obtain ⟨p, h1, h2⟩ := ocase_some h
  obtain ⟨rb, h3, h4⟩ := rowK_some h2
  obtain ⟨m', h5, h6⟩ := PT.setK_spec (d := RB.non) (x := rb) m nx
  rw [h6, forceNat_eq] at h4
  obtain ⟨e', h7, h8⟩ := retV_some hs h4
  refine ⟨_, e', m', nx + 1, ?_, h7, h8⟩
  have e1 : heapOf m' (nx + 1) = (heapOf m nx).bump.set (heapOf m nx).next p.2 := heapOf_set (m := m) (nx := nx + 1) (n := nx) h3 h5
  rw [e1]
  exact .alloc (mk := p.1) (blk := p.2) h1 rfl

/-- rows that may be turned, and nothing is taken away -/
structure Touch (S : Nat → Prop) (h h' : Heap) : Prop where
  next : h'.next = h.next
  same : ∀ i, ¬ S i → h'.get i = h.get i
  keep : ∀ i, h'.get i = none → h.get i = none
theorem Touch.refl {S : Nat → Prop} (h : Heap) : Touch S h h := ⟨rfl, fun _ _ => rfl, fun _ e => e⟩
theorem Touch.turn {S : Nat → Prop} {h h' : Heap} (ht : Touch S h h') {n : Nat} {b : Blk} (hn : S n) : Touch S h (h'.set n b) := by
  refine ⟨ht.next, fun i hi => ?_, fun i hi => ?_⟩
  · rw [Heap.set_ne _ _ (fun e => by subst e; exact hi hn)]; exact ht.same i hi
  · by_cases e : i = n
    · subst e; rw [Heap.set_same] at hi; cases hi
    · rw [Heap.set_ne _ _ e] at hi; exact ht.keep i hi

theorem astore_touch {t : Nat} {x v : Value} {h h' : Heap} {S : Nat → Prop} (hs : astore tab t x v h = some h') (hS : ∀ a, x = .pointer (some a) → S a.block) : Touch S h h' := by
  unfold astore at hs
  split at hs
  · split at hs
    · split at hs
      · cases hs; exact (Touch.refl h).turn (hS _ rfl)
      · cases hs
    · cases hs
  · cases hs
theorem amap_touch {t : Nat} {m k v : Value} {h h' : Heap} {S : Nat → Prop} (hs : amapUpdate tab t m k v h = some h') (hS : ∀ a, m = .map (some a) → S a) : Touch S h h' := by
  unfold amapUpdate at hs
  split at hs
  · split at hs
    · split at hs
      · cases hs; exact (Touch.refl h).turn (hS _ rfl)
      · cases hs
    · cases hs
  · cases hs
theorem aappend_touch {ts : Array TypeId} {name : Nat} {s x v : Value} {h h' : Heap} {S : Nat → Prop} (hs : aappend tab ts name s x h = some (v, h')) (hn : S name) (hS : ∀ a l c, s = .slice (some a) l c → S a.block) : Touch S h h' := by
  unfold aappend at hs
  repeat' split at hs
  all_goals first
    | (cases hs; done)
    | (cases hs; exact Touch.refl h)
    | (cases hs; exact (Touch.refl h).turn hn)
    | (cases hs; exact (Touch.refl h).turn (hS _ _ _ rfl))
    | (cases hs; exact ((Touch.refl h).turn (hS _ _ _ rfl)).turn hn)
theorem acopy_touch {ts : Array TypeId} {d x v : Value} {h h' : Heap} {S : Nat → Prop} (hs : acopy tab ts d x h = some (v, h')) (hS : ∀ a l c, d = .slice (some a) l c → S a.block) : Touch S h h' := by
  unfold acopy at hs
  repeat' split at hs
  all_goals first
    | (cases hs; done)
    | (cases hs; exact Touch.refl h)
    | (cases hs; exact (Touch.refl h).turn (hS _ _ _ rfl))
theorem aunsafe_touch {ts : Array TypeId} {p len v : Value} {h h' : Heap} {S : Nat → Prop} (hs : aunsafeStr tab ts p len h = some (v, h')) (hS : ∀ a, p = .pointer (some a) → S a.block) : Touch S h h' := by
  unfold aunsafeStr at hs
  repeat' split at hs
  all_goals first
    | (cases hs; done)
    | (cases hs; exact Touch.refl h)
    | (cases hs; exact (Touch.refl h).turn (hS _ rfl))

theorem aeff_touch {ρ : Env} {name : Nat} {v : Value} {h h' : Heap} (hs : aeff tab ρ name o h = some (v, h')) : Touch (fun i => i = name ∨ goal ρ o = some i) h h' := by
  unfold aeff at hs
  split at hs
  · rename_i t x u ho
    split at hs
    · rename_i x' u' hx hu
      simp only [Option.map_eq_some_iff] at hs
      obtain ⟨q, h1, h2⟩ := hs
      cases h2
      exact astore_touch h1 fun a e => .inr (by simp only [goal, ho, hx, e])
    · cases hs
  · rename_i t m k u ho
    split at hs
    · rename_i m' k' u' hm hk hu
      simp only [Option.map_eq_some_iff] at hs
      obtain ⟨q, h1, h2⟩ := hs
      cases h2
      exact amap_touch h1 fun a e => .inr (by simp only [goal, ho, hm, e])
    · cases hs
  · rename_i t m k u ho
    split at hs
    · rename_i m' k' u' hm hk hu
      simp only [Option.map_eq_some_iff] at hs
      obtain ⟨q, h1, h2⟩ := hs
      cases h2
      exact amap_touch h1 fun a e => .inr (by simp only [goal, ho, hm, e])
    · cases hs
  · rename_i c ho
    split at hs
    · rename_i s x hc ha
      exact aappend_touch hs (.inl rfl) fun a l q e => .inr (by simp only [goal, ho, ha, e])
    · rename_i d x hc ha
      exact acopy_touch hs fun a l q e => .inr (by simp only [goal, ho, ha, e])
    · rename_i p n hc ha
      exact aunsafe_touch hs fun a e => .inr (by simp only [goal, ho, ha, e])
    · cases hs
  · cases hs

theorem turnK_some {m : MT} {h' : Heap} {n : Nat} {k : MT → Option RR} {r : RR} (h : turnK m h' n k = some r) :
    ∃ m' : MT, (∀ i, (m'.look .non i).opt = if i = n then (match h'.get n with | some b => some b | none => (m.look .non i).opt) else (m.look .non i).opt) ∧ k m' = some r := by
  unfold turnK at h
  cases hb : h'.get n with
  | none => rw [hb] at h; exact ⟨m, fun i => by split <;> rfl, h⟩
  | some b =>
    rw [hb] at h
    dsimp only at h
    obtain ⟨rb, h1, h2⟩ := rowK_some h
    obtain ⟨m', h3, h4⟩ := PT.setK_spec (d := RB.non) (x := rb) m n
    rw [h4] at h2
    refine ⟨m', fun i => ?_, h2⟩
    rw [h3]
    by_cases e : i = n
    · subst e; simp [h1]
    · simp [e]

theorem does_eff (hs : Sets o.dst set) : Does P tab o (sEff tab o set) := by
  intro e m nx k r h
  obtain ⟨p, h1, h2⟩ := ocase_some h
  have ht := aeff_touch h1
  have base : ∀ i, (heapOf m (nx + 1)).get i = (m.look .non i).opt := fun i => by simp only [heapOf, PT.get_eq]
  cases hg : goal (envOf e) o with
  | none =>
    rw [hg] at h2
    dsimp only at h2
    obtain ⟨m1, g1, g2⟩ := turnK_some h2
    rw [forceNat_eq] at g2
    obtain ⟨e', h3, h4⟩ := retV_some hs g2
    refine ⟨_, e', m1, nx + 1, ?_, h3, h4⟩
    have eq : p.2 = heapOf m1 (nx + 1) := by
      have : p.2.get = (heapOf m1 (nx + 1)).get := by
        funext i
        simp only [heapOf, PT.get_eq, g1]
        by_cases ei : i = nx
        · subst ei
          cases hq : p.2.get i with
          | some b => simp
          | none => simp only [if_true]; rw [← base, ht.keep i hq]
        · rw [if_neg ei, ← base]
          exact ht.same i fun q => by
            rcases q with q | q
            · exact ei q
            · rw [hg] at q; cases q
      have hn := ht.next
      cases hp : p.2
      rw [hp] at this hn
      simp only [heapOf] at this hn ⊢
      rw [this, hn]
    rw [← eq]
    exact .eff h1
  | some n =>
    rw [hg] at h2
    dsimp only at h2
    obtain ⟨m0, f1, f2⟩ := turnK_some h2
    obtain ⟨m2, q1, q2⟩ := turnK_some f2
    rw [forceNat_eq] at q2
    obtain ⟨e', h3, h4⟩ := retV_some hs q2
    refine ⟨_, e', m2, nx + 1, ?_, h3, h4⟩
    have eq : p.2 = heapOf m2 (nx + 1) := by
      have : p.2.get = (heapOf m2 (nx + 1)).get := by
        funext i
        simp only [heapOf, PT.get_eq, q1, f1]
        by_cases ei : i = nx
        · subst ei
          cases hq : p.2.get i with
          | some b => simp
          | none =>
            simp only [if_true]
            by_cases en : i = n
            · subst en; simp only [hq, if_true]; rw [← base, ht.keep i hq]
            · rw [if_neg en, ← base, ht.keep i hq]
        · rw [if_neg ei]
          by_cases en : i = n
          · subst en
            cases hq : p.2.get i with
            | some b => simp
            | none => simp only [if_true]; rw [← base, ht.keep i hq]
          · rw [if_neg en, ← base]
            exact ht.same i fun q => by
              rcases q with q | q
              · exact ei q
              · rw [hg] at q; cases q; exact en rfl
      have hn := ht.next
      cases hp : p.2
      rw [hp] at this hn
      simp only [heapOf] at this hn ⊢
      rw [this, hn]
    rw [← eq]
    exact .eff h1

/-! ### calls -/
/-- what is known of calls is true -/
def SoundAt (P : Program) (q : Ent) (args : List EV) (h : Heap) (v : EV) (h' : Heap) : Prop := match q with
  | .fn g => ACallX P g (args.map EV.val).toArray h fun u k => u = v.val ∧ k = h'
  | .yld n => AYield P n (args.map EV.val).toArray h fun u k => u = v.val ∧ k = h'
  | .it g => isFn P g = true ∧ ACall P g (args.map EV.val).toArray h fun u k => u = v.val ∧ k = h'
def Sound (P : Program) (call : Caller) : Prop := ∀ q args m nx v m' nx', call q args m nx = some (v, m', nx') → SoundAt P q args (heapOf m nx) v (heapOf m' nx')

theorem argsK_some {l : List Operand} {e : ET} : ∀ {k : List EV → Option RR} {r : RR}, argsK (l.map compO) e k = some r → ∃ vs : List EV, evs (envOf e) l = some (vs.map EV.val) ∧ k vs = some r := by
  induction l with
  | nil => intro k r h; exact ⟨[], rfl, h⟩
  | cons x l ih =>
    intro k r h
    change (compO x).ev e (fun v => movable v fun v => argsK (l.map compO) e fun vs => k (v :: vs)) = some r at h
    obtain ⟨v, h1, h2⟩ := compO_reads x _ _ _ h
    obtain ⟨y, h3, h4⟩ := movable_some h1
    obtain ⟨vs, h5, h6⟩ := ih h4
    exact ⟨y :: vs, by simp only [evs, h2 _ h3, h5, List.map_cons], h6⟩
theorem caughtK_some {l : List Value} : ∀ {k : List EV → Option RR} {r : RR}, caughtK l k = some r → ∃ vs : List EV, vs.map EV.val = l ∧ k vs = some r := by
  induction l with
  | nil => intro k r h; exact ⟨[], rfl, h⟩
  | cons x l ih =>
    intro k r h
    change toEV x (fun v => caughtK l fun vs => k (v :: vs)) = some r at h
    rw [toEV_eq] at h
    obtain ⟨vs, h5, h6⟩ := ih h
    exact ⟨evOf x :: vs, by simp [evOf_val, h5], h6⟩
theorem addK_eq {l w : List EV} : ∀ {k : List EV → Option RR}, addK l w k = k (l ++ w) := by
  induction l with
  | nil => intro k; rfl
  | cons x l ih => intro k; show addK l w (fun vs => k (x :: vs)) = _; rw [ih]; rfl

theorem funcOf_some {v : Value} {k : Ent → List Value → Option RR} {r : RR} (h : funcOf v k = some r) :
    (∃ g cs, v = .func (.func g) ⟨[]⟩ cs ∧ k (.fn g) cs.toList = some r) ∨ ∃ n, v = .func (.yield n) ⟨[]⟩ ⟨[]⟩ ∧ k (.yld n) [] = some r := by
  unfold funcOf at h
  split at h
  · exact .inl ⟨_, _, rfl, h⟩
  · exact .inr ⟨_, rfl, h⟩
  · cases h

theorem does_call (hs : Sets o.dst set) {call : Caller} (hcall : Sound P call) {c : Call} {f : Operand} (ho : o.op = .call c) (hc : c.callee = .value f) : Does P tab o (sCall call (compO f) (c.args.toList.map compO) set) := by
  intro e m nx k r h
  obtain ⟨v, h1, h2⟩ := compO_reads f _ _ _ h
  cases v with
  | nat n => cases h1
  | bool b => cases h1
  | oth fv =>
    change funcOf fv _ = some r at h1
    rcases funcOf_some h1 with ⟨g, cs, rfl, q1⟩ | ⟨n, rfl, q1⟩
    · have hf := h2 (.func (.func g) ⟨[]⟩ cs) rfl
      obtain ⟨cv, h3, h4⟩ := caughtK_some q1
      obtain ⟨av, h5, h6⟩ := argsK_some h4
      rw [addK_eq] at h6
      obtain ⟨p, h7, h8⟩ := ocase_some h6
      obtain ⟨e', h9, h10⟩ := set_some hs h8
      have hac : SoundAt P (.fn g) _ _ _ _ := hcall (.fn g) _ m nx p.1 p.2.1 p.2.2 h7
      refine ⟨_, e', p.2.1, p.2.2, .call (f := g) (args := ((av ++ cv).map EV.val).toArray) ?_ hac, h9, h10⟩
      simp only [acallee, ho, hc, h5, hf]
      have : (⟨[]⟩ : Array Value).size = 0 := rfl
      rw [if_pos this, List.map_append, h3]
      simp
    · have hf := h2 (.func (.yield n) ⟨[]⟩ ⟨[]⟩) rfl
      obtain ⟨cv, h3, h4⟩ := caughtK_some q1
      obtain ⟨av, h5, h6⟩ := argsK_some h4
      rw [addK_eq] at h6
      obtain ⟨p, h7, h8⟩ := ocase_some h6
      obtain ⟨e', h9, h10⟩ := set_some hs h8
      have hac : SoundAt P (.yld n) _ _ _ _ := hcall (.yld n) _ m nx p.1 p.2.1 p.2.2 h7
      have hcv : cv = [] := List.map_eq_nil_iff.1 h3
      subst hcv
      rw [List.append_nil] at hac
      refine ⟨_, e', p.2.1, p.2.2, .yield (n := n) (args := (av.map EV.val).toArray) ?_ hac, h9, h10⟩
      simp only [ayield, ho, hc, h5, hf]
      have : (⟨[]⟩ : Array Value).size = 0 := rfl
      rw [if_pos ⟨this, this⟩]

/-- a call that is run where there is no memory -/
def DidP (P : Program) (o : Oper) (ρ : Env) (h : Heap) (v : Value) (h' : Heap) : Prop := h' = h ∧ ∃ f args, acallee ρ o = some (f, args) ∧ AReads P f args (fun _ _ => False) v

theorem HRel.grow {prot : Prot} {r : Ren} {h : Heap} {w w' : World} (hh : HRel prot r h w) (old : ∀ (b : Nat) (x : Obj), w.heap[b]? = some x → w'.heap[b]? = some x) (ex : (w'.os, w'.output) = (w.os, w.output)) : HRel prot r h w' := by
  refine ⟨hh.dom, hh.fresh, fun n l k h1 h2 => ?_, hh.inj, fun b o hb => old b o.1 (hh.safe b o hb), hh.keep, ex.trans hh.ext⟩
  have hb := hh.blk n l k h1 h2
  by_cases hd : k = .dead
  · subst hd; trivial
  · obtain ⟨o, ho⟩ := blk_some hb hd
    rw [ho] at hb; rw [old _ _ ho]; exact hb

theorem apure_of_empty {f : FuncId} {args : Array Value} {v : Value} (ha : closed (.tuple args) = true) (hv : closed v = true) (hc : ∃ K : Heap → Prop, ACallX P f args ⟨fun _ => none, 0⟩ fun u h' => u = v ∧ K h') : ∀ h, ACallX P f args h fun u h' => u = v ∧ h' = h := by
  obtain ⟨K0, hc⟩ := hc
  intro h
  refine hc.imp (fun ⟨hf, hc⟩ => ⟨hf, fun prot r args' w hh hargs => ?_⟩) fun hc prot r args' w hh hargs => ?_
  · have e0 : Value.tuple args' = .tuple args := closed_eq ha hargs
    cases e0
    have hrel : HRel ⟨fun b => (w.heap[b]?).map fun o => (o, true), (w.os, w.output)⟩ (fun _ => none) ⟨fun _ => none, 0⟩ w := by
      refine ⟨fun n => ⟨fun _ => rfl, fun _ => rfl⟩, fun _ _ => rfl, fun n l k h1 => (by cases h1), fun n m l l' k k' _ h1 => (by cases h1), fun b o hb => ?_, fun b o hb n l k h1 => (by cases h1), rfl⟩
      simp only at hb
      cases hq : w.heap[b]? with
      | none => rw [hq] at hb; cases hb
      | some o' => rw [hq] at hb; cases hb; rfl
    obtain ⟨u, v', r', h', w', he, ⟨rfl, _⟩, hvr, _, _, hrel'⟩ := hc _ _ args w hrel (rel_closed _ ha)
    have e1 := closed_eq hv hvr
    subst e1
    exact ⟨v', v', r, h, w', he, ⟨rfl, rfl⟩, rel_closed _ hv, fun _ _ => rfl, Nat.le_refl _, hh.grow (fun b o hb => hrel'.safe b (o, true) (by simp only [hb, Option.map_some])) hrel'.ext⟩
  have e0 : Value.tuple args' = .tuple args := closed_eq ha hargs
  cases e0
  have hrel : HRel ⟨fun b => (w.heap[b]?).map fun o => (o, true), (w.os, w.output)⟩ (fun _ => none) ⟨fun _ => none, 0⟩ w := by
    refine ⟨fun n => ⟨fun _ => rfl, fun _ => rfl⟩, fun _ _ => rfl, fun n l k h1 => (by cases h1), fun n m l l' k k' _ h1 => (by cases h1), fun b o hb => ?_, fun b o hb n l k h1 => (by cases h1), rfl⟩
    simp only at hb
    cases hq : w.heap[b]? with
    | none => rw [hq] at hb; cases hb
    | some o' => rw [hq] at hb; cases hb; rfl
  refine (hc _ _ args w hrel (rel_closed _ ha)).mono ?_
  rintro e w' ⟨u, v', r', h', rfl, ⟨rfl, _⟩, hvr, _, _, hrel'⟩
  have e1 := closed_eq hv hvr
  subst e1
  refine ⟨v', v', r, h, rfl, ⟨rfl, rfl⟩, rel_closed _ hv, fun _ _ => rfl, Nat.le_refl _, hh.grow (fun b o hb => ?_) hrel'.ext⟩
  exact hrel'.safe b (o, true) (by simp only [hb, Option.map_some])

theorem does_pcall (hs : Sets o.dst set) {call : Caller} (hcall : Sound P call) {c : Call} {f : Operand} (ho : o.op = .call c) (hc : c.callee = .value f) : DoesR (DidP P o) o (sPCall call (compO f) (c.args.toList.map compO) set) := by
  intro e m nx k r h
  obtain ⟨v, h1, h2⟩ := compO_reads f _ _ _ h
  cases v with
  | nat n => cases h1
  | bool b => cases h1
  | oth fv =>
    change funcOf fv _ = some r at h1
    rcases funcOf_some h1 with ⟨g, cs, rfl, q1⟩ | ⟨n, rfl, q1⟩
    · have hf := h2 (.func (.func g) ⟨[]⟩ cs) rfl
      obtain ⟨cl⟩ := cs
      cases cl with
      | cons x cl => cases q1
      | nil =>
        obtain ⟨av, h5, h6⟩ := argsK_some q1
        cases hcl : av.all closedEV with
        | false => rw [hcl] at h6; cases h6
        | true =>
          rw [hcl] at h6
          obtain ⟨p, h7, h8⟩ := ocase_some h6
          cases hcv : closed p.1.val with
          | false => rw [hcv] at h8; cases h8
          | true =>
            rw [hcv] at h8
            obtain ⟨e', h9, h10⟩ := set_some hs h8
            have hac : SoundAt P (.fn g) _ _ _ _ := hcall (.fn g) _ .leaf 0 p.1 p.2.1 p.2.2 h7
            refine ⟨_, e', m, nx, ⟨rfl, g, (av.map EV.val).toArray, ?_, hcv, fun h' _ => ?_⟩, h9, h10⟩
            · simp only [acallee, ho, hc, h5, hf]
              have : (⟨[]⟩ : Array Value).size = 0 := rfl
              rw [if_pos this]
              simp
            · have hcla : closed (.tuple (av.map EV.val).toArray) = true := by
                show ((av.map EV.val).toArray).all _ = true
                rw [Array.all_eq_true]
                intro i hi
                rw [List.all_eq_true] at hcl
                simp only [List.getElem_toArray, List.getElem_map]
                have := hcl (av[i]'(by simpa using hi)) (List.getElem_mem _)
                cases hx : av[i]'(by simpa using hi) with
                | nat n => rfl
                | bool b => rfl
                | oth x => rw [hx] at this; exact this
              exact apure_of_empty hcla hcv ⟨_, hac⟩ h'
    · cases q1

/-! ### stores -/
theorem listOf_set {d v : EV} {t t' : PT EV} {n len : Nat} (h : ∀ i, t'.look d i = if i = n then v else t.look d i) : listOf d t' len = (listOf d t len).set n v.val := by
  apply List.ext_getElem?
  intro i
  by_cases hi : i < len
  · by_cases e : i = n
    · subst e; simp [listOf, hi, PT.get_eq, h]
    · simp [listOf, hi, PT.get_eq, h, e, List.getElem?_set, Ne.symm e]
  · simp [listOf, hi, List.getElem?_set]

theorem one1_some {v : Value} {k : EV → Option RR} {r : RR} (h : one1 v k = some r) : v.oneCell' = true ∧ k (.oth v) = some r := by
  unfold one1 at h
  split at h
  · cases h
  · cases h
  · cases h
  · rename_i h1 h2 h3
    refine ⟨?_, h⟩
    cases v <;> first | rfl | exact absurd rfl (h1 _) | exact absurd rfl (h2 _)

theorem wrK_some {d : EV} {len : Nat} {l : List Value} : ∀ {n : Nat} {t : PT EV} {k : Nat → PT EV → Option RR} {r : RR}, wrK d l n t k = some r →
    (∀ v ∈ l, v.oneCell' = true) ∧ ∃ t', listOf d t' len = writeL (listOf d t len) n l ∧ k (n + l.length) t' = some r := by
  induction l with
  | nil => intro n t k r h; exact ⟨(fun _ q => by cases q), t, rfl, h⟩
  | cons v l ih =>
    intro n t k r h
    have key : ∃ u : EV, u.val = v ∧ v.oneCell' = true ∧ t.setK d n u (fun t => wrK d l (Nat.succ n) t k) = some r := by
      change toEV v (fun v => EV.rec (motive := fun _ => Option RR) (fun a => t.setK d n (.nat a) fun t => wrK d l (Nat.succ n) t k) (fun a => t.setK d n (.bool a) fun t => wrK d l (Nat.succ n) t k) (fun v => one1 v fun v => t.setK d n v fun t => wrK d l (Nat.succ n) t k) v) = some r at h
      rw [toEV_eq] at h
      have hv := evOf_val v
      cases hq : evOf v with
      | nat a => rw [hq] at h hv; exact ⟨.nat a, hv, by rw [← hv]; rfl, h⟩
      | bool a => rw [hq] at h hv; exact ⟨.bool a, hv, by rw [← hv]; rfl, h⟩
      | oth u =>
        rw [hq] at h hv
        obtain ⟨h1, h2⟩ := one1_some h
        exact ⟨.oth u, hv, by rw [← hv]; exact h1, h2⟩
    obtain ⟨u, hu, h1, h2⟩ := key
    obtain ⟨t1, h3, h4⟩ := PT.setK_spec (d := d) (x := u) t n
    rw [h4] at h2
    obtain ⟨h5, t', h6, h7⟩ := ih h2
    refine ⟨fun w hw => ?_, t', ?_, ?_⟩
    · rcases List.mem_cons.1 hw with rfl | hw
      · exact h1
      · exact h5 w hw
    · rw [h6, listOf_set h3, hu]; rfl
    · rw [← h7]; simp only [List.length_cons]; congr 1; omega

theorem putCells_some {d : EV} {t : PT EV} {n size len : Nat} {v : EV} {k : PT EV → Option RR} {r : RR} (h : putCells d t n size v k = some r) :
    v.val.cells.size = size ∧ oneCells v.val.cells.toList = true ∧ ∃ t', listOf d t' len = writeL (listOf d t len) n v.val.cells.toList ∧ k t' = some r := by
  have single : ∀ u : EV, u.val.cells = #[u.val] → u.val.oneCell' = true → Bool.rec (motive := fun _ => Option RR) none (t.setK d n u k) (Nat.beq size 1) = some r →
      u.val.cells.size = size ∧ oneCells u.val.cells.toList = true ∧ ∃ t', listOf d t' len = writeL (listOf d t len) n u.val.cells.toList ∧ k t' = some r := by
    intro u hu h1 h2
    cases hb : Nat.beq size 1 with
    | false => rw [hb] at h2; cases h2
    | true =>
      rw [hb] at h2
      obtain ⟨t', h3, h4⟩ := PT.setK_spec (d := d) (x := u) t n
      change t.setK d n u k = some r at h2
      rw [h4] at h2
      refine ⟨by rw [hu, Nat.eq_of_beq_eq_true hb]; rfl, by rw [hu]; simp [oneCells, h1], t', ?_, h2⟩
      rw [hu, listOf_set h3]; rfl
  cases v with
  | nat a => exact single (.nat a) rfl rfl h
  | bool a => exact single (.bool a) rfl rfl h
  | oth v =>
    unfold putCells at h
    dsimp only at h
    split at h
    · rename_i cs
      obtain ⟨h1, t', h2, h3⟩ := wrK_some (len := len) h
      cases hb : Nat.beq (n + cs.toList.length) (Nat.add n size) with
      | false => rw [hb] at h3; cases h3
      | true =>
        rw [hb] at h3
        have := Nat.eq_of_beq_eq_true hb
        refine ⟨?_, (by show cs.toList.all Value.oneCell' = true; rw [List.all_eq_true]; exact h1), t', h2, h3⟩
        show cs.size = size
        have e : cs.toList.length = cs.size := by simp
        have e2 : Nat.add n size = n + size := rfl
        omega
    · rename_i hne
      obtain ⟨h1, h2⟩ := one1_some h
      refine single (.oth v) ?_ h1 h2
      cases v <;> first | rfl | exact absurd rfl (hne _)

theorem does_store {t : Nat} {x v : Operand} (ho : o.op = .store t x v) (hd : o.dst = none) {k : TK} (ht : tab t = some k) : Does P tab o (sStore k.size (compO x) (compO v)) := by
  intro e m nx kk r h
  obtain ⟨xv, h1, h2⟩ := compO_reads x _ _ _ h
  obtain ⟨vv, h3, h4⟩ := compO_reads v _ _ _ h1
  obtain ⟨y, h5, h6⟩ := movable_some h3
  obtain ⟨n, q, h7, h8⟩ := ptrK_some h6
  obtain ⟨d, tr, len, el, opn, wr, h9, h10⟩ := cellsK_some h8
  cases wr with
  | false => cases h10
  | true =>
    change Bool.rec (motive := fun _ => Option RR) none (putCells d tr q k.size y fun t => m.setK .non n (.cells d t len el opn true) fun m => forceNat (Nat.succ nx) fun nx => kk e m nx) (Nat.ble (Nat.add q k.size) len) = some r at h10
    cases hb : Nat.ble (Nat.add q k.size) len with
    | false => rw [hb] at h10; cases h10
    | true =>
      rw [hb] at h10
      have hle : q + k.size ≤ len := Nat.le_of_ble_eq_true hb
      obtain ⟨g1, g2, t', g3, g4⟩ := putCells_some (len := len) h10
      obtain ⟨m', f1, f2⟩ := PT.setK_spec (d := RB.non) (x := RB.cells d t' len el opn true) m n
      rw [f2, forceNat_eq] at g4
      refine ⟨undef, e, m', nx + 1, ?_, by rw [hd]; rfl, g4⟩
      have e1 : heapOf m' (nx + 1) = (heapOf m nx).bump.set n (.cells (listOf d t' len) el opn true) := heapOf_set (m := m) (nx := nx + 1) (n := n) (b := RB.cells d t' len el opn true) rfl f1
      rw [e1]
      refine .eff ?_
      have hx := h2 (.pointer (some ⟨n, q, none⟩)) (by rw [h7]; rfl)
      have hv := h4 _ h5
      have hget : (heapOf m nx).bump.get n = some (.cells (listOf d tr len) el opn true) := get_cells (nx := nx) h9
      simp only [aeff, ho, hx, hv, astore, ht, hget, wrow, listOf_length]
      rw [if_pos ⟨g1, hle, g2⟩, g3]
      rfl

theorem natK_some {x : EV} {k : Nat → Option RR} {r : RR} (h : natK x k = some r) : ∃ n, x = .nat n ∧ k n = some r := by
  cases x with
  | nat n => exact ⟨n, rfl, h⟩
  | bool b => cases h
  | oth v => cases h
theorem both_some {a b : Bool} {x : Option RR} {r : RR} (h : both a b x = some r) : a = true ∧ b = true ∧ x = some r := by
  cases a <;> cases b <;> first | (cases h; done) | exact ⟨rfl, rfl, h⟩

theorem repl_listOf {z : EV} (n : Nat) : repl n [z.val] = listOf z .leaf n := by
  induction n with
  | zero => rfl
  | succ n ih =>
    have : repl (n + 1) [z.val] = [z.val] ++ repl n [z.val] := rfl
    rw [this, ih]
    unfold listOf
    rw [List.range_succ_eq_map]
    simp [PT.get_eq, PT.look]

theorem does_make (hs : Sets o.dst set) {t : Nat} {l c : Operand} (ho : o.op = .makeSlice t l c) {e0 a1 b1 bytes : Nat} {c1 : List Value} (ht : tab t = some ⟨.slice e0, a1, b1, c1⟩) {dk : TD} {z : EV} (he : tab e0 = some ⟨dk, 1, bytes, [z.val]⟩) :
    Does P tab o (sMake e0 bytes z (compO l) (compO c) set) := by
  intro e m nx kk r h
  obtain ⟨lv, h1, h2⟩ := compO_reads l _ _ _ h
  obtain ⟨cv, h3, h4⟩ := compO_reads c _ _ _ h1
  obtain ⟨ln, rfl, h5⟩ := natK_some h3
  obtain ⟨cn, rfl, h6⟩ := natK_some h5
  obtain ⟨g1, g2, g3⟩ := both_some h6
  obtain ⟨g4, _, g5⟩ := both_some g3
  have l1 := Nat.le_of_ble_eq_true g1
  have l2 : bytes * cn ≤ 281474976710656 := Nat.le_of_ble_eq_true g2
  have l3 := Nat.le_of_ble_eq_true g4
  obtain ⟨m', f1, f2⟩ := PT.setK_spec (d := RB.non) (x := RB.cells z .leaf cn e0 false true) m nx
  rw [f2] at g5
  obtain ⟨e', h7, h8⟩ := set_some hs g5
  rw [forceNat_eq] at h8
  refine ⟨_, e', m', nx + 1, ?_, h7, h8⟩
  have e1 : heapOf m' (nx + 1) = (heapOf m nx).bump.set (heapOf m nx).next (.cells (listOf z .leaf cn) e0 false true) := heapOf_set (m := m) (nx := nx + 1) (n := nx) (b := RB.cells z .leaf cn e0 false true) rfl f1
  rw [e1]
  have hl := h2 (.int .i64 (.ofNat ln)) rfl
  have hc := h4 (.int .i64 (.ofNat cn)) rfl
  refine .alloc (mk := fun q => .slice (some ⟨q, 0, some 1⟩) ln cn) ?_ rfl
  simp only [aalloc, ho, ht, hl, hc, he]
  rw [if_pos ⟨Int.natCast_nonneg _, by exact Int.ofNat_le.2 l1, by
    have : ((bytes : Int) * Int.ofNat cn) = ((bytes * cn : Nat) : Int) := by simp
    rw [this]; omega, by
    have : (Int.ofNat cn) = (cn : Int) := rfl
    rw [this]; omega, by decide⟩]
  simp only [Int.toNat_natCast, Int.ofNat_eq_natCast]
  rw [repl_listOf]

/-! ### an operation, with its guard -/
def StepsR (R : Env → Heap → Value → Heap → Prop) (N : Nat) (ops : Array Oper) (o : Oper) (c : Step) : Prop := ∀ e m nx k r, c e m nx k = some r → okDst N o.dst = true ∧ ∃ b, wantedA ops o (envOf e) = some b ∧
  (b = true → ∃ v e' m' nx', R (envOf e) (heapOf m nx) v (heapOf m' nx') ∧ envOf e' = putO (envOf e) o.dst v ∧ k e' m' nx' = some r) ∧
  (b = false → ∃ e', envOf e' = putO (envOf e) o.dst undef ∧ k e' m nx = some r)
abbrev Steps (P : Program) (tab : Tab) (N : Nat) (ops : Array Oper) (o : Oper) (c : Step) : Prop := StepsR (Did P tab o) N ops o c

variable {R : Env → Heap → Value → Heap → Prop}
theorem steps_plain {N : Nat} {ops : Array Oper} {c : Step} (hN : okDst N o.dst = true) (hg : o.guard = none) (hd : DoesR R o c) : StepsR R N ops o c :=
  fun e m nx k r h => ⟨hN, true, by simp only [wantedA, hg], fun _ => hd e m nx k r h, fun q => by cases q⟩

theorem steps_guard {N : Nat} {ops : Array Oper} {c : Step} (hs : Sets o.dst set) (hN : okDst N o.dst = true) {j s : Nat} {want : Bool} (hg : o.guard = some (j, want)) (hj : (ops[j]?).bind (·.dst) = some s) (hd : DoesR R o c) :
    StepsR R N ops o (sGuard (compO (.tmp s)) want set c) := by
  intro e m nx k r h
  refine ⟨hN, ?_⟩
  obtain ⟨v, h1, h2⟩ := compO_reads (.tmp s) _ _ _ h
  cases v with
  | nat n => cases h1
  | bool b =>
    have hb := h2 (.bool b) rfl
    have hb' : envOf e s = .bool b := (force_eq hb).symm
    refine ⟨b == want, by simp only [wantedA, hg, hj, hb'], fun q => ?_, fun q => ?_⟩
    · cases b <;> cases want <;> first | (cases q; done) | exact hd e m nx k r h1
    · cases b <;> cases want <;> first | (cases q; done) | exact set_some hs h1
  | oth w =>
    dsimp only at h1
    split at h1
    · rename_i cs
      have hb' : envOf e s = .tuple cs := (force_eq (h2 (.tuple cs) rfl)).symm
      exact ⟨false, (by simp only [wantedA, hg, hj, hb']), (fun q => by cases q), fun _ => set_some hs h1⟩
    · cases h1
end
end Go.Mir

