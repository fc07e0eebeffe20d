/- The walk's steps, one theorem each. By a session's own hand. -/
import Derived.Test.YtlpenkjkggopiaaGreatTabQ
import Derived.Test.YtlpenkjkggopiaaGreatOrdQ
import Derived.Test.YtlpenkjkggopiaaGreatChecked
import Derived.Eval
set_option linter.unusedSimpArgs false
set_option linter.unusedVariables false
namespace Go.Mir
open Go.Proofs
noncomputable abbrev P0 := Tryz.prog

theorem good : Good P0 tab := ⟨(checkT_ok good0 (fun _ h => mkTab_none _ _ _ h)).1, (checkT_ok good0 (fun _ h => mkTab_none _ _ _ h)).2, Tryz.checked.mixed⟩

section
variable {P : Program} {tab : Tab} {N : Nat} {ops : Array Oper} {K : Env → Heap → Prop} {o : Oper} {l : List Oper} {ρ : Env} {h : Heap} {Q : Exit → Env → Heap → Prop} {next : Env → Heap → Prop}

theorem aops_nil (hk : K ρ h) : AOps P tab N ops K [] ρ h := hk
variable {d : Nat}
theorem aops_val {v : Value} (hd : o.dst = some d) (hlt : Nat.blt d N = true) (hw : wantedA ops o ρ = some true) (hv : aval tab ρ o = some v) (hk : AOps P tab N ops K l (put ρ d v) h) : AOps P tab N ops K (o :: l) ρ h :=
  ⟨by rw [hd]; exact hlt, true, hw, fun _ => .pop (.val hv) (by rw [hd]; exact hk), (fun e => by cases e)⟩
theorem aops_skip (hd : o.dst = some d) (hlt : Nat.blt d N = true) (hw : wantedA ops o ρ = some false) (hk : AOps P tab N ops K l (put ρ d undef) h) : AOps P tab N ops K (o :: l) ρ h :=
  ⟨by rw [hd]; exact hlt, false, hw, (fun e => by cases e), fun _ => by rw [hd]; exact hk⟩
theorem aops_skip' (hd : o.dst = none) (hw : wantedA ops o ρ = some false) (hk : AOps P tab N ops K l ρ h) : AOps P tab N ops K (o :: l) ρ h :=
  ⟨by rw [hd]; rfl, false, hw, (fun e => by cases e), fun _ => by rw [hd]; exact hk⟩
theorem aops_rd {v : Value} {n : Nat} {f : Blk → Option Value} {k : Blk} (hd : o.dst = some d) (hlt : Nat.blt d N = true) (hw : wantedA ops o ρ = some true) (hr : ard tab ρ o = some (n, f)) (hn : h.get n = some k) (hv : f k = some v)
    (hk : AOps P tab N ops K l (put ρ d v) h) : AOps P tab N ops K (o :: l) ρ h :=
  ⟨by rw [hd]; exact hlt, true, hw, fun _ => .pop (.rd hr hn hv) (by rw [hd]; exact hk), (fun e => by cases e)⟩
theorem aops_alloc {mk : Nat → Value} {blk : Blk} {v : Value} (hd : o.dst = some d) (hlt : Nat.blt d N = true) (hw : wantedA ops o ρ = some true) (ha : aalloc tab ρ o = some (mk, blk)) (hm : force (mk h.next) = some v)
    (hk : AOps P tab N ops K l (put ρ d v) (h.bump.set h.next blk)) :
    AOps P tab N ops K (o :: l) ρ h := ⟨by rw [hd]; exact hlt, true, hw, fun _ => .alloc ha fun _ => (by rw [hd, ← force_eq hm]; exact hk), (fun e => by cases e)⟩
theorem aops_eff {v : Value} {h' : Heap} (hd : o.dst = some d) (hlt : Nat.blt d N = true) (hw : wantedA ops o ρ = some true) (ha : aeff tab ρ h.next o h.bump = some (v, h')) (hk : AOps P tab N ops K l (put ρ d v) h') :
    AOps P tab N ops K (o :: l) ρ h := ⟨by rw [hd]; exact hlt, true, hw, fun _ => .eff ha fun _ => (by rw [hd]; exact hk), (fun e => by cases e)⟩
theorem aops_eff' {v : Value} {h' : Heap} (hd : o.dst = none) (hw : wantedA ops o ρ = some true) (ha : aeff tab ρ h.next o h.bump = some (v, h')) (hk : AOps P tab N ops K l ρ h') :
    AOps P tab N ops K (o :: l) ρ h := ⟨by rw [hd]; rfl, true, hw, fun _ => .eff ha fun _ => (by rw [hd]; exact hk), (fun e => by cases e)⟩
theorem aops_pure {v : Value} {f : FuncId} {args : Array Value} (hd : o.dst = some d) (hlt : Nat.blt d N = true) (hw : wantedA ops o ρ = some true) (ha : acallee ρ o = some (f, args)) (hc : APure P f args v) (hf : isFn P f = true)
    (hk : AOps P tab N ops K l (put ρ d v) h) :
    AOps P tab N ops K (o :: l) ρ h := ⟨by rw [hd]; exact hlt, true, hw, fun _ => .call ha (.inl ⟨hf, (hc h).mono fun u h' ⟨e1, e2⟩ => by subst e1 e2; rw [hd]; exact hk⟩), (fun e => by cases e)⟩
theorem aops_call {f : FuncId} {args : Array Value} {R : Value → Heap → Prop} (hd : o.dst = some d) (hlt : Nat.blt d N = true) (hw : wantedA ops o ρ = some true) (ha : acallee ρ o = some (f, args)) (hc : ACall P f args h R) (hf : isFn P f = true)
    (hk : ∀ v h', R v h' → AOps P tab N ops K l (put ρ d v) h') :
    AOps P tab N ops K (o :: l) ρ h := ⟨by rw [hd]; exact hlt, true, hw, fun _ => .call ha (.inl ⟨hf, hc.mono fun v h' q => by rw [hd]; exact hk v h' q⟩), (fun e => by cases e)⟩

/-! ### in a region whose order is open -/
variable {pend : Pend} {i : Nat} {lo : List (Nat × Bool)}
def single (n : Nat) (k : Blk) : Facts := fun m b => m = n ∧ b = k

theorem aord_nil (hk : K ρ h) : AOrd P tab N ops K pend [] ρ h := by unfold AOrd; exact hk
theorem aord_val {v : Value} (hi : ops[i]? = some o) (hd : o.dst = some d) (hlt : Nat.blt d N = true) (hw : wantedA ops o ρ = some true) (hv : aval tab ρ o = some v) (hk : AOrd P tab N ops K pend lo (put ρ d v) h) :
    AOrd P tab N ops K pend ((i, true) :: lo) ρ h := by
  unfold AOrd; simp only [hi]
  exact ⟨by rw [hd]; exact hlt, true, hw, fun _ => .inl ⟨v, .val hv, by rw [hd]; exact hk⟩, (fun e => by cases e)⟩
theorem aord_skip (hi : ops[i]? = some o) (hd : o.dst = some d) (hlt : Nat.blt d N = true) (hw : wantedA ops o ρ = some false) (hk : AOrd P tab N ops K pend lo (put ρ d undef) h) :
    AOrd P tab N ops K pend ((i, true) :: lo) ρ h := by
  unfold AOrd; simp only [hi]
  exact ⟨by rw [hd]; exact hlt, false, hw, (fun e => by cases e), fun _ => by rw [hd]; exact hk⟩
theorem aord_rd {v : Value} {n : Nat} {f : Blk → Option Value} {k : Blk} (hi : ops[i]? = some o) (hd : o.dst = some d) (hlt : Nat.blt d N = true) (hw : wantedA ops o ρ = some true) (hr : ard tab ρ o = some (n, f)) (hn : h.get n = some k) (hv : f k = some v)
    (hk : AOrd P tab N ops K ((i, single n k) :: pend) lo (put ρ d v) h) : AOrd P tab N ops K pend ((i, true) :: lo) ρ h := by
  unfold AOrd; simp only [hi]
  exact ⟨by rw [hd]; exact hlt, true, hw, fun _ => .inr ⟨v, single n k, .rd hr ⟨rfl, rfl⟩ hv, (fun _ _ ⟨e1, e2⟩ => by subst e1 e2; exact hn), by rw [hd]; exact hk⟩, (fun e => by cases e)⟩
theorem aord_pure {v : Value} {f : FuncId} {args : Array Value} (hi : ops[i]? = some o) (hd : o.dst = some d) (hlt : Nat.blt d N = true) (hw : wantedA ops o ρ = some true) (ha : acallee ρ o = some (f, args)) (hc : APure P f args v) (hf : isFn P f = true) (hcl : closed v = true)
    (hk : AOrd P tab N ops K pend lo (put ρ d v) h) : AOrd P tab N ops K pend ((i, true) :: lo) ρ h := by
  unfold AOrd; simp only [hi]
  exact ⟨by rw [hd]; exact hlt, true, hw, fun _ => .inl ⟨v, .call ha ⟨hcl, fun h' _ => .inl ⟨hf, hc h'⟩⟩, by rw [hd]; exact hk⟩, (fun e => by cases e)⟩
theorem aord_reads {v : Value} {f : FuncId} {args : Array Value} {F : Facts} (hi : ops[i]? = some o) (hd : o.dst = some d) (hlt : Nat.blt d N = true) (hw : wantedA ops o ρ = some true) (ha : acallee ρ o = some (f, args)) (hc : AReads P f args F v) (hF : F.le h)
    (hk : AOrd P tab N ops K ((i, F) :: pend) lo (put ρ d v) h) : AOrd P tab N ops K pend ((i, true) :: lo) ρ h := by
  unfold AOrd; simp only [hi]
  exact ⟨by rw [hd]; exact hlt, true, hw, fun _ => .inr ⟨v, F, .call ha hc, hF, by rw [hd]; exact hk⟩, (fun e => by cases e)⟩

theorem kept_nil {h' : Heap} : Kept ops [] i h h' := fun _ hp => by cases hp
theorem kept_dep {j : Nat} {F : Facts} {h' : Heap} (hd : dep ops j i = true) (hk : Kept ops pend i h h') : Kept ops ((j, F) :: pend) i h h' := fun p hp hdd => by
  rcases List.mem_cons.1 hp with rfl | hp
  · rw [hd] at hdd; cases hdd
  · exact hk p hp hdd
theorem kept_fact {j n : Nat} {k : Blk} {h' : Heap} (hn : h'.get n = some k) (hk : Kept ops pend i h h') : Kept ops ((j, single n k) :: pend) i h h' := fun p hp hdd => by
  rcases List.mem_cons.1 hp with rfl | hp
  · exact fun _ _ _ ⟨e1, e2⟩ => by subst e1 e2; exact hn
  · exact hk p hp hdd
theorem kept_alloc {blk : Blk} (hfr : ∀ n, h.next ≤ n → h.get n = none) : Kept ops pend i h (h.bump.set h.next blk) := fun p _ _ hle n k hF => by
  have := hle n k hF
  have hne : n ≠ h.next := fun e => by subst e; rw [hfr _ (Nat.le_refl _)] at this; cases this
  rw [Heap.set_ne _ _ hne]; exact this

theorem aordw_alloc {mk : Nat → Value} {blk : Blk} {v : Value} (hi : ops[i]? = some o) (hd : o.dst = some d) (hlt : Nat.blt d N = true) (hw : wantedA ops o ρ = some true) (ha : aalloc tab ρ o = some (mk, blk)) (hm : force (mk h.next) = some v)
    (hk : AOrd P tab N ops K pend lo (put ρ d v) (h.bump.set h.next blk)) : AOrd P tab N ops K pend ((i, false) :: lo) ρ h := by
  unfold AOrd AStep; simp only [hi]
  exact ⟨by rw [hd]; exact hlt, true, hw, fun _ => .alloc ha fun q => ⟨kept_alloc q, by rw [hd, ← force_eq hm]; exact hk⟩, (fun e => by cases e)⟩
theorem aordw_eff {v : Value} {h' : Heap} (hi : ops[i]? = some o) (hd : o.dst = some d) (hlt : Nat.blt d N = true) (hw : wantedA ops o ρ = some true) (ha : aeff tab ρ h.next o h.bump = some (v, h')) (hkp : Kept ops pend i h h') (hk : AOrd P tab N ops K pend lo (put ρ d v) h') :
    AOrd P tab N ops K pend ((i, false) :: lo) ρ h := by
  unfold AOrd AStep; simp only [hi]
  exact ⟨by rw [hd]; exact hlt, true, hw, fun _ => .eff ha fun _ => ⟨hkp, by rw [hd]; exact hk⟩, (fun e => by cases e)⟩
theorem aordw_eff' {v : Value} {h' : Heap} (hi : ops[i]? = some o) (hd : o.dst = none) (hw : wantedA ops o ρ = some true) (ha : aeff tab ρ h.next o h.bump = some (v, h')) (hkp : Kept ops pend i h h') (hk : AOrd P tab N ops K pend lo ρ h') :
    AOrd P tab N ops K pend ((i, false) :: lo) ρ h := by
  unfold AOrd AStep; simp only [hi]
  exact ⟨by rw [hd]; rfl, true, hw, fun _ => .eff ha fun _ => ⟨hkp, by rw [hd]; exact hk⟩, (fun e => by cases e)⟩
theorem aordw_call {f : FuncId} {args : Array Value} {R : Value → Heap → Prop} (hi : ops[i]? = some o) (hd : o.dst = some d) (hlt : Nat.blt d N = true) (hw : wantedA ops o ρ = some true) (ha : acallee ρ o = some (f, args)) (hc : ACall P f args h R) (hf : isFn P f = true)
    (hk : ∀ v h', R v h' → Kept ops pend i h h' ∧ AOrd P tab N ops K pend lo (put ρ d v) h') : AOrd P tab N ops K pend ((i, false) :: lo) ρ h := by
  unfold AOrd AStep; simp only [hi]
  exact ⟨by rw [hd]; exact hlt, true, hw, fun _ => .call ha (.inl ⟨hf, hc.mono fun v h' q => by rw [hd]; exact hk v h' q⟩), (fun e => by cases e)⟩

theorem awp_draw (f : Nat) {id : Nat} (hl : ((ordOf f id).list.length == ops.size && goodOrder ops (ordOf f id).list (Array.replicate ops.size false)) = true)
    (ho : AOrd P0 Mir.tab N ops (Q .normal) [] (ordOf f id).list ρ h) : AWP P0 N (.region id ops true) Q ρ h := awp_region_draw good (ordOf f id).list hl ho

theorem then_normal (hk : next ρ h) : Then next Q .normal ρ h := hk
theorem then_ret (hk : Q .ret ρ h) : Then next Q .ret ρ h := hk
theorem then_exit {i : Nat} (hk : Q (.exit i) ρ h) : Then next Q (.exit i) ρ h := hk
theorem block_normal {id : Nat} (hk : Q .normal ρ h) : InBlock id Q .normal ρ h := hk
theorem block_ret {id : Nat} (hk : Q .ret ρ h) : InBlock id Q .ret ρ h := hk
theorem block_exit {id : Nat} (hk : Q .normal ρ h) : InBlock id Q (.exit id) ρ h := by simp only [InBlock, if_true]; exact hk
theorem block_other {id i : Nat} (hi : Nat.beq i id = false) (hk : Q (.exit i) ρ h) : InBlock id Q (.exit i) ρ h := by
  have : i ≠ id := fun e => by subst e; rw [Nat.beq_refl] at hi; cases hi
  simp only [InBlock, this, if_false]; exact hk
theorem ret_ret {fn : Func} {R : Value → Heap → Prop} {v : Value} (hv : resA tab fn ρ h = some v) (hk : R v h) : RetPost tab fn R .ret ρ h := ⟨.inr rfl, v, hv, hk⟩
theorem ret_normal {fn : Func} {R : Value → Heap → Prop} {v : Value} (hv : resA tab fn ρ h = some v) (hk : R v h) : RetPost tab fn R .normal ρ h := ⟨.inl rfl, v, hv, hk⟩
end
theorem get_new {h : Heap} {b : Blk} {n : Nat} (hn : n < h.next) : (h.bump.set h.next b).get n = h.get n := Heap.set_ne _ _ (by omega)
theorem get_new_same {h : Heap} {b : Blk} : (h.bump.set h.next b).get h.next = some b := Heap.set_same _ _ _
theorem next_new {h : Heap} {b : Blk} : (h.bump.set h.next b).next = h.next + 1 := rfl
theorem next_set {h : Heap} {b : Blk} {n : Nat} : (h.set n b).next = h.next := rfl
theorem next_bump {h : Heap} : h.bump.next = h.next + 1 := rfl
theorem get_bump {h : Heap} {n : Nat} : h.bump.get n = h.get n := rfl
theorem Heap.Ext.refl (h : Heap) : h.Ext h := ⟨Nat.le_refl _, fun _ _ => rfl⟩
end Go.Mir

