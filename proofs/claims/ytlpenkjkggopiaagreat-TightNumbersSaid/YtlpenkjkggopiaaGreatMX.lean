/- Operations made ready do what the operations do. By a session's own hand. -/
import Derived.Test.YtlpenkjkggopiaaGreatMW
set_option linter.unusedSimpArgs false
set_option linter.unusedVariables false
namespace Go.Mir
section
variable {P : Program} {tab : Tab} {N : Nat} {call : Caller}

theorem does_bad {o : Oper} : Does P tab o (sCI tab call .bad) := fun e m nx k r h => by cases h

theorem compOp_does (hcall : Sound P call) {o : Oper} {set : Setter} (hs : Sets o.dst set)
    (happ : ∀ c t0 t1 a b e a1 b1 c1 e' a2 b2 c2 k, o.op = .call c → c.callee = .builtin .append → c.argTypes.toList = [t0, t1] → c.args.toList = [a, b] → tab t0 = some ⟨.slice e, a1, b1, c1⟩ → tab t1 = some ⟨.slice e', a2, b2, c2⟩ → tab e = some k →
      Does P tab o (sAppend tab o e k.size k.bytes (compO a) (compO b) set)) : Does P tab o (sCI tab call (compOp tab o set)) := by
  cases ho : o.op with
  | move x => simp only [compOp, ho]; exact does_mov hs (.inl ho)
  | assign x => simp only [compOp, ho]; exact does_mov hs (.inr ho)
  | binOp op t x y z =>
    simp only [compOp, ho]
    obtain ⟨f, hf, he⟩ := natBin_quick op (fun f => CI.bin f (abin tab op t) (compO x) (compO y) set)
    rw [he]
    exact does_bin hs ho hf
  | load t x =>
    simp only [compOp, ho]
    cases ht : tab t with
    | none => exact does_bad
    | some k => exact does_load hs ho ht
  | indexAddr t x i => simp only [compOp, ho]; exact does_op2 hs fun ρ u u' v h1 h2 h3 => by simp only [aval, ho, h1, h2, h3]
  | fieldAddr t x f => simp only [compOp, ho]; exact does_op1 hs fun ρ u v h1 h3 => by simp only [aval, ho, h1, h3]
  | field t x f => simp only [compOp, ho]; exact does_op1 hs fun ρ u v h1 h3 => by simp only [aval, ho, h1, h3]
  | extract x i => simp only [compOp, ho]; exact does_op1 hs fun ρ u v h1 h3 => by simp only [aval, ho, h1, h3]
  | nilCheck x => simp only [compOp, ho]; exact does_op1 hs fun ρ u v h1 h3 => by simp only [aval, ho, h1, h3]
  | unOp op t x => simp only [compOp, ho]; exact does_op1 hs fun ρ u v h1 h3 => by simp only [aval, ho, h1, h3]
  | pick c a b => simp only [compOp, ho]; exact does_pick hs ho
  | store t x v =>
    simp only [compOp, ho]
    cases ht : tab t with
    | none => exact does_bad
    | some k =>
      cases hd : o.dst with
      | none => exact does_store ho hd ht
      | some d => exact does_eff hs
  | lookup t x k ok => simp only [compOp, ho]; exact does_rd hs
  | alloc t => simp only [compOp, ho]; exact does_alloc hs
  | box t x => simp only [compOp, ho]; exact does_alloc hs
  | buildSlice t n ps => simp only [compOp, ho]; exact does_alloc hs
  | makeMap t r => simp only [compOp, ho]; exact does_alloc hs
  | mapUpdate t m k v => simp only [compOp, ho]; exact does_eff hs
  | insert t m k v => simp only [compOp, ho]; exact does_eff hs
  | convert s d x =>
    simp only [compOp, ho]
    split
    · exact does_rd hs
    · exact does_rd hs
    · exact does_rd hs
    · exact does_alloc hs
    · exact does_val hs
  | makeSlice t l c =>
    simp only [compOp, ho]
    split
    · rename_i e a1 b1 c1 ht
      split
      · rename_i dk b z he
        rw [toEV_eq]
        exact does_make hs ho ht (dk := dk) (by rw [evOf_val]; exact he)
      · exact does_alloc hs
    · exact does_alloc hs
  | call c =>
    simp only [compOp, ho]
    cases hc : c.callee with
    | value f => exact does_call hs hcall ho hc
    | invoke x n => exact does_bad
    | builtin b =>
      cases b
      case append =>
        dsimp only
        split
        · rename_i t0 t1 a b h1 h2
          split
          · rename_i e a1 b1 c1 e' a2 b2 c2 h3 h4
            split
            · rename_i k hk; exact happ c t0 t1 a b e _ _ _ _ _ _ _ k ho hc h1 h2 h3 h4 hk
            · exact does_bad
          · exact does_eff hs
        · exact does_eff hs
      case copy => exact does_eff hs
      case unsafeString => exact does_eff hs
      case len =>
        dsimp only
        split
        · rename_i a t l h1 h2
          split
          · exact does_rd hs
          · refine does_op1 hs fun ρ u v g1 g2 => ?_
            simp only [aval, ho, hc, h1, evs, g1, abuiltin, h2, g2]
        · exact does_bad
      all_goals exact does_val hs
  | _ => simp only [compOp, ho]; exact does_val hs

/-- what is still asked about append -/
def AppendOK (P : Program) (tab : Tab) : Prop := ∀ (o : Oper) (set : Setter), Sets o.dst set → ∀ c t0 t1 a b e a1 b1 c1 e' a2 b2 c2 k, o.op = .call c → c.callee = .builtin .append → c.argTypes.toList = [t0, t1] → c.args.toList = [a, b] → tab t0 = some ⟨.slice e, a1, b1, c1⟩ → tab t1 = some ⟨.slice e', a2, b2, c2⟩ → tab e = some k →
      Does P tab o (sAppend tab o e k.size k.bytes (compO a) (compO b) set)

theorem compGd_steps {R : Env → Heap → Value → Heap → Prop} {ops : Array Oper} {o : Oper} {comp : Setter → CI} (hd : ∀ set, Sets o.dst set → DoesR R o (sCI tab call (comp set))) : StepsR R N ops o (sCI tab call (compGd N ops o comp)) := by
  have bad : StepsR R N ops o (sCI tab call .bad) := fun e m nx k r h => by cases h
  unfold compGd
  cases hN : okDst N o.dst with
  | false => exact bad
  | true =>
    cases h256 : Nat.ble N 256 with
    | false => exact bad
    | true =>
      simp only [Bool.and_self, cond_true]
      have hlt : ∀ t, o.dst = some t → t < 256 := fun t ht => by
        rw [ht] at hN
        have := Nat.le_of_ble_eq_true h256
        have h2 : t < N := by simpa [okDst] using hN
        exact Nat.lt_of_lt_of_le h2 this
      obtain ⟨set, hs, hk⟩ := setK_sets (γ := CI) hlt
      rw [hk]
      have hd := hd set hs
      cases hg : o.guard with
      | none => exact steps_plain hN hg hd
      | some g =>
        obtain ⟨j, want⟩ := g
        dsimp only
        cases hj : (ops[j]?).bind (·.dst) with
        | none => exact bad
        | some s => exact steps_guard hs hN hg hj hd

theorem compG_steps (hcall : Sound P call) (happ : AppendOK P tab) {ops : Array Oper} {o : Oper} : Steps P tab N ops o (sCI tab call (compG tab N ops o)) :=
  compGd_steps fun set hs => compOp_does hcall hs (happ o set hs)

theorem compP_steps (hcall : Sound P call) {ops : Array Oper} {o : Oper} : StepsR (DidP P o) N ops o (sCI tab call (compP N ops o)) := by
  refine compGd_steps fun set hs => ?_
  have bad : DoesR (DidP P o) o (sCI tab call .bad) := fun e m nx k r h => by cases h
  split
  · rename_i c ho
    split
    · rename_i f hc
      exact does_pcall hs hcall ho hc
    · exact bad
  · exact bad

/-! ### open regions -/
theorem val_did {o : Oper} {ρ : Env} {h h' : Heap} {v : Value} (hk : opKind tab o = .val) (hd : Did P tab o ρ h v h') : aval tab ρ o = some v ∧ h' = h := by
  cases hd with
  | val hv => exact ⟨hv, rfl⟩
  | rd hr _ hv =>
    exfalso
    unfold ard at hr
    split at hr
    · rename_i ho; simp only [opKind, ho] at hk; cases hk
    · rename_i s d x ho
      simp only [opKind, ho] at hk
      split at hr
      · rename_i h1 _ _; rw [h1] at hk; cases hk
      · rename_i h1 h2 _; rw [h1, h2] at hk; cases hk
      · rename_i h1 h2 _; rw [h1, h2] at hk; cases hk
      · cases hr
    · rename_i ho; simp only [opKind, ho] at hk; cases hk
    · rename_i c ho
      simp only [opKind, ho] at hk
      split at hr
      · rename_i t tl n hc ht _
        rw [hc, ht] at hk
        cases hr
        dsimp only at hk
        unfold amaplen at hv
        split at hv
        · split at hv
          · rename_i h1; rw [h1] at hk; cases hk
          · cases hv
        · cases hv
      · cases hr
    · cases hr
  | alloc ha =>
    exfalso
    unfold aalloc at ha
    split at ha <;> rename_i ho <;> simp only [opKind, ho] at hk <;> first | (cases hk; done) | (cases ha; done) | skip
    split at ha
    · rename_i h1 h2 _
      rw [h1, h2] at hk; cases hk
    · cases ha
  | eff ha =>
    exfalso
    unfold aeff at ha
    split at ha <;> rename_i ho <;> simp only [opKind, ho] at hk <;> first | (cases hk; done) | (cases ha; done) | skip
    split at ha
    · rename_i hc _; rw [hc] at hk; cases hk
    · rename_i hc _; rw [hc] at hk; cases hk
    · rename_i hc _; rw [hc] at hk; cases hk
    · cases ha
  | call ha =>
    exfalso
    unfold acallee at ha
    split at ha <;> rename_i ho <;> first | (cases ha; done) | skip
    simp only [opKind, ho] at hk
    split at ha
    · rename_i hc _; rw [hc] at hk; cases hk
    · cases ha
  | yield ha =>
    exfalso
    unfold ayield at ha
    split at ha <;> rename_i ho <;> first | (cases ha; done) | skip
    simp only [opKind, ho] at hk
    split at ha
    · rename_i hc _; rw [hc] at hk; cases hk
    · cases ha

theorem rd_did {o : Oper} {ρ : Env} {h h' : Heap} {v : Value} (hk : opKind tab o = .rd) (hd : Did P tab o ρ h v h') :
    h' = h ∧ (aval tab ρ o = some v ∨ ∃ n f k, ard tab ρ o = some (n, f) ∧ h.get n = some k ∧ f k = some v) := by
  cases hd with
  | val hv => exact ⟨rfl, .inl hv⟩
  | rd hr hn hv => exact ⟨rfl, .inr ⟨_, _, _, hr, hn, hv⟩⟩
  | alloc ha =>
    exfalso
    unfold aalloc at ha
    split at ha <;> rename_i ho <;> simp only [opKind, ho] at hk <;> first | (cases hk; done) | (cases ha; done) | skip
    split at ha
    · rename_i h1 h2 _
      rw [h1, h2] at hk; cases hk
    · cases ha
  | eff ha =>
    exfalso
    unfold aeff at ha
    split at ha <;> rename_i ho <;> simp only [opKind, ho] at hk <;> first | (cases hk; done) | (cases ha; done) | skip
    split at ha
    · rename_i hc _; rw [hc] at hk; cases hk
    · rename_i hc _; rw [hc] at hk; cases hk
    · rename_i hc _; rw [hc] at hk; cases hk
    · cases ha
  | call ha =>
    exfalso
    unfold acallee at ha
    split at ha <;> rename_i ho <;> first | (cases ha; done) | skip
    simp only [opKind, ho] at hk
    split at ha
    · rename_i hc _; rw [hc] at hk; cases hk
    · cases ha
  | yield ha =>
    exfalso
    unfold ayield at ha
    split at ha <;> rename_i ho <;> first | (cases ha; done) | skip
    simp only [opKind, ho] at hk
    split at ha
    · rename_i hc _; rw [hc] at hk; cases hk
    · cases ha

theorem alloc_did {o : Oper} {ρ : Env} {h h' : Heap} {v : Value} (hk : opKind tab o = .alloc) (hd : Did P tab o ρ h v h') : (∀ n k, h.get n = some k → h.next ≤ n → False) → ∀ n k, h.get n = some k → h'.get n = some k := by
  intro hf n k hn
  cases hd with
  | val hv => exact hn
  | rd hr _ hv => exact hn
  | alloc ha =>
    have : n ≠ h.next := fun e => hf n k hn (by omega)
    rw [Heap.set_ne _ _ this]; exact hn
  | eff ha =>
    exfalso
    unfold aeff at ha
    split at ha <;> rename_i ho <;> simp only [opKind, ho] at hk <;> first | (cases hk; done) | (cases ha; done) | skip
    split at ha
    · rename_i hc _; rw [hc] at hk; cases hk
    · rename_i hc _; rw [hc] at hk; cases hk
    · rename_i hc _; rw [hc] at hk; cases hk
    · cases ha
  | call ha =>
    exfalso
    unfold acallee at ha
    split at ha <;> rename_i ho <;> first | (cases ha; done) | skip
    simp only [opKind, ho] at hk
    split at ha
    · rename_i hc _; rw [hc] at hk; cases hk
    · cases ha
  | yield ha =>
    exfalso
    unfold ayield at ha
    split at ha <;> rename_i ho <;> first | (cases ha; done) | skip
    simp only [opKind, ho] at hk
    split at ha
    · rename_i hc _; rw [hc] at hk; cases hk
    · cases ha

theorem runs_region (hg : Good P tab) (hcall : Sound P call) (happ : AppendOK P tab) {id : Nat} {ops : Array Oper} : Runs P N (.region id ops false) (sOps tab call (ops.toList.map (compG tab N ops))) := by
  intro e m nx r h
  have hx : At r .normal = (At r) .normal := rfl
  refine awp_region hg ?_
  exact ops_run ops.toList (fun o _ => compG_steps hcall happ) e m nx r h
end
end Go.Mir

