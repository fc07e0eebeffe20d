/- Functions without a body: what the model does there. By a session's own hand. -/
import Derived.Test.YtlpenkjkggopiaaGreatMZ
import Derived.Laws.Externs
import Derived.Lib.MakeNoZero
set_option linter.unusedSimpArgs false
set_option linter.unusedVariables false
namespace Go.Mir
open Go.Proofs

theorem ext_noEscape {P : Program} {f : FuncId} {fn : Func} (hf : P.funcs[f]? = some fn) (hname : (fn.name == "runtime.NumGoroutine") = false) (hb : fn.body.isNone = true) (hn : Extern.findNext fn = none)
    (he : Extern.find fn = some Extern.AbiNoEscape.same) (x : Value) (h : Heap) : AExt P f #[x] h fun u k => u = x ∧ k = h := by
  intro prot r args' w hh ha
  cases ha with
  | tuple hs hx =>
  obtain ⟨l⟩ := args'
  match l, hs with
  | [x'], _ =>
    refine ⟨x, x', r, h, w, ?_, ⟨rfl, rfl⟩, hx 0 (by simp) (by simp), fun _ _ => rfl, Nat.le_refl _, hh⟩
    rw [run_callFunc_extern hf hname hb hn he]
    rfl

theorem x145 (x : Value) (h : Heap) : AExt P0 145 #[x] h fun u k => u = x ∧ k = h :=
  ext_noEscape (fn := Tryz.f145) Tryz.func145 (by kernel_rfl) (by kernel_rfl) (by kernel_rfl) (by kernel_rfl) x h

/-- what is known of the functions without a body -/
noncomputable def knX : Caller := fun q args m nx => Ent.rec (motive := fun _ => Option (EV × MT × Nat)) (fun g => Bool.rec (motive := fun _ => Option (EV × MT × Nat)) none
    (List.rec (motive := fun _ => Option (EV × MT × Nat)) none (fun x l _ => List.rec (motive := fun _ => Option (EV × MT × Nat)) (some (x, m, nx)) (fun _ _ _ => none) l) args) (Nat.beq g 145)) (fun _ => none) (fun _ => none) q

theorem knX_sound : Sound P0 knX := by
  intro q args m nx v m' nx' h
  cases q with
  | yld n => cases h
  | it g => cases h
  | fn g =>
    change Bool.rec (motive := fun _ => Option (EV × MT × Nat)) none (List.rec (motive := fun _ => Option (EV × MT × Nat)) none (fun x l _ => List.rec (motive := fun _ => Option (EV × MT × Nat)) (some (x, m, nx)) (fun _ _ _ => none) l) args) (Nat.beq g 145) = some (v, m', nx') at h
    cases hb : Nat.beq g 145 with
    | false => rw [hb] at h; cases h
    | true =>
      rw [hb] at h
      have := Nat.eq_of_beq_eq_true hb
      subst this
      match args, h with
      | [x], h => cases h; exact .inr (x145 _ _)
end Go.Mir

