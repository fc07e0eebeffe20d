/- From a walk at the empty heap to what a statement asks. By a session's own hand. -/
import Derived.Test.YtlpenkjkggopiaaGreatWF
import Derived.WalkKit
import Derived.ProofKit
import Derived.SizedLaws
import Derived.OpenShut
set_option linter.unusedSimpArgs false
set_option linter.unusedVariables false
namespace Go.Mir
open Go.ChangeShapes Go.WideShapes Go.ChangeAt Go.RowKit

theorem calls_of_pure {P : Program} {f : FuncId} {args : Array Value} {v : Value} (hc : APure P f args v) (ha : closed (.tuple args) = true) (hv : closed v = true) (w : World) :
    Calls P f args w fun e w' => e = .returned v ∧ (∀ (b : Nat) (o : Obj), w.heap[b]? = some o → w'.heap[b]? = some o) ∧ (w'.os, w'.output) = (w.os, w.output) := by
  have hrel : HRel ⟨fun b => (w.heap[b]?).map fun o => (o, true), (w.os, w.output)⟩ (fun _ => none) h00 w := by
    refine ⟨fun n => ⟨fun _ => rfl, fun _ => rfl⟩, fun _ _ => rfl, fun n l k h1 => (by cases h1), fun n m l l' k k' _ h1 => (by cases h1), fun b o hb => ?_, fun b o hb n l k h1 => (by cases h1), rfl⟩
    simp only at hb
    cases hq : w.heap[b]? with
    | none => rw [hq] at hb; cases hb
    | some o' => rw [hq] at hb; cases hb; rfl
  refine (hc h00 _ _ args w hrel (rel_closed _ ha)).mono ?_
  rintro e w' ⟨u, v', r', h', rfl, ⟨rfl, _⟩, hvr, _, _, hrel'⟩
  have e1 := closed_eq hv hvr
  subst e1
  exact ⟨rfl, fun b o hb => hrel'.safe b (o, true) (by simp only [hb, Option.map_some]), hrel'.ext⟩

theorem kept_of_old {W W' : World} (hb : ∀ (b : Nat) (o : Obj), W.heap[b]? = some o → W'.heap[b]? = some o) (ex : (W'.os, W'.output) = (W.os, W.output)) (may : MemPlace → Prop) : W.keptBut W' may := by
  refine ⟨congrArg Prod.fst ex, congrArg Prod.snd ex, fun i hi => ?_⟩
  obtain ⟨o, e⟩ : ∃ o, W.heap[i]? = some o := ⟨W.heap[i], by simp [hi]⟩
  rw [hb _ _ e, e]
  cases o <;> simp

section
variable {H : Type} {enc : TypeId × Value → H} {P : Program}
/-- nothing is read out of the memory -/
theorem post_plain {f : Func} {s : ChangeSpec} {apart fresh handsOn again : Bool} {W W' : World} {args : Array Value} {v : Value} {ds gs : List (DataW H)}
    (hW : DataW.Whole enc P f.params.toList s.vars apart W args.toList ds gs [])
    (hres : ∀ (b : Nat) (sp : Nat → Bool) (hd : Bool), DataW.TrodAll enc P W' b sp hd f.resultTypes.toList (v.resultList f.resultTypes.size) (s.fn H (ds ++ gs)).results [])
    (hargs : ∀ sp : Nat → Bool, DataW.TrodAll enc P W' 0 sp true f.params.toList args.toList (s.fn H (ds ++ gs)).args [])
    (hvars : ∀ sp : Nat → Bool, DataW.TrodVars enc P W' sp s.vars (s.fn H (ds ++ gs)).vars [])
    (hk : ∀ may, W.keptBut W' may)
    (hok : ∀ (j : Nat) (t : TypeId) (r : Value), f.resultTypes[j]? = some t → (v.resultList f.resultTypes.size)[j]? = some r → Value.okWide P W' .any 0 t r) :
    s.post enc P f apart fresh handsOn again W args v W' := by
  refine ⟨ds, gs, [], [], [], [], hW, hres _ _ _, hargs _, hvars _, hk _, fun _ => ?_⟩
  refine ⟨hok, _, _, ([] ++ []) ++ [], ⟨[] ++ [], [], trodAll_append (hargs _) (hres _ _ _), hvars _, rfl, ?_, ?_⟩, ?_⟩
  · intro b off hp
    simp at hp
  · intro _
    simp
  · intro p hp _
    simp at hp
end
end Go.Mir

