/- The orders of this seat's open regions are good. By a session's own hand. -/
import Derived.Test.YtlpenkjkggopiaaGreatMZ
set_option linter.unusedSimpArgs false
set_option linter.unusedVariables false
namespace Go.Mir
open Go.Proofs
set_option maxRecDepth 100000
noncomputable def drawFn (g : Nat) : Bool := match P0.funcs[g]? with
  | some fn => match fn.body with
    | some c => drawsIn tab (ordOf g) fn.ntmps c
    | none => true
  | none => true
noncomputable def drawTo (f : Nat) : Nat → Bool := fun n => Nat.rec (motive := fun _ => Bool) true (fun i ih => Bool.rec (motive := fun _ => Bool) false ih (drawFn (Nat.add f i))) n
theorem draw0 : drawTo 0 60 = true := by kernel_rfl
theorem draw1 : drawTo 60 60 = true := by kernel_rfl
theorem draw2 : drawTo 120 60 = true := by kernel_rfl
theorem draw3 : drawTo 180 60 = true := by kernel_rfl
theorem draw4 : drawTo 240 60 = true := by kernel_rfl
theorem draw5 : drawTo 300 100 = true := by kernel_rfl
theorem nfuncs : Nat.ble P0.funcs.size 400 = true := by kernel_rfl
theorem drawTo_at {f : Nat} : ∀ {n : Nat}, drawTo f n = true → ∀ i, i < n → drawFn (f + i) = true
  | 0, _, i, hi => by omega
  | n + 1, h, i, hi => by
    change Bool.rec (motive := fun _ => Bool) false (drawTo f n) (drawFn (Nat.add f n)) = true at h
    cases hb : drawFn (Nat.add f n) with
    | false => rw [hb] at h; cases h
    | true =>
      rw [hb] at h
      by_cases e : i = n
      · subst e; exact hb
      · exact drawTo_at h i (by omega)
theorem draws : DrawsOK P0 tab ordOf := by
  intro g fn c hf hb
  have hg : g < 400 := by
    have h1 := (Array.getElem?_eq_some_iff.1 hf).1
    have h2 := Nat.le_of_ble_eq_true nfuncs
    omega
  have key : drawFn g = true := by
    by_cases h0 : g < 60
    · have := drawTo_at draw0 g h0; rwa [Nat.zero_add] at this
    by_cases h1 : g < 120
    · have := drawTo_at draw1 (g - 60) (by omega); rwa [show 60 + (g - 60) = g by omega] at this
    by_cases h2 : g < 180
    · have := drawTo_at draw2 (g - 120) (by omega); rwa [show 120 + (g - 120) = g by omega] at this
    by_cases h3 : g < 240
    · have := drawTo_at draw3 (g - 180) (by omega); rwa [show 180 + (g - 180) = g by omega] at this
    by_cases h4 : g < 300
    · have := drawTo_at draw4 (g - 240) (by omega); rwa [show 240 + (g - 240) = g by omega] at this
    · have := drawTo_at draw5 (g - 300) (by omega); rwa [show 300 + (g - 300) = g by omega] at this
  unfold drawFn at key
  rw [hf] at key
  dsimp only at key
  rw [hb] at key
  exact key
end Go.Mir

