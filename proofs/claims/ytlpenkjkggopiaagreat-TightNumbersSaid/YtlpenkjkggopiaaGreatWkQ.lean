/- The examples in the laws hold. By a session's own hand. -/
import Derived.Test.YtlpenkjkggopiaaGreatKnQ
import Derived.Test.YtlpenkjkggopiaaGreatWF
set_option linter.unusedSimpArgs false
set_option linter.unusedVariables false
namespace Go.Mir
open Go.Proofs
set_option maxRecDepth 100000
theorem apure_of_holds {P : Program} {p : KE} (hf : isFn P p.g = true) (hp : p.holds P) : APure P p.g (p.args.map EV.val).toArray p.v.val := fun h => acall_of_x hf (hp h)
theorem w20 : checkE (runQ kn3) ⟨27, [], .bool true⟩ = true := by kernel_rfl
theorem works20 : APure P0 27 #[] (.bool true) := apure_of_holds (p := ⟨27, [], .bool true⟩) (by kernel_rfl) (checkE_ok (runQ_sound kn3_sound) w20)
theorem w19 : checkE (runQ kn3) ⟨11, [], .bool true⟩ = true := by kernel_rfl
theorem works19 : APure P0 11 #[] (.bool true) := apure_of_holds (p := ⟨11, [], .bool true⟩) (by kernel_rfl) (checkE_ok (runQ_sound kn3_sound) w19)
end Go.Mir

