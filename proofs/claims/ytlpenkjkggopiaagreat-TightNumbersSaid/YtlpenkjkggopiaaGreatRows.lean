/-
  No cell of these rows narrows 'for every input' (looked for: loops, veiled, ifaces, maps, wideKeys, modest, calm, conditions, laid).
  DERIVED. THE GIVEN ROWS OF THIS SEAT. 8 by the template 'for every input the law returns true; each argument reads behind the call as it read before'; 0 by the template 'total and deterministic' (their statements: YtlpenkjkggopiaaGreatTotals.lean).
  GIVEN WITH THE SEED: the statements are not yours to turn. If you find one false, say at which input.
  Laid BY PROGRAM, IN A SANDBOX (cutbox-rows.mjs): the forced cells as the released guide's own fill.sh prints them over the translation 1f46c40b66404ddc… (all of the seat's roots in one cut). By AI agents, Wed Nov 11 2026. No macro, syntax, notation, axiom, sorry.
-/
import Derived.Test.YtlpenkjkggopiaaGreatChecked
import GoSem.Claim
import GoSem.ClaimJoined
import GoSem.ClaimMapViews
import Derived.JoinedTies
import Derived.KernelRfl
namespace Go.Proofs.YtlpenkjkggopiaaGreat
/- THE CELL 'sum', in the pinned program and in every row, IS THE sha256 OF THE DUMP (.gsa) THAT YtlpenkjkggopiaaGreatProg.lean LOADS. Nothing in Lean hashes anything: it is a label: what it is worth is what the hold of that sum in a sandbox is worth. -/
noncomputable def Tryz.pinned : Pinned := { name := "ytlpenkjkggopiaagreat", sum := "1f46c40b66404ddce7a8428b63456da88bbde22a2d13029faa1bcd2bcf916b28", checked := Tryz.checked }
namespace Rows
def none {H : Type} : Left H := { results := [], args := [] }

/-- 'miradorlaw19.ZrleUnpacks': WHATEVER THE INPUT: true; the input reads as it did. -/
def zrleUnpacksSpec : ChangeSpec := { name := "zrleUnpacks", fn := fun _ => fun
  | [d1, d2, d3, d4] => { results := [.lit (.bool true)], args := [d1, d2, d3, d4] }
  | _ => none }
def zrleUnpacksRow : OpenClaim := { program := "ytlpenkjkggopiaagreat", sum := "1f46c40b66404ddce7a8428b63456da88bbde22a2d13029faa1bcd2bcf916b28", func := "mirador/miradorlaw19.ZrleUnpacks", spec := "zrleUnpacks", inPlace := ["internal/abi.NoEscape", "internal/bytealg.MakeNoZero"], unfollowed := true, recurses := true, apart := false }
def ZrleUnpacksSaid : Prop := zrleUnpacksRow.holds Tryz.pinned (OpenSpec.ofChange zrleUnpacksSpec)

/-- ITS FALSE NEIGHBOUR: 'it returns false'. Refute it at one input. -/
def zrleUnpacksWrong : ChangeSpec := { name := "zrleUnpacks", fn := fun _ => fun
  | [d1, d2, d3, d4] => { results := [.lit (.bool false)], args := [d1, d2, d3, d4] }
  | _ => none }
def ZrleUnpacksWrongFalsely : Prop := zrleUnpacksRow.holds Tryz.pinned (OpenSpec.ofChange zrleUnpacksWrong)

/-- 'miradorlaw19.ZrlePacks': WHATEVER THE INPUT: true; the input reads as it did. -/
def zrlePacksSpec : ChangeSpec := { name := "zrlePacks", fn := fun _ => fun
  | [d1, d2, d3, d4] => { results := [.lit (.bool true)], args := [d1, d2, d3, d4] }
  | _ => none }
def zrlePacksRow : OpenClaim := { program := "ytlpenkjkggopiaagreat", sum := "1f46c40b66404ddce7a8428b63456da88bbde22a2d13029faa1bcd2bcf916b28", func := "mirador/miradorlaw19.ZrlePacks", spec := "zrlePacks", inPlace := ["internal/abi.NoEscape", "internal/bytealg.MakeNoZero"], unfollowed := true, recurses := true, apart := false }
def ZrlePacksSaid : Prop := zrlePacksRow.holds Tryz.pinned (OpenSpec.ofChange zrlePacksSpec)

/-- ITS FALSE NEIGHBOUR: 'it returns false'. Refute it at one input. -/
def zrlePacksWrong : ChangeSpec := { name := "zrlePacks", fn := fun _ => fun
  | [d1, d2, d3, d4] => { results := [.lit (.bool false)], args := [d1, d2, d3, d4] }
  | _ => none }
def ZrlePacksWrongFalsely : Prop := zrlePacksRow.holds Tryz.pinned (OpenSpec.ofChange zrlePacksWrong)

/-- 'miradorlaw19.ZrleOne': WHATEVER THE INPUT: true; the input reads as it did. -/
def zrleOneSpec : ChangeSpec := { name := "zrleOne", fn := fun _ => fun
  | [d1, d2, d3, d4] => { results := [.lit (.bool true)], args := [d1, d2, d3, d4] }
  | _ => none }
def zrleOneRow : OpenClaim := { program := "ytlpenkjkggopiaagreat", sum := "1f46c40b66404ddce7a8428b63456da88bbde22a2d13029faa1bcd2bcf916b28", func := "mirador/miradorlaw19.ZrleOne", spec := "zrleOne", inPlace := ["internal/abi.NoEscape", "internal/bytealg.MakeNoZero"], unfollowed := true, recurses := true, apart := false }
def ZrleOneSaid : Prop := zrleOneRow.holds Tryz.pinned (OpenSpec.ofChange zrleOneSpec)

/-- ITS FALSE NEIGHBOUR: 'it returns false'. Refute it at one input. -/
def zrleOneWrong : ChangeSpec := { name := "zrleOne", fn := fun _ => fun
  | [d1, d2, d3, d4] => { results := [.lit (.bool false)], args := [d1, d2, d3, d4] }
  | _ => none }
def ZrleOneWrongFalsely : Prop := zrleOneRow.holds Tryz.pinned (OpenSpec.ofChange zrleOneWrong)

/-- 'miradorlaw19.ZrleBack': WHATEVER THE INPUT: true; the input reads as it did. -/
def zrleBackSpec : ChangeSpec := { name := "zrleBack", fn := fun _ => fun
  | [d1, d2, d3, d4, d5, d6] => { results := [.lit (.bool true)], args := [d1, d2, d3, d4, d5, d6] }
  | _ => none }
def zrleBackRow : OpenClaim := { program := "ytlpenkjkggopiaagreat", sum := "1f46c40b66404ddce7a8428b63456da88bbde22a2d13029faa1bcd2bcf916b28", func := "mirador/miradorlaw19.ZrleBack", spec := "zrleBack", inPlace := ["internal/abi.NoEscape", "internal/bytealg.MakeNoZero"], unfollowed := true, recurses := true, apart := false }
def ZrleBackSaid : Prop := zrleBackRow.holds Tryz.pinned (OpenSpec.ofChange zrleBackSpec)

/-- ITS FALSE NEIGHBOUR: 'it returns false'. Refute it at one input. -/
def zrleBackWrong : ChangeSpec := { name := "zrleBack", fn := fun _ => fun
  | [d1, d2, d3, d4, d5, d6] => { results := [.lit (.bool false)], args := [d1, d2, d3, d4, d5, d6] }
  | _ => none }
def ZrleBackWrongFalsely : Prop := zrleBackRow.holds Tryz.pinned (OpenSpec.ofChange zrleBackWrong)

/-- 'miradorlaw19.ZrleParts': WHATEVER THE INPUT: true; the input reads as it did. -/
def zrlePartsSpec : ChangeSpec := { name := "zrleParts", fn := fun _ => fun
  | [d1, d2, d3, d4, d5] => { results := [.lit (.bool true)], args := [d1, d2, d3, d4, d5] }
  | _ => none }
def zrlePartsRow : OpenClaim := { program := "ytlpenkjkggopiaagreat", sum := "1f46c40b66404ddce7a8428b63456da88bbde22a2d13029faa1bcd2bcf916b28", func := "mirador/miradorlaw19.ZrleParts", spec := "zrleParts", inPlace := ["internal/abi.NoEscape", "internal/bytealg.MakeNoZero"], unfollowed := true, recurses := true, apart := false }
def ZrlePartsSaid : Prop := zrlePartsRow.holds Tryz.pinned (OpenSpec.ofChange zrlePartsSpec)

/-- ITS FALSE NEIGHBOUR: 'it returns false'. Refute it at one input. -/
def zrlePartsWrong : ChangeSpec := { name := "zrleParts", fn := fun _ => fun
  | [d1, d2, d3, d4, d5] => { results := [.lit (.bool false)], args := [d1, d2, d3, d4, d5] }
  | _ => none }
def ZrlePartsWrongFalsely : Prop := zrlePartsRow.holds Tryz.pinned (OpenSpec.ofChange zrlePartsWrong)

/-- 'miradorlaw20.TightNumbers': WHATEVER THE INPUT: true; the input reads as it did. -/
def tightNumbersSpec : ChangeSpec := { name := "tightNumbers", fn := fun _ => fun
  | [d1, d2] => { results := [.lit (.bool true)], args := [d1, d2] }
  | _ => none }
def tightNumbersRow : OpenClaim := { program := "ytlpenkjkggopiaagreat", sum := "1f46c40b66404ddce7a8428b63456da88bbde22a2d13029faa1bcd2bcf916b28", func := "mirador/miradorlaw20.TightNumbers", spec := "tightNumbers", inPlace := ["internal/abi.NoEscape"], unfollowed := true, recurses := true, apart := false }
def TightNumbersSaid : Prop := tightNumbersRow.holds Tryz.pinned (OpenSpec.ofChange tightNumbersSpec)

/-- ITS FALSE NEIGHBOUR: 'it returns false'. Refute it at one input. -/
def tightNumbersWrong : ChangeSpec := { name := "tightNumbers", fn := fun _ => fun
  | [d1, d2] => { results := [.lit (.bool false)], args := [d1, d2] }
  | _ => none }
def TightNumbersWrongFalsely : Prop := tightNumbersRow.holds Tryz.pinned (OpenSpec.ofChange tightNumbersWrong)

/-- 'miradorlaw20.TightBack': WHATEVER THE INPUT: true; the input reads as it did. -/
def tightBackSpec : ChangeSpec := { name := "tightBack", fn := fun _ => fun
  | [d1, d2, d3, d4, d5, d6] => { results := [.lit (.bool true)], args := [d1, d2, d3, d4, d5, d6] }
  | _ => none }
def tightBackRow : OpenClaim := { program := "ytlpenkjkggopiaagreat", sum := "1f46c40b66404ddce7a8428b63456da88bbde22a2d13029faa1bcd2bcf916b28", func := "mirador/miradorlaw20.TightBack", spec := "tightBack", inPlace := ["internal/abi.NoEscape"], unfollowed := true, recurses := true, apart := false }
def TightBackSaid : Prop := tightBackRow.holds Tryz.pinned (OpenSpec.ofChange tightBackSpec)

/-- ITS FALSE NEIGHBOUR: 'it returns false'. Refute it at one input. -/
def tightBackWrong : ChangeSpec := { name := "tightBack", fn := fun _ => fun
  | [d1, d2, d3, d4, d5, d6] => { results := [.lit (.bool false)], args := [d1, d2, d3, d4, d5, d6] }
  | _ => none }
def TightBackWrongFalsely : Prop := tightBackRow.holds Tryz.pinned (OpenSpec.ofChange tightBackWrong)

/-- 'miradorlaw20.TightSame': WHATEVER THE INPUT: true; the input reads as it did. -/
def tightSameSpec : ChangeSpec := { name := "tightSame", fn := fun _ => fun
  | [d1, d2, d3, d4, d5] => { results := [.lit (.bool true)], args := [d1, d2, d3, d4, d5] }
  | _ => none }
def tightSameRow : OpenClaim := { program := "ytlpenkjkggopiaagreat", sum := "1f46c40b66404ddce7a8428b63456da88bbde22a2d13029faa1bcd2bcf916b28", func := "mirador/miradorlaw20.TightSame", spec := "tightSame", inPlace := ["internal/abi.NoEscape"], unfollowed := true, recurses := true, apart := false }
def TightSameSaid : Prop := tightSameRow.holds Tryz.pinned (OpenSpec.ofChange tightSameSpec)

/-- ITS FALSE NEIGHBOUR: 'it returns false'. Refute it at one input. -/
def tightSameWrong : ChangeSpec := { name := "tightSame", fn := fun _ => fun
  | [d1, d2, d3, d4, d5] => { results := [.lit (.bool false)], args := [d1, d2, d3, d4, d5] }
  | _ => none }
def TightSameWrongFalsely : Prop := tightSameRow.holds Tryz.pinned (OpenSpec.ofChange tightSameWrong)

/- THE SECOND FORM. 'bulk': how many values and letters a reading holds, each counted each time it is reached (what is shared counts as often as it is met; a slice's spare places count too). A statement '..UptoSaid' is the law's where the arguments, and the package variables that the reading takes, are together of bulk at most 1048576: NARROWER than '..Said'. Prove '..Said' where nothing that the law and all that it calls make is longer than what came in: it says more and counts as full. Else prove '..UptoSaid'. A law counts once. -/
mutual
def uptoBulk {H : Type} : DataW H → Nat
  | .lit (.string bytes) => bytes.length + 1
  | .lit _ => 1
  | .nil => 1
  | .ptr d => uptoBulk d + 1
  | .slice elems spare => uptoBulkAll elems + uptoBulkAll spare + 1
  | .agg parts => uptoBulkAll parts + 1
  | .iface _ d => uptoBulk d + 1
  | .map entries => uptoBulkEntries entries + 1
  | .held _ => 1
def uptoBulkAll {H : Type} : List (DataW H) → Nat
  | [] => 0
  | d :: r => uptoBulk d + uptoBulkAll r
def uptoBulkEntries {H : Type} : List (Lit × DataW H) → Nat
  | [] => 0
  | x :: r => uptoBulkEntry x + uptoBulkEntries r
def uptoBulkEntry {H : Type} : Lit × DataW H → Nat
  | (.string bytes, d) => bytes.length + uptoBulk d + 1
  | (_, d) => uptoBulk d + 1
 end
def uptoSmall : (H : Type) → List (DataW H) → Bool := fun _ ds => decide (uptoBulkAll ds ≤ 1048576)
def OpenSpec.upto (s : _root_.Go.ChangeSpec) : _root_.Go.OpenSpec := { _root_.Go.OpenSpec.ofChange s with cond := some uptoSmall }

/-- 'miradorlaw19.ZrleUnpacks', WHERE WHAT IT READS IS OF BULK AT MOST 1048576: true; the input reads as it did. -/
def zrleUnpacksUptoRow : OpenClaim := { program := "ytlpenkjkggopiaagreat", sum := "1f46c40b66404ddce7a8428b63456da88bbde22a2d13029faa1bcd2bcf916b28", func := "mirador/miradorlaw19.ZrleUnpacks", spec := "zrleUnpacks", inPlace := ["internal/abi.NoEscape", "internal/bytealg.MakeNoZero"], unfollowed := true, recurses := true, apart := false, narrowed := true }
def ZrleUnpacksUptoSaid : Prop := zrleUnpacksUptoRow.holds Tryz.pinned (OpenSpec.upto zrleUnpacksSpec)

/-- 'miradorlaw19.ZrlePacks', WHERE WHAT IT READS IS OF BULK AT MOST 1048576: true; the input reads as it did. -/
def zrlePacksUptoRow : OpenClaim := { program := "ytlpenkjkggopiaagreat", sum := "1f46c40b66404ddce7a8428b63456da88bbde22a2d13029faa1bcd2bcf916b28", func := "mirador/miradorlaw19.ZrlePacks", spec := "zrlePacks", inPlace := ["internal/abi.NoEscape", "internal/bytealg.MakeNoZero"], unfollowed := true, recurses := true, apart := false, narrowed := true }
def ZrlePacksUptoSaid : Prop := zrlePacksUptoRow.holds Tryz.pinned (OpenSpec.upto zrlePacksSpec)

/-- 'miradorlaw19.ZrleOne', WHERE WHAT IT READS IS OF BULK AT MOST 1048576: true; the input reads as it did. -/
def zrleOneUptoRow : OpenClaim := { program := "ytlpenkjkggopiaagreat", sum := "1f46c40b66404ddce7a8428b63456da88bbde22a2d13029faa1bcd2bcf916b28", func := "mirador/miradorlaw19.ZrleOne", spec := "zrleOne", inPlace := ["internal/abi.NoEscape", "internal/bytealg.MakeNoZero"], unfollowed := true, recurses := true, apart := false, narrowed := true }
def ZrleOneUptoSaid : Prop := zrleOneUptoRow.holds Tryz.pinned (OpenSpec.upto zrleOneSpec)

/-- 'miradorlaw19.ZrleBack', WHERE WHAT IT READS IS OF BULK AT MOST 1048576: true; the input reads as it did. -/
def zrleBackUptoRow : OpenClaim := { program := "ytlpenkjkggopiaagreat", sum := "1f46c40b66404ddce7a8428b63456da88bbde22a2d13029faa1bcd2bcf916b28", func := "mirador/miradorlaw19.ZrleBack", spec := "zrleBack", inPlace := ["internal/abi.NoEscape", "internal/bytealg.MakeNoZero"], unfollowed := true, recurses := true, apart := false, narrowed := true }
def ZrleBackUptoSaid : Prop := zrleBackUptoRow.holds Tryz.pinned (OpenSpec.upto zrleBackSpec)

/-- 'miradorlaw19.ZrleParts', WHERE WHAT IT READS IS OF BULK AT MOST 1048576: true; the input reads as it did. -/
def zrlePartsUptoRow : OpenClaim := { program := "ytlpenkjkggopiaagreat", sum := "1f46c40b66404ddce7a8428b63456da88bbde22a2d13029faa1bcd2bcf916b28", func := "mirador/miradorlaw19.ZrleParts", spec := "zrleParts", inPlace := ["internal/abi.NoEscape", "internal/bytealg.MakeNoZero"], unfollowed := true, recurses := true, apart := false, narrowed := true }
def ZrlePartsUptoSaid : Prop := zrlePartsUptoRow.holds Tryz.pinned (OpenSpec.upto zrlePartsSpec)

/-- 'miradorlaw20.TightNumbers', WHERE WHAT IT READS IS OF BULK AT MOST 1048576: true; the input reads as it did. -/
def tightNumbersUptoRow : OpenClaim := { program := "ytlpenkjkggopiaagreat", sum := "1f46c40b66404ddce7a8428b63456da88bbde22a2d13029faa1bcd2bcf916b28", func := "mirador/miradorlaw20.TightNumbers", spec := "tightNumbers", inPlace := ["internal/abi.NoEscape"], unfollowed := true, recurses := true, apart := false, narrowed := true }
def TightNumbersUptoSaid : Prop := tightNumbersUptoRow.holds Tryz.pinned (OpenSpec.upto tightNumbersSpec)

/-- 'miradorlaw20.TightBack', WHERE WHAT IT READS IS OF BULK AT MOST 1048576: true; the input reads as it did. -/
def tightBackUptoRow : OpenClaim := { program := "ytlpenkjkggopiaagreat", sum := "1f46c40b66404ddce7a8428b63456da88bbde22a2d13029faa1bcd2bcf916b28", func := "mirador/miradorlaw20.TightBack", spec := "tightBack", inPlace := ["internal/abi.NoEscape"], unfollowed := true, recurses := true, apart := false, narrowed := true }
def TightBackUptoSaid : Prop := tightBackUptoRow.holds Tryz.pinned (OpenSpec.upto tightBackSpec)

/-- 'miradorlaw20.TightSame', WHERE WHAT IT READS IS OF BULK AT MOST 1048576: true; the input reads as it did. -/
def tightSameUptoRow : OpenClaim := { program := "ytlpenkjkggopiaagreat", sum := "1f46c40b66404ddce7a8428b63456da88bbde22a2d13029faa1bcd2bcf916b28", func := "mirador/miradorlaw20.TightSame", spec := "tightSame", inPlace := ["internal/abi.NoEscape"], unfollowed := true, recurses := true, apart := false, narrowed := true }
def TightSameUptoSaid : Prop := tightSameUptoRow.holds Tryz.pinned (OpenSpec.upto tightSameSpec)

end Rows
end Go.Proofs.YtlpenkjkggopiaaGreat
