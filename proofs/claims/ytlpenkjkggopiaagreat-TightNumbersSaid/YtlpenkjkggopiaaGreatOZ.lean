/-
  'miradorlaw20.TightNumbers' ANSWERS TRUE FOR EVERY NUMBER AND EVERY TEXT, AND LEAVES BOTH AS THEY WERE. By a session's own hand.
  Conditions: none.
-/
import Derived.Test.YtlpenkjkggopiaaGreatRows
import Derived.Test.YtlpenkjkggopiaaGreatWP
import Derived.Test.YtlpenkjkggopiaaGreatOG
import Derived.Test.YtlpenkjkggopiaaGreatOJ
set_option linter.unusedSimpArgs false
set_option linter.unusedVariables false
namespace Go.Proofs.YtlpenkjkggopiaaGreat.tightNumbers
open Go.ChangeShapes Go.WideShapes Go.ChangeAt Go.RowKit
set_option linter.unusedVariables false

theorem own : ownKnob Tryz.prog.godebug = none := by kernel_rfl

theorem walk (a0 : Int) (a1 : ByteArray) (h1 : a1.size < 2 ^ 61) (w : World) :
    Calls Tryz.prog 8 #[.int .i64 a0, .string a1] w fun e w' => e = .returned (.bool true) ∧ (∀ (b : Nat) (o : Obj), w.heap[b]? = some o → w'.heap[b]? = some o) ∧ (w'.os, w'.output) = (w.os, w.output) :=
  Mir.calls_of_pure (Mir.tightNumbers_p h1) (by simp [Mir.closed, Mir.Value.closed1]) (by simp [Mir.closed, Mir.Value.closed1]) w

set_option maxRecDepth 100000 in
theorem lifted (os : Os) (started : os.Started) (H : Type) (enc : TypeId × Value → H) :
    ReturnsInHanded {} Tryz.checked os 8 .any (Rows.tightNumbersSpec.pre6 enc Tryz.prog Tryz.f8 Rows.tightNumbersRow.domain false) (Rows.tightNumbersSpec.post enc Tryz.prog Tryz.f8 false true false false) := by
  refine returnsInHanded_of_change_sized (C := Tryz.checked) own started (by kernel_rfl) Tryz.func8
    (ChangeSpec.witness6 (enc := enc) (C := Tryz.checked) false ⟨#[], #[.int .i64 0, .string .empty], []⟩ 8 (by kernel_rfl) (by kernel_rfl) (by kernel_rfl) (by kernel_rfl)) ?_
  intro W base args ds gs before hval0 hW _ hsz0 _
  have hsz : (DataW.weightsEach Tryz.prog (Tryz.f8.params.toList ++ Rows.tightNumbersSpec.plain.varTypes Tryz.prog) (ds ++ gs)).all (· ≤ reachBytes) = true := hsz0
  clear hsz0
  have hval : ∀ (j : Nat) t v, Tryz.f8.params[j]? = some t → args[j]? = some v → Value.okWide Tryz.prog W .any base t v := hval0
  have hW' := hW
  obtain ⟨p, q, hA0, hV, rfl, hfz, hnd⟩ := hW
  have hA : DataW.TrodAll enc Tryz.prog W 0 (fun _ => true) true Tryz.f8.params.toList args.toList ds p := hA0
  rw [Tryz.params8] at hA hval hsz
  obtain ⟨v0, vs0, d0, ds0, p0, q0, hargs, rfl, rfl, h0, r0⟩ := trodAll_cons hA
  obtain ⟨v1, vs1, d1, ds1, p1, q1, rfl, rfl, rfl, h1, r1⟩ := trodAll_cons r0
  obtain ⟨rfl, rfl, rfl⟩ := trodAll_nil r1
  obtain rfl : args = #[v0, v1] := by cases args; simp_all
  obtain ⟨rfl, rfl⟩ := trodVars_none hV
  obtain ⟨a0, rfl, rfl, rfl, w0⟩ := open_int Tryz.underlying3 (hval 0 3 v0 rfl rfl) h0
  obtain ⟨a1, rfl, rfl, rfl, w1⟩ := Go.ChangeMaps.open_string Tryz.underlying9 (hval 1 9 v1 rfl rfl) h1
  clear hA0 hval0
  have hlen := sized_string hsz (j := 1) (t := 9) rfl rfl
  have hlen2 : a1.size < 2 ^ 61 := by
    have e : a1.data.toList.length = a1.size := Array.length_toList
    have := reachBytes_lt
    omega
  simp only [List.append_nil] at hW'
  refine (walk a0 a1 hlen2 W).mono fun e W' ⟨he, hold, hext⟩ => ?_
  subst he
  exact ⟨_, rfl, Mir.post_plain hW' (fun _ _ _ => (trodAll_cons_mk (shut_bool Tryz.underlying4 _) trodAll_mk0)) (fun sp => (trodAll_cons_mk (shut_int Tryz.underlying3 w0) (trodAll_cons_mk (Go.ChangeMaps.shut_string Tryz.underlying9 w1) trodAll_mk0))) (fun _ => rfl)
    (Mir.kept_of_old hold hext) (ok_one (by kernel_rfl) rfl (okWide_bool_mk Tryz.underlying4 _))⟩

theorem over : Rows.tightNumbersRow.holds Tryz.pinned (OpenSpec.ofChange Rows.tightNumbersSpec) :=
  OpenClaim.holds_of_wide 8 Tryz.f8 rfl rfl rfl rfl rfl rfl rfl ⟨rfl, rfl, rfl, rfl, rfl⟩ rfl rfl rfl rfl rfl named Tryz.func8 closed isInst isWrap (fun os started H enc _ => lifted os started H enc)

theorem proved : Rows.TightNumbersSaid :=
  over
#print axioms proved
end Go.Proofs.YtlpenkjkggopiaaGreat.tightNumbers

