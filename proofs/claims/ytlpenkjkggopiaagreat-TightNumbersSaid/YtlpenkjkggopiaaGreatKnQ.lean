/- What is known of calls of this seat. PRINTED BY wip/tools/kn.py out of a run of wip/tools/Count.lean; each entry is checked by the kernel. -/
import Derived.Test.YtlpenkjkggopiaaGreatXQ
import Derived.Test.YtlpenkjkggopiaaGreatDrQ
import Derived.Test.YtlpenkjkggopiaaGreatMZK
import Derived.KernelRfl
set_option linter.unusedSimpArgs false
set_option linter.unusedVariables false
namespace Go.Mir
open Go.Proofs
set_option maxRecDepth 100000
noncomputable def runQ (kn : Caller) : Caller := runF P0 tab kn ordOf 60
theorem runQ_sound {kn : Caller} (h : Sound P0 kn) : Sound P0 (runQ kn) := runF_sound good does_append h draws 60
noncomputable def kn0 : Caller := knX
theorem kn0_sound : Sound P0 kn0 := knX_sound
def k0_0 : List KE := [⟨328, [.nat 258], .oth (.tuple ⟨[(.int .i64 4), (.int .i64 0)]⟩)⟩,
  ⟨328, [.nat 259], .oth (.tuple ⟨[(.int .i64 5), (.int .i64 0)]⟩)⟩,
  ⟨328, [.nat 260], .oth (.tuple ⟨[(.int .i64 6), (.int .i64 0)]⟩)⟩,
  ⟨328, [.nat 261], .oth (.tuple ⟨[(.int .i64 7), (.int .i64 0)]⟩)⟩,
  ⟨328, [.nat 262], .oth (.tuple ⟨[(.int .i64 8), (.int .i64 0)]⟩)⟩,
  ⟨328, [.nat 263], .oth (.tuple ⟨[(.int .i64 9), (.int .i64 0)]⟩)⟩,
  ⟨328, [.nat 264], .oth (.tuple ⟨[(.int .i64 10), (.int .i64 0)]⟩)⟩,
  ⟨328, [.nat 265], .oth (.tuple ⟨[(.int .i64 11), (.int .i64 1)]⟩)⟩,
  ⟨328, [.nat 266], .oth (.tuple ⟨[(.int .i64 13), (.int .i64 1)]⟩)⟩,
  ⟨328, [.nat 267], .oth (.tuple ⟨[(.int .i64 15), (.int .i64 1)]⟩)⟩,
  ⟨328, [.nat 268], .oth (.tuple ⟨[(.int .i64 17), (.int .i64 1)]⟩)⟩,
  ⟨328, [.nat 269], .oth (.tuple ⟨[(.int .i64 19), (.int .i64 2)]⟩)⟩,
  ⟨328, [.nat 270], .oth (.tuple ⟨[(.int .i64 23), (.int .i64 2)]⟩)⟩,
  ⟨328, [.nat 271], .oth (.tuple ⟨[(.int .i64 27), (.int .i64 2)]⟩)⟩,
  ⟨328, [.nat 272], .oth (.tuple ⟨[(.int .i64 31), (.int .i64 2)]⟩)⟩,
  ⟨328, [.nat 273], .oth (.tuple ⟨[(.int .i64 35), (.int .i64 3)]⟩)⟩,
  ⟨328, [.nat 274], .oth (.tuple ⟨[(.int .i64 43), (.int .i64 3)]⟩)⟩,
  ⟨328, [.nat 275], .oth (.tuple ⟨[(.int .i64 51), (.int .i64 3)]⟩)⟩,
  ⟨328, [.nat 276], .oth (.tuple ⟨[(.int .i64 59), (.int .i64 3)]⟩)⟩,
  ⟨328, [.nat 277], .oth (.tuple ⟨[(.int .i64 67), (.int .i64 4)]⟩)⟩,
  ⟨328, [.nat 278], .oth (.tuple ⟨[(.int .i64 83), (.int .i64 4)]⟩)⟩,
  ⟨328, [.nat 279], .oth (.tuple ⟨[(.int .i64 99), (.int .i64 4)]⟩)⟩,
  ⟨328, [.nat 280], .oth (.tuple ⟨[(.int .i64 115), (.int .i64 4)]⟩)⟩,
  ⟨328, [.nat 281], .oth (.tuple ⟨[(.int .i64 131), (.int .i64 5)]⟩)⟩,
  ⟨328, [.nat 282], .oth (.tuple ⟨[(.int .i64 163), (.int .i64 5)]⟩)⟩,
  ⟨328, [.nat 283], .oth (.tuple ⟨[(.int .i64 195), (.int .i64 5)]⟩)⟩,
  ⟨328, [.nat 284], .oth (.tuple ⟨[(.int .i64 227), (.int .i64 5)]⟩)⟩]
theorem k0_0_ok : checkEs (runQ kn0) k0_0 = true := by kernel_rfl
def k0_1 : List KE := [⟨329, [.nat 2], .oth (.tuple ⟨[(.int .i64 3), (.int .i64 0)]⟩)⟩,
  ⟨329, [.nat 3], .oth (.tuple ⟨[(.int .i64 4), (.int .i64 0)]⟩)⟩,
  ⟨329, [.nat 4], .oth (.tuple ⟨[(.int .i64 5), (.int .i64 1)]⟩)⟩,
  ⟨329, [.nat 5], .oth (.tuple ⟨[(.int .i64 7), (.int .i64 1)]⟩)⟩,
  ⟨329, [.nat 6], .oth (.tuple ⟨[(.int .i64 9), (.int .i64 2)]⟩)⟩,
  ⟨329, [.nat 7], .oth (.tuple ⟨[(.int .i64 13), (.int .i64 2)]⟩)⟩,
  ⟨329, [.nat 8], .oth (.tuple ⟨[(.int .i64 17), (.int .i64 3)]⟩)⟩,
  ⟨329, [.nat 9], .oth (.tuple ⟨[(.int .i64 25), (.int .i64 3)]⟩)⟩,
  ⟨329, [.nat 10], .oth (.tuple ⟨[(.int .i64 33), (.int .i64 4)]⟩)⟩,
  ⟨329, [.nat 11], .oth (.tuple ⟨[(.int .i64 49), (.int .i64 4)]⟩)⟩,
  ⟨329, [.nat 12], .oth (.tuple ⟨[(.int .i64 65), (.int .i64 5)]⟩)⟩,
  ⟨329, [.nat 13], .oth (.tuple ⟨[(.int .i64 97), (.int .i64 5)]⟩)⟩,
  ⟨329, [.nat 14], .oth (.tuple ⟨[(.int .i64 129), (.int .i64 6)]⟩)⟩,
  ⟨329, [.nat 15], .oth (.tuple ⟨[(.int .i64 193), (.int .i64 6)]⟩)⟩,
  ⟨329, [.nat 16], .oth (.tuple ⟨[(.int .i64 257), (.int .i64 7)]⟩)⟩,
  ⟨329, [.nat 17], .oth (.tuple ⟨[(.int .i64 385), (.int .i64 7)]⟩)⟩,
  ⟨329, [.nat 18], .oth (.tuple ⟨[(.int .i64 513), (.int .i64 8)]⟩)⟩,
  ⟨329, [.nat 19], .oth (.tuple ⟨[(.int .i64 769), (.int .i64 8)]⟩)⟩,
  ⟨329, [.nat 20], .oth (.tuple ⟨[(.int .i64 1025), (.int .i64 9)]⟩)⟩,
  ⟨329, [.nat 21], .oth (.tuple ⟨[(.int .i64 1537), (.int .i64 9)]⟩)⟩,
  ⟨329, [.nat 22], .oth (.tuple ⟨[(.int .i64 2049), (.int .i64 10)]⟩)⟩,
  ⟨329, [.nat 23], .oth (.tuple ⟨[(.int .i64 3073), (.int .i64 10)]⟩)⟩,
  ⟨329, [.nat 24], .oth (.tuple ⟨[(.int .i64 4097), (.int .i64 11)]⟩)⟩,
  ⟨329, [.nat 25], .oth (.tuple ⟨[(.int .i64 6145), (.int .i64 11)]⟩)⟩,
  ⟨329, [.nat 26], .oth (.tuple ⟨[(.int .i64 8193), (.int .i64 12)]⟩)⟩,
  ⟨329, [.nat 27], .oth (.tuple ⟨[(.int .i64 12289), (.int .i64 12)]⟩)⟩,
  ⟨329, [.nat 28], .oth (.tuple ⟨[(.int .i64 16385), (.int .i64 13)]⟩)⟩,
  ⟨329, [.nat 29], .oth (.tuple ⟨[(.int .i64 24577), (.int .i64 13)]⟩)⟩]
theorem k0_1_ok : checkEs (runQ kn0) k0_1 = true := by kernel_rfl
noncomputable def kn1 : Caller := knT (ktOf (k0_0 ++ k0_1)) kn0
theorem kn1_sound : Sound P0 kn1 := knT_sound kn0_sound fun p hp => by
  simp only [List.mem_append] at hp
  rcases hp with h | h
  · exact checkEs_ok (runQ_sound kn0_sound) k0_0_ok p h
  · exact checkEs_ok (runQ_sound kn0_sound) k0_1_ok p h
def k1_0 : List KE := [⟨316, [.nat 4], .oth (.tuple ⟨[(.int .i64 258), (.int .i64 0), (.int .i64 0)]⟩)⟩]
theorem k1_0_ok : checkEs (runQ kn1) k1_0 = true := by kernel_rfl
def k1_1 : List KE := [⟨317, [.nat 3], .oth (.tuple ⟨[(.int .i64 2), (.int .i64 0), (.int .i64 0)]⟩)⟩]
theorem k1_1_ok : checkEs (runQ kn1) k1_1 = true := by kernel_rfl
def k1_2 : List KE := [⟨170, [.oth (.string ⟨⟨[73, 69, 78, 68]⟩⟩), .oth (.string ⟨⟨[]⟩⟩)], .nat 2923585666⟩,
  ⟨170, [.oth (.string ⟨⟨[73, 68, 65, 84]⟩⟩), .oth (.string ⟨⟨[120, 156, 99, 100, 96, 0, 33, 0, 0, 19, 0, 4]⟩⟩)], .nat 2243867221⟩,
  ⟨170, [.oth (.string ⟨⟨[73, 72, 68, 82]⟩⟩), .oth (.string ⟨⟨[0, 0, 0, 2, 0, 0, 0, 1, 8, 2, 0, 0, 0]⟩⟩)], .nat 2067851485⟩]
theorem k1_2_ok : checkEs (runQ kn1) k1_2 = true := by kernel_rfl
noncomputable def kn2 : Caller := knT (ktOf (k1_0 ++ k1_1 ++ k1_2)) kn1
theorem kn2_sound : Sound P0 kn2 := knT_sound kn1_sound fun p hp => by
  simp only [List.mem_append] at hp
  rcases hp with (h | h) | h
  · exact checkEs_ok (runQ_sound kn1_sound) k1_0_ok p h
  · exact checkEs_ok (runQ_sound kn1_sound) k1_1_ok p h
  · exact checkEs_ok (runQ_sound kn1_sound) k1_2_ok p h
def k2_0 : List KE := [⟨120, [.oth (.string ⟨⟨[1, 0, 0, 1, 0, 0, 1]⟩⟩)], .oth (.string ⟨⟨[120, 156, 99, 100, 96, 0, 33, 0, 0, 19, 0, 4]⟩⟩)⟩]
theorem k2_0_ok : checkEs (runQ kn2) k2_0 = true := by kernel_rfl
def k2_1 : List KE := [⟨257, [.oth (.string ⟨⟨[120, 156, 99, 100, 96, 0, 33, 0, 0, 19, 0, 4]⟩⟩), .nat 7], .oth (.tuple ⟨[(.string ⟨⟨[1, 0, 0, 1, 0, 0, 1]⟩⟩), (.int .i64 12), (.int .i64 0)]⟩)⟩]
theorem k2_1_ok : checkEs (runQ kn2) k2_1 = true := by kernel_rfl
def k2_2 : List KE := [⟨102, [.oth (.string ⟨⟨[]⟩⟩), .oth (.string ⟨⟨[0, 0, 7]⟩⟩)], .oth (.string ⟨⟨[98, 96, 96, 7, 0, 0, 0, 255, 255]⟩⟩)⟩]
theorem k2_2_ok : checkEs (runQ kn2) k2_2 = true := by kernel_rfl
def k2_3 : List KE := [⟨102, [.oth (.string ⟨⟨[0, 0, 7]⟩⟩), .oth (.string ⟨⟨[1, 7]⟩⟩)], .oth (.string ⟨⟨[98, 100, 7, 0, 0, 0, 255, 255]⟩⟩)⟩]
theorem k2_3_ok : checkEs (runQ kn2) k2_3 = true := by kernel_rfl
def k2_4 : List KE := [⟨185, [.oth (.string ⟨⟨[]⟩⟩), .oth (.string ⟨⟨[98, 96, 96, 7, 0, 0, 0, 255, 255]⟩⟩), .nat 518], .oth (.tuple ⟨[(.string ⟨⟨[0, 0, 7]⟩⟩), (.int .i64 0)]⟩)⟩]
theorem k2_4_ok : checkEs (runQ kn2) k2_4 = true := by kernel_rfl
def k2_5 : List KE := [⟨185, [.oth (.string ⟨⟨[0, 0, 7]⟩⟩), .oth (.string ⟨⟨[98, 100, 7, 0, 0, 0, 255, 255]⟩⟩), .nat 515], .oth (.tuple ⟨[(.string ⟨⟨[1, 7]⟩⟩), (.int .i64 0)]⟩)⟩]
theorem k2_5_ok : checkEs (runQ kn2) k2_5 = true := by kernel_rfl
noncomputable def kn3 : Caller := knT (ktOf (k2_0 ++ k2_1 ++ k2_2 ++ k2_3 ++ k2_4 ++ k2_5)) kn2
theorem kn3_sound : Sound P0 kn3 := knT_sound kn2_sound fun p hp => by
  simp only [List.mem_append] at hp
  rcases hp with ((((h | h) | h) | h) | h) | h
  · exact checkEs_ok (runQ_sound kn2_sound) k2_0_ok p h
  · exact checkEs_ok (runQ_sound kn2_sound) k2_1_ok p h
  · exact checkEs_ok (runQ_sound kn2_sound) k2_2_ok p h
  · exact checkEs_ok (runQ_sound kn2_sound) k2_3_ok p h
  · exact checkEs_ok (runQ_sound kn2_sound) k2_4_ok p h
  · exact checkEs_ok (runQ_sound kn2_sound) k2_5_ok p h
end Go.Mir

