/-
  DERIVED: THE SHELF's CONTRACTS AT THIS DUMP, IN PLAIN WORDS (tools/lay-plain.mjs out of 'YtoimfngeoiljeaaShx.lean', which tools/lay-shelf.mjs wrote): THE SAME DECLARATIONS UNDER THE SAME NAMES: 'import', 'namespace', 'open', 'def', 'theorem' AND NOTHING ELSE: no command of the shelf's: FOR A HAND-IN. Each laying: the table of numbers ('.._ren') and one theorem, a field a fact of the dump's own or the kernel's comparison; each contract: ONE APPLICATION.
-/
import Derived.Shelf.Sort.Plain
import Derived.Shelf.Slices.In.SortNone
import Derived.Shelf.Slices.CompactI
import Derived.Ground.Names2Prog
import Derived.Test.YtoimfngeoiljeaaProg
namespace Go.Proofs
open Go.Shelf
def Try.lays189_ren : Go.Shelf.Ren := ⟨fun | 189 => 27 | 125 => 36 | 257 => 35 | 128 => 46 | 129 => 47 | 294 => 37 | 295 => 38 | 296 => 39 | 297 => 40 | 298 => 41 | 299 => 42 | 216 => 43 | 300 => 44 | 301 => 45 | 328 => 48 | 329 => 49 | 330 => 50 | 331 => 51 | 332 => 52 | 215 => 53 | 343 => 54 | n => n, fun | 28 => 28 | 3 => 3 | 46 => 47 | 0 => 0 | 51 => 57 | 53 => 59 | 4 => 4 | 183 => 50 | 182 => 49 | 131 => 54 | 5 => 5 | 9 => 9 | 218 => 60 | 222 => 64 | 228 => 67 | 229 => 68 | n => n, fun | n => n⟩
theorem Try.lays189 : Go.Proofs.Lays.n189 Try.prog Try.lays189_ren := {
  mixed := by kernel_rfl
  f125 := Try.func36.trans (congrArg some (by kernel_rfl))
  f128 := Try.func46.trans (congrArg some (by kernel_rfl))
  f129 := Try.func47.trans (congrArg some (by kernel_rfl))
  f189 := Try.func27.trans (congrArg some (by kernel_rfl))
  f215 := Try.func53.trans (congrArg some (by kernel_rfl))
  f216 := Try.func43.trans (congrArg some (by kernel_rfl))
  f257 := Try.func35.trans (congrArg some (by kernel_rfl))
  f294 := Try.func37.trans (congrArg some (by kernel_rfl))
  f295 := Try.func38.trans (congrArg some (by kernel_rfl))
  f296 := Try.func39.trans (congrArg some (by kernel_rfl))
  f297 := Try.func40.trans (congrArg some (by kernel_rfl))
  f298 := Try.func41.trans (congrArg some (by kernel_rfl))
  f299 := Try.func42.trans (congrArg some (by kernel_rfl))
  f300 := Try.func44.trans (congrArg some (by kernel_rfl))
  f301 := Try.func45.trans (congrArg some (by kernel_rfl))
  f328 := Try.func48.trans (congrArg some (by kernel_rfl))
  f329 := Try.func49.trans (congrArg some (by kernel_rfl))
  f330 := Try.func50.trans (congrArg some (by kernel_rfl))
  f331 := Try.func51.trans (congrArg some (by kernel_rfl))
  f332 := Try.func52.trans (congrArg some (by kernel_rfl))
  f343 := Try.func54.trans (congrArg some (by kernel_rfl))
  t0 := Try.underlying0
  a0 := Try.isAgg0
  z0 := Try.sizeOf0
  v0 := Try.zeroValue0
  t3 := Try.underlying3
  a3 := Try.isAgg3
  z3 := Try.sizeOf3
  v3 := Try.zeroValue3
  t4 := Try.underlying4
  a4 := Try.isAgg4
  z4 := Try.sizeOf4
  v4 := Try.zeroValue4
  t5 := Try.underlying5
  a5 := Try.isAgg5
  z5 := Try.sizeOf5
  v5 := Try.zeroValue5
  t9 := Try.underlying9
  a9 := Try.isAgg9
  z9 := Try.sizeOf9
  v9 := Try.zeroValue9
  t28 := Try.underlying28
  a28 := Try.isAgg28
  z28 := Try.sizeOf28
  v28 := Try.zeroValue28
  t46 := Try.underlying47
  a46 := Try.isAgg47
  z46 := Try.sizeOf47
  v46 := Try.zeroValue47
  t51 := Try.underlying57
  a51 := Try.isAgg57
  z51 := Try.sizeOf57
  v51 := Try.zeroValue57
  t53 := Try.underlying59
  a53 := Try.isAgg59
  z53 := Try.sizeOf59
  v53 := Try.zeroValue59
  t131 := Try.underlying54
  a131 := Try.isAgg54
  z131 := Try.sizeOf54
  v131 := Try.zeroValue54
  t182 := Try.underlying49
  a182 := Try.isAgg49
  z182 := Try.sizeOf49
  v182 := Try.zeroValue49
  t183 := Try.underlying50
  a183 := Try.isAgg50
  z183 := Try.sizeOf50
  v183 := Try.zeroValue50
  t218 := Try.underlying60
  a218 := Try.isAgg60
  z218 := Try.sizeOf60
  v218 := Try.zeroValue60
  t222 := Try.underlying64
  a222 := Try.isAgg64
  z222 := Try.sizeOf64
  v222 := Try.zeroValue64
  t228 := Try.underlying67
  a228 := Try.isAgg67
  z228 := Try.sizeOf67
  v228 := Try.zeroValue67
  t229 := Try.underlying68
  a229 := Try.isAgg68
  z229 := Try.sizeOf68
  v229 := Try.zeroValue68 }
def Try.lays2n20_ren : Go.Shelf.Ren := ⟨fun | 20 => 28 | n => n, fun | 22 => 28 | 3 => 3 | 4 => 4 | 0 => 0 | n => n, fun | n => n⟩
theorem Try.lays2n20 : Go.Proofs.Lays2.n20 Try.prog Try.lays2n20_ren := {
  mixed := by kernel_rfl
  f20 := Try.func28.trans (congrArg some (by kernel_rfl))
  t0 := Try.underlying0
  a0 := Try.isAgg0
  z0 := Try.sizeOf0
  v0 := Try.zeroValue0
  t3 := Try.underlying3
  a3 := Try.isAgg3
  z3 := Try.sizeOf3
  v3 := Try.zeroValue3
  t4 := Try.underlying4
  a4 := Try.isAgg4
  z4 := Try.sizeOf4
  v4 := Try.zeroValue4
  t22 := Try.underlying28
  a22 := Try.isAgg28
  z22 := Try.sizeOf28
  v22 := Try.zeroValue28
  i3 := by kernel_rfl }
end Go.Proofs
