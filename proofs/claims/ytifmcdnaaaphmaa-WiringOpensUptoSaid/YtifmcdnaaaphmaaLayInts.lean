/-
  Contracts of the library's functions, laid at this program's numbers: tables of numbers, each body compared by the kernel. No condition.
-/
import Derived.Shelf.Sort.Plain
import Derived.Shelf.Slices.In.SortNone
import Derived.Shelf.Slices.CompactI
import Derived.Ground.Names2Prog
import Derived.Ground.NamesProg
import Derived.Test.YtifmcdnaaaphmaaProg
namespace Go.Proofs
open Go.Shelf
def Try.laySortI_ren : Go.Shelf.Ren := ⟨fun | 189 => 49 | 125 => 73 | 257 => 72 | 128 => 86 | 129 => 87 | 294 => 77 | 295 => 78 | 296 => 79 | 297 => 80 | 298 => 81 | 299 => 82 | 216 => 83 | 300 => 84 | 301 => 85 | 328 => 90 | 329 => 91 | 330 => 92 | 331 => 93 | 332 => 94 | 215 => 95 | 343 => 105 | n => n, fun | 28 => 50 | 3 => 3 | 46 => 112 | 0 => 0 | 51 => 41 | 53 => 22 | 4 => 4 | 183 => 117 | 182 => 116 | 131 => 114 | 5 => 5 | 9 => 9 | 218 => 127 | 222 => 131 | 228 => 140 | 229 => 32 | n => n, fun | n => n⟩
theorem Try.laySortI : Go.Proofs.Lays.n189 Try.prog Try.laySortI_ren := {
  mixed := by kernel_rfl
  f125 := Try.func73.trans (congrArg some (by kernel_rfl))
  f128 := Try.func86.trans (congrArg some (by kernel_rfl))
  f129 := Try.func87.trans (congrArg some (by kernel_rfl))
  f189 := Try.func49.trans (congrArg some (by kernel_rfl))
  f215 := Try.func95.trans (congrArg some (by kernel_rfl))
  f216 := Try.func83.trans (congrArg some (by kernel_rfl))
  f257 := Try.func72.trans (congrArg some (by kernel_rfl))
  f294 := Try.func77.trans (congrArg some (by kernel_rfl))
  f295 := Try.func78.trans (congrArg some (by kernel_rfl))
  f296 := Try.func79.trans (congrArg some (by kernel_rfl))
  f297 := Try.func80.trans (congrArg some (by kernel_rfl))
  f298 := Try.func81.trans (congrArg some (by kernel_rfl))
  f299 := Try.func82.trans (congrArg some (by kernel_rfl))
  f300 := Try.func84.trans (congrArg some (by kernel_rfl))
  f301 := Try.func85.trans (congrArg some (by kernel_rfl))
  f328 := Try.func90.trans (congrArg some (by kernel_rfl))
  f329 := Try.func91.trans (congrArg some (by kernel_rfl))
  f330 := Try.func92.trans (congrArg some (by kernel_rfl))
  f331 := Try.func93.trans (congrArg some (by kernel_rfl))
  f332 := Try.func94.trans (congrArg some (by kernel_rfl))
  f343 := Try.func105.trans (congrArg some (by kernel_rfl))
  t0 := Try.underlying0
  a0 := Try.isAgg0
  z0 := Try.sizeOf0
  v0 := Try.zeroValue0
  t3 := Try.underlying3
  a3 := Try.isAgg3
  z3 := Try.sizeOf3
  v3 := Try.zeroValue3
  t4 := Try.underlying4
  a4 := Try.isAgg4
  z4 := Try.sizeOf4
  v4 := Try.zeroValue4
  t5 := Try.underlying5
  a5 := Try.isAgg5
  z5 := Try.sizeOf5
  v5 := Try.zeroValue5
  t9 := Try.underlying9
  a9 := Try.isAgg9
  z9 := Try.sizeOf9
  v9 := Try.zeroValue9
  t28 := Try.underlying50
  a28 := Try.isAgg50
  z28 := Try.sizeOf50
  v28 := Try.zeroValue50
  t46 := Try.underlying112
  a46 := Try.isAgg112
  z46 := Try.sizeOf112
  v46 := Try.zeroValue112
  t51 := Try.underlying41
  a51 := Try.isAgg41
  z51 := Try.sizeOf41
  v51 := Try.zeroValue41
  t53 := Try.underlying22
  a53 := Try.isAgg22
  z53 := Try.sizeOf22
  v53 := Try.zeroValue22
  t131 := Try.underlying114
  a131 := Try.isAgg114
  z131 := Try.sizeOf114
  v131 := Try.zeroValue114
  t182 := Try.underlying116
  a182 := Try.isAgg116
  z182 := Try.sizeOf116
  v182 := Try.zeroValue116
  t183 := Try.underlying117
  a183 := Try.isAgg117
  z183 := Try.sizeOf117
  v183 := Try.zeroValue117
  t218 := Try.underlying127
  a218 := Try.isAgg127
  z218 := Try.sizeOf127
  v218 := Try.zeroValue127
  t222 := Try.underlying131
  a222 := Try.isAgg131
  z222 := Try.sizeOf131
  v222 := Try.zeroValue131
  t228 := Try.underlying140
  a228 := Try.isAgg140
  z228 := Try.sizeOf140
  v228 := Try.zeroValue140
  t229 := Try.underlying32
  a229 := Try.isAgg32
  z229 := Try.sizeOf32
  v229 := Try.zeroValue32 }
def Try.layCompactI_ren : Go.Shelf.Ren := ⟨fun | 20 => 50 | n => n, fun | 22 => 50 | 3 => 3 | 4 => 4 | 0 => 0 | n => n, fun | n => n⟩
theorem Try.layCompactI : Go.Proofs.Lays2.n20 Try.prog Try.layCompactI_ren := {
  mixed := by kernel_rfl
  f20 := Try.func50.trans (congrArg some (by kernel_rfl))
  t0 := Try.underlying0
  a0 := Try.isAgg0
  z0 := Try.sizeOf0
  v0 := Try.zeroValue0
  t3 := Try.underlying3
  a3 := Try.isAgg3
  z3 := Try.sizeOf3
  v3 := Try.zeroValue3
  t4 := Try.underlying4
  a4 := Try.isAgg4
  z4 := Try.sizeOf4
  v4 := Try.zeroValue4
  t22 := Try.underlying50
  a22 := Try.isAgg50
  z22 := Try.sizeOf50
  v22 := Try.zeroValue50
  i3 := by kernel_rfl }
end Go.Proofs
