/-
  Contracts of the library's functions, laid at this program's numbers: tables of numbers, each body compared by the kernel. No condition.
-/
import Derived.Shelf.SortM.Walk7aIn
import Derived.Ground.SlgmProg
import Derived.Test.YtifmcdnaaaphmaaProg
namespace Go.Proofs
open Go.Shelf
def Try.layNpow_ren : Go.Shelf.Ren := ⟨fun | 31 => 91 | 8 => 73 | 19 => 86 | 20 => 87 | n => n, fun | 3 => 3 | 32 => 112 | 44 => 41 | 46 => 22 | 4 => 4 | 5 => 5 | 9 => 9 | n => n, fun | n => n⟩
theorem Try.layNpow : Go.Proofs.SlLaysM.n31 Try.prog Try.layNpow_ren := {
  mixed := by kernel_rfl
  f8 := Try.func73.trans (congrArg some (by kernel_rfl))
  f19 := Try.func86.trans (congrArg some (by kernel_rfl))
  f20 := Try.func87.trans (congrArg some (by kernel_rfl))
  f31 := Try.func91.trans (congrArg some (by kernel_rfl))
  t3 := Try.underlying3
  a3 := Try.isAgg3
  z3 := Try.sizeOf3
  v3 := Try.zeroValue3
  t4 := Try.underlying4
  a4 := Try.isAgg4
  z4 := Try.sizeOf4
  v4 := Try.zeroValue4
  t5 := Try.underlying5
  a5 := Try.isAgg5
  z5 := Try.sizeOf5
  v5 := Try.zeroValue5
  t9 := Try.underlying9
  a9 := Try.isAgg9
  z9 := Try.sizeOf9
  v9 := Try.zeroValue9
  t32 := Try.underlying112
  a32 := Try.isAgg112
  z32 := Try.sizeOf112
  v32 := Try.zeroValue112
  t44 := Try.underlying41
  a44 := Try.isAgg41
  z44 := Try.sizeOf41
  v44 := Try.zeroValue41
  t46 := Try.underlying22
  a46 := Try.isAgg22
  z46 := Try.sizeOf22
  v46 := Try.zeroValue22 }
def Try.layNext_ren : Go.Shelf.Ren := ⟨fun | 32 => 92 | n => n, fun | 63 => 140 | 46 => 22 | 0 => 0 | 53 => 127 | 32 => 112 | n => n, fun | n => n⟩
theorem Try.layNext : Go.Proofs.SlLaysM.n32 Try.prog Try.layNext_ren := {
  mixed := by kernel_rfl
  f32 := Try.func92.trans (congrArg some (by kernel_rfl))
  t0 := Try.underlying0
  a0 := Try.isAgg0
  z0 := Try.sizeOf0
  v0 := Try.zeroValue0
  t32 := Try.underlying112
  a32 := Try.isAgg112
  z32 := Try.sizeOf112
  v32 := Try.zeroValue112
  t46 := Try.underlying22
  a46 := Try.isAgg22
  z46 := Try.sizeOf22
  v46 := Try.zeroValue22
  t53 := Try.underlying127
  a53 := Try.isAgg127
  z53 := Try.sizeOf127
  v53 := Try.zeroValue127
  t63 := Try.underlying140
  a63 := Try.isAgg140
  z63 := Try.sizeOf140
  v63 := Try.zeroValue140 }
def Try.layLen_ren : Go.Shelf.Ren := ⟨fun | 8 => 73 | 19 => 86 | 20 => 87 | n => n, fun | 32 => 112 | 3 => 3 | 44 => 41 | 46 => 22 | 4 => 4 | 5 => 5 | 9 => 9 | n => n, fun | n => n⟩
theorem Try.layLen : Go.Proofs.SlLaysM.n8 Try.prog Try.layLen_ren := {
  mixed := by kernel_rfl
  f8 := Try.func73.trans (congrArg some (by kernel_rfl))
  f19 := Try.func86.trans (congrArg some (by kernel_rfl))
  f20 := Try.func87.trans (congrArg some (by kernel_rfl))
  t3 := Try.underlying3
  a3 := Try.isAgg3
  z3 := Try.sizeOf3
  v3 := Try.zeroValue3
  t4 := Try.underlying4
  a4 := Try.isAgg4
  z4 := Try.sizeOf4
  v4 := Try.zeroValue4
  t5 := Try.underlying5
  a5 := Try.isAgg5
  z5 := Try.sizeOf5
  v5 := Try.zeroValue5
  t9 := Try.underlying9
  a9 := Try.isAgg9
  z9 := Try.sizeOf9
  v9 := Try.zeroValue9
  t32 := Try.underlying112
  a32 := Try.isAgg112
  z32 := Try.sizeOf112
  v32 := Try.zeroValue112
  t44 := Try.underlying41
  a44 := Try.isAgg41
  z44 := Try.sizeOf41
  v44 := Try.zeroValue41
  t46 := Try.underlying22
  a46 := Try.isAgg22
  z46 := Try.sizeOf22
  v46 := Try.zeroValue22 }
end Go.Proofs
