/-
  Contracts of the library's functions, laid at this program's numbers: tables of numbers, each body compared by the kernel. No condition.
-/
import Derived.Shelf.SortM.Walk7aIn
import Derived.Ground.SlgmProg
import Derived.Test.YtgkodbejnbfakaaProg
namespace Go.Proofs
open Go.Shelf
def Try.layNpow_ren : Go.Shelf.Ren := ⟨fun | 31 => 69 | 8 => 56 | 19 => 66 | 20 => 67 | n => n, fun | 3 => 3 | 32 => 98 | 44 => 35 | 46 => 22 | 4 => 4 | 5 => 5 | 9 => 9 | n => n, fun | n => n⟩
theorem Try.layNpow : Go.Proofs.SlLaysM.n31 Try.prog Try.layNpow_ren := {
  mixed := by kernel_rfl
  f8 := Try.func56.trans (congrArg some (by kernel_rfl))
  f19 := Try.func66.trans (congrArg some (by kernel_rfl))
  f20 := Try.func67.trans (congrArg some (by kernel_rfl))
  f31 := Try.func69.trans (congrArg some (by kernel_rfl))
  t3 := Try.underlying3
  a3 := Try.isAgg3
  z3 := Try.sizeOf3
  v3 := Try.zeroValue3
  t4 := Try.underlying4
  a4 := Try.isAgg4
  z4 := Try.sizeOf4
  v4 := Try.zeroValue4
  t5 := Try.underlying5
  a5 := Try.isAgg5
  z5 := Try.sizeOf5
  v5 := Try.zeroValue5
  t9 := Try.underlying9
  a9 := Try.isAgg9
  z9 := Try.sizeOf9
  v9 := Try.zeroValue9
  t32 := Try.underlying98
  a32 := Try.isAgg98
  z32 := Try.sizeOf98
  v32 := Try.zeroValue98
  t44 := Try.underlying35
  a44 := Try.isAgg35
  z44 := Try.sizeOf35
  v44 := Try.zeroValue35
  t46 := Try.underlying22
  a46 := Try.isAgg22
  z46 := Try.sizeOf22
  v46 := Try.zeroValue22 }
def Try.layNext_ren : Go.Shelf.Ren := ⟨fun | 32 => 70 | n => n, fun | 63 => 117 | 46 => 22 | 0 => 0 | 53 => 110 | 32 => 98 | n => n, fun | n => n⟩
theorem Try.layNext : Go.Proofs.SlLaysM.n32 Try.prog Try.layNext_ren := {
  mixed := by kernel_rfl
  f32 := Try.func70.trans (congrArg some (by kernel_rfl))
  t0 := Try.underlying0
  a0 := Try.isAgg0
  z0 := Try.sizeOf0
  v0 := Try.zeroValue0
  t32 := Try.underlying98
  a32 := Try.isAgg98
  z32 := Try.sizeOf98
  v32 := Try.zeroValue98
  t46 := Try.underlying22
  a46 := Try.isAgg22
  z46 := Try.sizeOf22
  v46 := Try.zeroValue22
  t53 := Try.underlying110
  a53 := Try.isAgg110
  z53 := Try.sizeOf110
  v53 := Try.zeroValue110
  t63 := Try.underlying117
  a63 := Try.isAgg117
  z63 := Try.sizeOf117
  v63 := Try.zeroValue117 }
def Try.layLen_ren : Go.Shelf.Ren := ⟨fun | 8 => 56 | 19 => 66 | 20 => 67 | n => n, fun | 32 => 98 | 3 => 3 | 44 => 35 | 46 => 22 | 4 => 4 | 5 => 5 | 9 => 9 | n => n, fun | n => n⟩
theorem Try.layLen : Go.Proofs.SlLaysM.n8 Try.prog Try.layLen_ren := {
  mixed := by kernel_rfl
  f8 := Try.func56.trans (congrArg some (by kernel_rfl))
  f19 := Try.func66.trans (congrArg some (by kernel_rfl))
  f20 := Try.func67.trans (congrArg some (by kernel_rfl))
  t3 := Try.underlying3
  a3 := Try.isAgg3
  z3 := Try.sizeOf3
  v3 := Try.zeroValue3
  t4 := Try.underlying4
  a4 := Try.isAgg4
  z4 := Try.sizeOf4
  v4 := Try.zeroValue4
  t5 := Try.underlying5
  a5 := Try.isAgg5
  z5 := Try.sizeOf5
  v5 := Try.zeroValue5
  t9 := Try.underlying9
  a9 := Try.isAgg9
  z9 := Try.sizeOf9
  v9 := Try.zeroValue9
  t32 := Try.underlying98
  a32 := Try.isAgg98
  z32 := Try.sizeOf98
  v32 := Try.zeroValue98
  t44 := Try.underlying35
  a44 := Try.isAgg35
  z44 := Try.sizeOf35
  v44 := Try.zeroValue35
  t46 := Try.underlying22
  a46 := Try.isAgg22
  z46 := Try.sizeOf22
  v46 := Try.zeroValue22 }
end Go.Proofs
