/-
  Contracts of the library's functions, laid at this program's numbers: tables of numbers, each body compared by the kernel. No condition.
-/
import Derived.Shelf.SortM.Walk7aIn
import Derived.Ground.SlgmProg
import Derived.Test.YthnbgbocanpkjaaGreatProg
namespace Go.Proofs
open Go.Shelf
def Tryz.layNpow_ren : Go.Shelf.Ren := ⟨fun | 31 => 168 | 8 => 107 | 19 => 143 | 20 => 144 | n => n, fun | 3 => 3 | 32 => 180 | 44 => 39 | 46 => 22 | 4 => 4 | 5 => 5 | 9 => 9 | n => n, fun | n => n⟩
theorem Tryz.layNpow : Go.Proofs.SlLaysM.n31 Tryz.prog Tryz.layNpow_ren := {
  mixed := by kernel_rfl
  f8 := Tryz.func107.trans (congrArg some (by kernel_rfl))
  f19 := Tryz.func143.trans (congrArg some (by kernel_rfl))
  f20 := Tryz.func144.trans (congrArg some (by kernel_rfl))
  f31 := Tryz.func168.trans (congrArg some (by kernel_rfl))
  t3 := Tryz.underlying3
  a3 := Tryz.isAgg3
  z3 := Tryz.sizeOf3
  v3 := Tryz.zeroValue3
  t4 := Tryz.underlying4
  a4 := Tryz.isAgg4
  z4 := Tryz.sizeOf4
  v4 := Tryz.zeroValue4
  t5 := Tryz.underlying5
  a5 := Tryz.isAgg5
  z5 := Tryz.sizeOf5
  v5 := Tryz.zeroValue5
  t9 := Tryz.underlying9
  a9 := Tryz.isAgg9
  z9 := Tryz.sizeOf9
  v9 := Tryz.zeroValue9
  t32 := Tryz.underlying180
  a32 := Tryz.isAgg180
  z32 := Tryz.sizeOf180
  v32 := Tryz.zeroValue180
  t44 := Tryz.underlying39
  a44 := Tryz.isAgg39
  z44 := Tryz.sizeOf39
  v44 := Tryz.zeroValue39
  t46 := Tryz.underlying22
  a46 := Tryz.isAgg22
  z46 := Tryz.sizeOf22
  v46 := Tryz.zeroValue22 }
def Tryz.layNext_ren : Go.Shelf.Ren := ⟨fun | 32 => 169 | n => n, fun | 63 => 256 | 46 => 22 | 0 => 0 | 53 => 240 | 32 => 180 | n => n, fun | n => n⟩
theorem Tryz.layNext : Go.Proofs.SlLaysM.n32 Tryz.prog Tryz.layNext_ren := {
  mixed := by kernel_rfl
  f32 := Tryz.func169.trans (congrArg some (by kernel_rfl))
  t0 := Tryz.underlying0
  a0 := Tryz.isAgg0
  z0 := Tryz.sizeOf0
  v0 := Tryz.zeroValue0
  t32 := Tryz.underlying180
  a32 := Tryz.isAgg180
  z32 := Tryz.sizeOf180
  v32 := Tryz.zeroValue180
  t46 := Tryz.underlying22
  a46 := Tryz.isAgg22
  z46 := Tryz.sizeOf22
  v46 := Tryz.zeroValue22
  t53 := Tryz.underlying240
  a53 := Tryz.isAgg240
  z53 := Tryz.sizeOf240
  v53 := Tryz.zeroValue240
  t63 := Tryz.underlying256
  a63 := Tryz.isAgg256
  z63 := Tryz.sizeOf256
  v63 := Tryz.zeroValue256 }
def Tryz.layLen_ren : Go.Shelf.Ren := ⟨fun | 8 => 107 | 19 => 143 | 20 => 144 | n => n, fun | 32 => 180 | 3 => 3 | 44 => 39 | 46 => 22 | 4 => 4 | 5 => 5 | 9 => 9 | n => n, fun | n => n⟩
theorem Tryz.layLen : Go.Proofs.SlLaysM.n8 Tryz.prog Tryz.layLen_ren := {
  mixed := by kernel_rfl
  f8 := Tryz.func107.trans (congrArg some (by kernel_rfl))
  f19 := Tryz.func143.trans (congrArg some (by kernel_rfl))
  f20 := Tryz.func144.trans (congrArg some (by kernel_rfl))
  t3 := Tryz.underlying3
  a3 := Tryz.isAgg3
  z3 := Tryz.sizeOf3
  v3 := Tryz.zeroValue3
  t4 := Tryz.underlying4
  a4 := Tryz.isAgg4
  z4 := Tryz.sizeOf4
  v4 := Tryz.zeroValue4
  t5 := Tryz.underlying5
  a5 := Tryz.isAgg5
  z5 := Tryz.sizeOf5
  v5 := Tryz.zeroValue5
  t9 := Tryz.underlying9
  a9 := Tryz.isAgg9
  z9 := Tryz.sizeOf9
  v9 := Tryz.zeroValue9
  t32 := Tryz.underlying180
  a32 := Tryz.isAgg180
  z32 := Tryz.sizeOf180
  v32 := Tryz.zeroValue180
  t44 := Tryz.underlying39
  a44 := Tryz.isAgg39
  z44 := Tryz.sizeOf39
  v44 := Tryz.zeroValue39
  t46 := Tryz.underlying22
  a46 := Tryz.isAgg22
  z46 := Tryz.sizeOf22
  v46 := Tryz.zeroValue22 }
end Go.Proofs
