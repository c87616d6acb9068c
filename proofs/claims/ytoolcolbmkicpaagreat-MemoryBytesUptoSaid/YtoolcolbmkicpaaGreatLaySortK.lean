/-
  Contracts of the library's functions, laid at this program's numbers: tables of numbers, each body compared by the kernel. No condition.
-/
import Derived.Shelf.SortM.Walk7aIn
import Derived.Ground.SlgmProg
import Derived.Test.YtoolcolbmkicpaaGreatProg
namespace Go.Proofs
open Go.Shelf
def Tryz.layNpow_ren : Go.Shelf.Ren := ⟨fun | 31 => 108 | 8 => 80 | 19 => 96 | 20 => 97 | n => n, fun | 3 => 3 | 32 => 145 | 44 => 75 | 46 => 22 | 4 => 4 | 5 => 5 | 9 => 9 | n => n, fun | n => n⟩
theorem Tryz.layNpow : Go.Proofs.SlLaysM.n31 Tryz.prog Tryz.layNpow_ren := {
  mixed := by kernel_rfl
  f8 := Tryz.func80.trans (congrArg some (by kernel_rfl))
  f19 := Tryz.func96.trans (congrArg some (by kernel_rfl))
  f20 := Tryz.func97.trans (congrArg some (by kernel_rfl))
  f31 := Tryz.func108.trans (congrArg some (by kernel_rfl))
  t3 := Tryz.underlying3
  a3 := Tryz.isAgg3
  z3 := Tryz.sizeOf3
  v3 := Tryz.zeroValue3
  t4 := Tryz.underlying4
  a4 := Tryz.isAgg4
  z4 := Tryz.sizeOf4
  v4 := Tryz.zeroValue4
  t5 := Tryz.underlying5
  a5 := Tryz.isAgg5
  z5 := Tryz.sizeOf5
  v5 := Tryz.zeroValue5
  t9 := Tryz.underlying9
  a9 := Tryz.isAgg9
  z9 := Tryz.sizeOf9
  v9 := Tryz.zeroValue9
  t32 := Tryz.underlying145
  a32 := Tryz.isAgg145
  z32 := Tryz.sizeOf145
  v32 := Tryz.zeroValue145
  t44 := Tryz.underlying75
  a44 := Tryz.isAgg75
  z44 := Tryz.sizeOf75
  v44 := Tryz.zeroValue75
  t46 := Tryz.underlying22
  a46 := Tryz.isAgg22
  z46 := Tryz.sizeOf22
  v46 := Tryz.zeroValue22 }
def Tryz.layNext_ren : Go.Shelf.Ren := ⟨fun | 32 => 109 | n => n, fun | 63 => 178 | 46 => 22 | 0 => 0 | 53 => 171 | 32 => 145 | n => n, fun | n => n⟩
theorem Tryz.layNext : Go.Proofs.SlLaysM.n32 Tryz.prog Tryz.layNext_ren := {
  mixed := by kernel_rfl
  f32 := Tryz.func109.trans (congrArg some (by kernel_rfl))
  t0 := Tryz.underlying0
  a0 := Tryz.isAgg0
  z0 := Tryz.sizeOf0
  v0 := Tryz.zeroValue0
  t32 := Tryz.underlying145
  a32 := Tryz.isAgg145
  z32 := Tryz.sizeOf145
  v32 := Tryz.zeroValue145
  t46 := Tryz.underlying22
  a46 := Tryz.isAgg22
  z46 := Tryz.sizeOf22
  v46 := Tryz.zeroValue22
  t53 := Tryz.underlying171
  a53 := Tryz.isAgg171
  z53 := Tryz.sizeOf171
  v53 := Tryz.zeroValue171
  t63 := Tryz.underlying178
  a63 := Tryz.isAgg178
  z63 := Tryz.sizeOf178
  v63 := Tryz.zeroValue178 }
def Tryz.layLen_ren : Go.Shelf.Ren := ⟨fun | 8 => 80 | 19 => 96 | 20 => 97 | n => n, fun | 32 => 145 | 3 => 3 | 44 => 75 | 46 => 22 | 4 => 4 | 5 => 5 | 9 => 9 | n => n, fun | n => n⟩
theorem Tryz.layLen : Go.Proofs.SlLaysM.n8 Tryz.prog Tryz.layLen_ren := {
  mixed := by kernel_rfl
  f8 := Tryz.func80.trans (congrArg some (by kernel_rfl))
  f19 := Tryz.func96.trans (congrArg some (by kernel_rfl))
  f20 := Tryz.func97.trans (congrArg some (by kernel_rfl))
  t3 := Tryz.underlying3
  a3 := Tryz.isAgg3
  z3 := Tryz.sizeOf3
  v3 := Tryz.zeroValue3
  t4 := Tryz.underlying4
  a4 := Tryz.isAgg4
  z4 := Tryz.sizeOf4
  v4 := Tryz.zeroValue4
  t5 := Tryz.underlying5
  a5 := Tryz.isAgg5
  z5 := Tryz.sizeOf5
  v5 := Tryz.zeroValue5
  t9 := Tryz.underlying9
  a9 := Tryz.isAgg9
  z9 := Tryz.sizeOf9
  v9 := Tryz.zeroValue9
  t32 := Tryz.underlying145
  a32 := Tryz.isAgg145
  z32 := Tryz.sizeOf145
  v32 := Tryz.zeroValue145
  t44 := Tryz.underlying75
  a44 := Tryz.isAgg75
  z44 := Tryz.sizeOf75
  v44 := Tryz.zeroValue75
  t46 := Tryz.underlying22
  a46 := Tryz.isAgg22
  z46 := Tryz.sizeOf22
  v46 := Tryz.zeroValue22 }
end Go.Proofs
