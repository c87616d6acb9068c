/-
  Contracts of the library's functions, laid at this program's numbers: tables of numbers, each body compared by the kernel. No condition.
-/
import Derived.Shelf.SortM.Walk7aIn
import Derived.Ground.SlgmProg
import Derived.Test.YticdjnbkeiilfaaGreatProg
namespace Go.Proofs
open Go.Shelf
def Tryz.layNpow_ren : Go.Shelf.Ren := ⟨fun | 31 => 166 | 8 => 61 | 19 => 124 | 20 => 125 | n => n, fun | 3 => 3 | 32 => 115 | 44 => 96 | 46 => 22 | 4 => 4 | 5 => 5 | 9 => 9 | n => n, fun | n => n⟩
theorem Tryz.layNpow : Go.Proofs.SlLaysM.n31 Tryz.prog Tryz.layNpow_ren := {
  mixed := by kernel_rfl
  f8 := Tryz.func61.trans (congrArg some (by kernel_rfl))
  f19 := Tryz.func124.trans (congrArg some (by kernel_rfl))
  f20 := Tryz.func125.trans (congrArg some (by kernel_rfl))
  f31 := Tryz.func166.trans (congrArg some (by kernel_rfl))
  t3 := Tryz.underlying3
  a3 := Tryz.isAgg3
  z3 := Tryz.sizeOf3
  v3 := Tryz.zeroValue3
  t4 := Tryz.underlying4
  a4 := Tryz.isAgg4
  z4 := Tryz.sizeOf4
  v4 := Tryz.zeroValue4
  t5 := Tryz.underlying5
  a5 := Tryz.isAgg5
  z5 := Tryz.sizeOf5
  v5 := Tryz.zeroValue5
  t9 := Tryz.underlying9
  a9 := Tryz.isAgg9
  z9 := Tryz.sizeOf9
  v9 := Tryz.zeroValue9
  t32 := Tryz.underlying115
  a32 := Tryz.isAgg115
  z32 := Tryz.sizeOf115
  v32 := Tryz.zeroValue115
  t44 := Tryz.underlying96
  a44 := Tryz.isAgg96
  z44 := Tryz.sizeOf96
  v44 := Tryz.zeroValue96
  t46 := Tryz.underlying22
  a46 := Tryz.isAgg22
  z46 := Tryz.sizeOf22
  v46 := Tryz.zeroValue22 }
def Tryz.layNext_ren : Go.Shelf.Ren := ⟨fun | 32 => 167 | n => n, fun | 63 => 307 | 46 => 22 | 0 => 0 | 53 => 266 | 32 => 115 | n => n, fun | n => n⟩
theorem Tryz.layNext : Go.Proofs.SlLaysM.n32 Tryz.prog Tryz.layNext_ren := {
  mixed := by kernel_rfl
  f32 := Tryz.func167.trans (congrArg some (by kernel_rfl))
  t0 := Tryz.underlying0
  a0 := Tryz.isAgg0
  z0 := Tryz.sizeOf0
  v0 := Tryz.zeroValue0
  t32 := Tryz.underlying115
  a32 := Tryz.isAgg115
  z32 := Tryz.sizeOf115
  v32 := Tryz.zeroValue115
  t46 := Tryz.underlying22
  a46 := Tryz.isAgg22
  z46 := Tryz.sizeOf22
  v46 := Tryz.zeroValue22
  t53 := Tryz.underlying266
  a53 := Tryz.isAgg266
  z53 := Tryz.sizeOf266
  v53 := Tryz.zeroValue266
  t63 := Tryz.underlying307
  a63 := Tryz.isAgg307
  z63 := Tryz.sizeOf307
  v63 := Tryz.zeroValue307 }
def Tryz.layLen_ren : Go.Shelf.Ren := ⟨fun | 8 => 61 | 19 => 124 | 20 => 125 | n => n, fun | 32 => 115 | 3 => 3 | 44 => 96 | 46 => 22 | 4 => 4 | 5 => 5 | 9 => 9 | n => n, fun | n => n⟩
theorem Tryz.layLen : Go.Proofs.SlLaysM.n8 Tryz.prog Tryz.layLen_ren := {
  mixed := by kernel_rfl
  f8 := Tryz.func61.trans (congrArg some (by kernel_rfl))
  f19 := Tryz.func124.trans (congrArg some (by kernel_rfl))
  f20 := Tryz.func125.trans (congrArg some (by kernel_rfl))
  t3 := Tryz.underlying3
  a3 := Tryz.isAgg3
  z3 := Tryz.sizeOf3
  v3 := Tryz.zeroValue3
  t4 := Tryz.underlying4
  a4 := Tryz.isAgg4
  z4 := Tryz.sizeOf4
  v4 := Tryz.zeroValue4
  t5 := Tryz.underlying5
  a5 := Tryz.isAgg5
  z5 := Tryz.sizeOf5
  v5 := Tryz.zeroValue5
  t9 := Tryz.underlying9
  a9 := Tryz.isAgg9
  z9 := Tryz.sizeOf9
  v9 := Tryz.zeroValue9
  t32 := Tryz.underlying115
  a32 := Tryz.isAgg115
  z32 := Tryz.sizeOf115
  v32 := Tryz.zeroValue115
  t44 := Tryz.underlying96
  a44 := Tryz.isAgg96
  z44 := Tryz.sizeOf96
  v44 := Tryz.zeroValue96
  t46 := Tryz.underlying22
  a46 := Tryz.isAgg22
  z46 := Tryz.sizeOf22
  v46 := Tryz.zeroValue22 }
end Go.Proofs
