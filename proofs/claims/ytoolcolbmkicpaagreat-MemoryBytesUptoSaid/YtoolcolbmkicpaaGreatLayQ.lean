/-
  Contracts of the library's functions, laid at this program's numbers: tables of numbers, each body compared by the kernel. No condition.
-/
import Derived.Shelf.SlSortCmp.WholeK
import Derived.Shelf.SlSortCmp.NoneTotal
import Derived.Shelf.SlicesG.Cmp
import Derived.Ground.SlsfProg
import Derived.Ground.SlgcProg
import Derived.Test.YtoolcolbmkicpaaGreatProg
namespace Go.Proofs
open Go.Shelf
def Tryz.layPairs_ren : Go.Shelf.Ren := ⟨fun | 6 => 48 | 15 => 80 | 14 => 79 | 28 => 96 | 29 => 97 | 20 => 88 | 21 => 89 | 22 => 90 | 23 => 91 | 24 => 92 | 25 => 93 | 26 => 94 | 27 => 95 | 46 => 107 | 47 => 108 | 48 => 109 | 49 => 110 | 50 => 111 | 57 => 116 | n => n, fun | 22 => 64 | 24 => 66 | 25 => 104 | 3 => 3 | 39 => 145 | 0 => 0 | 53 => 75 | 55 => 22 | 4 => 4 | 46 => 158 | 45 => 157 | 50 => 150 | 5 => 5 | 9 => 9 | 66 => 171 | 70 => 174 | 76 => 178 | 77 => 78 | n => n, fun | n => n⟩
theorem Tryz.layPairs : Go.Proofs.SlLaysF0.n6 Tryz.prog Tryz.layPairs_ren := {
  mixed := by kernel_rfl
  f6 := ⟨Tryz.f48.name, by decide, Tryz.func48.trans (congrArg some (by kernel_rfl))⟩
  f14 := ⟨Tryz.f79.name, by decide, Tryz.func79.trans (congrArg some (by kernel_rfl))⟩
  f15 := Tryz.func80.trans (congrArg some (by kernel_rfl))
  f20 := ⟨Tryz.f88.name, by decide, Tryz.func88.trans (congrArg some (by kernel_rfl))⟩
  f21 := ⟨Tryz.f89.name, by decide, Tryz.func89.trans (congrArg some (by kernel_rfl))⟩
  f22 := ⟨Tryz.f90.name, by decide, Tryz.func90.trans (congrArg some (by kernel_rfl))⟩
  f23 := ⟨Tryz.f91.name, by decide, Tryz.func91.trans (congrArg some (by kernel_rfl))⟩
  f24 := ⟨Tryz.f92.name, by decide, Tryz.func92.trans (congrArg some (by kernel_rfl))⟩
  f25 := ⟨Tryz.f93.name, by decide, Tryz.func93.trans (congrArg some (by kernel_rfl))⟩
  f26 := ⟨Tryz.f94.name, by decide, Tryz.func94.trans (congrArg some (by kernel_rfl))⟩
  f27 := ⟨Tryz.f95.name, by decide, Tryz.func95.trans (congrArg some (by kernel_rfl))⟩
  f28 := Tryz.func96.trans (congrArg some (by kernel_rfl))
  f29 := Tryz.func97.trans (congrArg some (by kernel_rfl))
  f46 := ⟨Tryz.f107.name, by decide, Tryz.func107.trans (congrArg some (by kernel_rfl))⟩
  f47 := Tryz.func108.trans (congrArg some (by kernel_rfl))
  f48 := Tryz.func109.trans (congrArg some (by kernel_rfl))
  f49 := ⟨Tryz.f110.name, by decide, Tryz.func110.trans (congrArg some (by kernel_rfl))⟩
  f50 := ⟨Tryz.f111.name, by decide, Tryz.func111.trans (congrArg some (by kernel_rfl))⟩
  f57 := ⟨Tryz.f116.name, by decide, Tryz.func116.trans (congrArg some (by kernel_rfl))⟩
  t0 := Tryz.underlying0
  a0 := Tryz.isAgg0
  z0 := Tryz.sizeOf0
  v0 := Tryz.zeroValue0
  t3 := Tryz.underlying3
  a3 := Tryz.isAgg3
  z3 := Tryz.sizeOf3
  v3 := Tryz.zeroValue3
  t4 := Tryz.underlying4
  a4 := Tryz.isAgg4
  z4 := Tryz.sizeOf4
  v4 := Tryz.zeroValue4
  t5 := Tryz.underlying5
  a5 := Tryz.isAgg5
  z5 := Tryz.sizeOf5
  v5 := Tryz.zeroValue5
  t9 := Tryz.underlying9
  a9 := Tryz.isAgg9
  z9 := Tryz.sizeOf9
  v9 := Tryz.zeroValue9
  t22 := Tryz.underlying64
  a22 := Tryz.isAgg64
  z22 := Tryz.sizeOf64
  v22 := Tryz.zeroValue64
  t25 := Tryz.underlying104
  a25 := Tryz.isAgg104
  z25 := Tryz.sizeOf104
  v25 := Tryz.zeroValue104
  t39 := Tryz.underlying145
  a39 := Tryz.isAgg145
  z39 := Tryz.sizeOf145
  v39 := Tryz.zeroValue145
  t45 := Tryz.underlying157
  a45 := Tryz.isAgg157
  z45 := Tryz.sizeOf157
  v45 := Tryz.zeroValue157
  t46 := Tryz.underlying158
  a46 := Tryz.isAgg158
  z46 := Tryz.sizeOf158
  v46 := Tryz.zeroValue158
  t50 := Tryz.underlying150
  a50 := Tryz.isAgg150
  z50 := Tryz.sizeOf150
  v50 := Tryz.zeroValue150
  t53 := Tryz.underlying75
  a53 := Tryz.isAgg75
  z53 := Tryz.sizeOf75
  v53 := Tryz.zeroValue75
  t55 := Tryz.underlying22
  a55 := Tryz.isAgg22
  z55 := Tryz.sizeOf22
  v55 := Tryz.zeroValue22
  t66 := Tryz.underlying171
  a66 := Tryz.isAgg171
  z66 := Tryz.sizeOf171
  v66 := Tryz.zeroValue171
  t70 := Tryz.underlying174
  a70 := Tryz.isAgg174
  z70 := Tryz.sizeOf174
  v70 := Tryz.zeroValue174
  t76 := Tryz.underlying178
  a76 := Tryz.isAgg178
  z76 := Tryz.sizeOf178
  v76 := Tryz.zeroValue178
  t77 := Tryz.underlying78
  a77 := Tryz.isAgg78
  z77 := Tryz.sizeOf78
  v77 := Tryz.zeroValue78 }
def Tryz.layCmpInt_ren : Go.Shelf.Ren := ⟨fun | 5 => 51 | 7 => 81 | n => n, fun | 22 => 3 | 3 => 3 | 4 => 4 | n => n, fun | n => n⟩
theorem Tryz.layCmpInt : Go.Proofs.SlLaysC2.n5 Tryz.prog Tryz.layCmpInt_ren := {
  mixed := by kernel_rfl
  f5 := ⟨Tryz.f51.name, by decide, Tryz.func51.trans (congrArg some (by kernel_rfl))⟩
  f7 := ⟨Tryz.f81.name, by decide, Tryz.func81.trans (congrArg some (by kernel_rfl))⟩
  t3 := Tryz.underlying3
  a3 := Tryz.isAgg3
  z3 := Tryz.sizeOf3
  v3 := Tryz.zeroValue3
  t4 := Tryz.underlying4
  a4 := Tryz.isAgg4
  z4 := Tryz.sizeOf4
  v4 := Tryz.zeroValue4
  t22 := Tryz.underlying3
  a22 := Tryz.isAgg3
  z22 := Tryz.sizeOf3
  v22 := Tryz.zeroValue3 }
end Go.Proofs
