/-
  Contracts of the library's functions, laid at this program's numbers: tables of numbers, each body compared by the kernel. No condition.
-/
import Derived.Shelf.SlSortCmp.WholeK
import Derived.Shelf.SlSortCmp.NoneTotal
import Derived.Ground.SlsfProg
import Derived.Test.YtpedlbjbbcbbkaaGreatProg
namespace Go.Proofs
open Go.Shelf
def Tryz.layDW_ren : Go.Shelf.Ren := ⟨fun | 6 => 150 | 15 => 80 | 14 => 219 | 28 => 141 | 29 => 142 | 20 => 253 | 21 => 254 | 22 => 255 | 23 => 256 | 24 => 257 | 25 => 258 | 26 => 259 | 27 => 260 | 46 => 302 | 47 => 211 | 48 => 212 | 49 => 303 | 50 => 304 | 57 => 328 | n => n, fun | 22 => 24 | 24 => 52 | 25 => 90 | 3 => 3 | 39 => 140 | 0 => 0 | 53 => 57 | 55 => 22 | 4 => 4 | 46 => 193 | 45 => 192 | 50 => 198 | 5 => 5 | 9 => 9 | 66 => 278 | 70 => 282 | 76 => 316 | 77 => 136 | n => n, fun | n => n⟩
theorem Tryz.layDW : Go.Proofs.SlLaysF0.n6 Tryz.prog Tryz.layDW_ren := {
  mixed := by kernel_rfl
  f6 := ⟨Tryz.f150.name, by decide, Tryz.func150.trans (congrArg some (by kernel_rfl))⟩
  f14 := ⟨Tryz.f219.name, by decide, Tryz.func219.trans (congrArg some (by kernel_rfl))⟩
  f15 := Tryz.func80.trans (congrArg some (by kernel_rfl))
  f20 := ⟨Tryz.f253.name, by decide, Tryz.func253.trans (congrArg some (by kernel_rfl))⟩
  f21 := ⟨Tryz.f254.name, by decide, Tryz.func254.trans (congrArg some (by kernel_rfl))⟩
  f22 := ⟨Tryz.f255.name, by decide, Tryz.func255.trans (congrArg some (by kernel_rfl))⟩
  f23 := ⟨Tryz.f256.name, by decide, Tryz.func256.trans (congrArg some (by kernel_rfl))⟩
  f24 := ⟨Tryz.f257.name, by decide, Tryz.func257.trans (congrArg some (by kernel_rfl))⟩
  f25 := ⟨Tryz.f258.name, by decide, Tryz.func258.trans (congrArg some (by kernel_rfl))⟩
  f26 := ⟨Tryz.f259.name, by decide, Tryz.func259.trans (congrArg some (by kernel_rfl))⟩
  f27 := ⟨Tryz.f260.name, by decide, Tryz.func260.trans (congrArg some (by kernel_rfl))⟩
  f28 := Tryz.func141.trans (congrArg some (by kernel_rfl))
  f29 := Tryz.func142.trans (congrArg some (by kernel_rfl))
  f46 := ⟨Tryz.f302.name, by decide, Tryz.func302.trans (congrArg some (by kernel_rfl))⟩
  f47 := Tryz.func211.trans (congrArg some (by kernel_rfl))
  f48 := Tryz.func212.trans (congrArg some (by kernel_rfl))
  f49 := ⟨Tryz.f303.name, by decide, Tryz.func303.trans (congrArg some (by kernel_rfl))⟩
  f50 := ⟨Tryz.f304.name, by decide, Tryz.func304.trans (congrArg some (by kernel_rfl))⟩
  f57 := ⟨Tryz.f328.name, by decide, Tryz.func328.trans (congrArg some (by kernel_rfl))⟩
  t0 := Tryz.underlying0
  a0 := Tryz.isAgg0
  z0 := Tryz.sizeOf0
  v0 := Tryz.zeroValue0
  t3 := Tryz.underlying3
  a3 := Tryz.isAgg3
  z3 := Tryz.sizeOf3
  v3 := Tryz.zeroValue3
  t4 := Tryz.underlying4
  a4 := Tryz.isAgg4
  z4 := Tryz.sizeOf4
  v4 := Tryz.zeroValue4
  t5 := Tryz.underlying5
  a5 := Tryz.isAgg5
  z5 := Tryz.sizeOf5
  v5 := Tryz.zeroValue5
  t9 := Tryz.underlying9
  a9 := Tryz.isAgg9
  z9 := Tryz.sizeOf9
  v9 := Tryz.zeroValue9
  t22 := Tryz.underlying24
  a22 := Tryz.isAgg24
  z22 := Tryz.sizeOf24
  v22 := Tryz.zeroValue24
  t25 := Tryz.underlying90
  a25 := Tryz.isAgg90
  z25 := Tryz.sizeOf90
  v25 := Tryz.zeroValue90
  t39 := Tryz.underlying140
  a39 := Tryz.isAgg140
  z39 := Tryz.sizeOf140
  v39 := Tryz.zeroValue140
  t45 := Tryz.underlying192
  a45 := Tryz.isAgg192
  z45 := Tryz.sizeOf192
  v45 := Tryz.zeroValue192
  t46 := Tryz.underlying193
  a46 := Tryz.isAgg193
  z46 := Tryz.sizeOf193
  v46 := Tryz.zeroValue193
  t50 := Tryz.underlying198
  a50 := Tryz.isAgg198
  z50 := Tryz.sizeOf198
  v50 := Tryz.zeroValue198
  t53 := Tryz.underlying57
  a53 := Tryz.isAgg57
  z53 := Tryz.sizeOf57
  v53 := Tryz.zeroValue57
  t55 := Tryz.underlying22
  a55 := Tryz.isAgg22
  z55 := Tryz.sizeOf22
  v55 := Tryz.zeroValue22
  t66 := Tryz.underlying278
  a66 := Tryz.isAgg278
  z66 := Tryz.sizeOf278
  v66 := Tryz.zeroValue278
  t70 := Tryz.underlying282
  a70 := Tryz.isAgg282
  z70 := Tryz.sizeOf282
  v70 := Tryz.zeroValue282
  t76 := Tryz.underlying316
  a76 := Tryz.isAgg316
  z76 := Tryz.sizeOf316
  v76 := Tryz.zeroValue316
  t77 := Tryz.underlying136
  a77 := Tryz.isAgg136
  z77 := Tryz.sizeOf136
  v77 := Tryz.zeroValue136 }
end Go.Proofs
