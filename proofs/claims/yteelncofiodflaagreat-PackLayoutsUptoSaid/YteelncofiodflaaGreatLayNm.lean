/-
  Contracts of the library's functions, laid at this program's numbers: tables of numbers, each body compared by the kernel. No condition.
-/
import Derived.Shelf.Strings.FuncGrows
import Derived.Ground.GgwProg
import Derived.Test.YteelncofiodflaaGreatProg
namespace Go.Proofs
open Go.Shelf
def Tryz.layCF_ren:Go.Shelf.Ren:=⟨fun |17=>97 |15=>134 |20=>169 |n=>n,fun |9=>9 |23=>170 |4=>4 |3=>3 |0=>0 |21=>21 |n=>n,fun |n=>n⟩
theorem Tryz.layCF:Go.Proofs.LaysGw.n17 Tryz.prog Tryz.layCF_ren:= {
 mixed:=by kernel_rfl
 f15:=Tryz.func134.trans (congrArg some (by kernel_rfl))
 f17:=Tryz.func97.trans (congrArg some (by kernel_rfl))
 f20:=Tryz.func169.trans (congrArg some (by kernel_rfl))
 t0:=Tryz.underlying0
 a0:=Tryz.isAgg0
 z0:=Tryz.sizeOf0
 v0:=Tryz.zeroValue0
 i0:=by kernel_rfl
 t3:=Tryz.underlying3
 a3:=Tryz.isAgg3
 z3:=Tryz.sizeOf3
 v3:=Tryz.zeroValue3
 i3:=by kernel_rfl
 t4:=Tryz.underlying4
 a4:=Tryz.isAgg4
 z4:=Tryz.sizeOf4
 v4:=Tryz.zeroValue4
 i4:=by kernel_rfl
 t9:=Tryz.underlying9
 a9:=Tryz.isAgg9
 z9:=Tryz.sizeOf9
 v9:=Tryz.zeroValue9
 i9:=by kernel_rfl
 t21:=Tryz.underlying21
 a21:=Tryz.isAgg21
 z21:=Tryz.sizeOf21
 v21:=Tryz.zeroValue21
 i21:=by kernel_rfl
 t23:=Tryz.underlying170
 a23:=Tryz.isAgg170
 z23:=Tryz.sizeOf170
 v23:=Tryz.zeroValue170
 i23:=by kernel_rfl}
end Go.Proofs
