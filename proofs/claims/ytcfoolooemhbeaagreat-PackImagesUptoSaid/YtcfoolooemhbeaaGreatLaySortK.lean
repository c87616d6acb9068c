/-
  Contracts of the library's functions, laid at this program's numbers: tables of numbers, each body compared by the kernel. No condition.
-/
import Derived.Shelf.SortM.Walk7aIn
import Derived.Ground.SlgmProg
import Derived.Test.YtcfoolooemhbeaaGreatProg
namespace Go.Proofs
open Go.Shelf
def Tryz.layNpow_ren:Go.Shelf.Ren:=⟨fun |31=>220 |8=>142 |19=>196 |20=>197 |n=>n,fun |3=>3 |32=>208 |44=>83 |46=>22 |4=>4 |5=>5 |9=>9 |n=>n,fun |n=>n⟩
theorem Tryz.layNpow:Go.Proofs.SlLaysM.n31 Tryz.prog Tryz.layNpow_ren:= {
 mixed:=by kernel_rfl
 f8:=Tryz.func142.trans (congrArg some (by kernel_rfl))
 f19:=Tryz.func196.trans (congrArg some (by kernel_rfl))
 f20:=Tryz.func197.trans (congrArg some (by kernel_rfl))
 f31:=Tryz.func220.trans (congrArg some (by kernel_rfl))
 t3:=Tryz.underlying3
 a3:=Tryz.isAgg3
 z3:=Tryz.sizeOf3
 v3:=Tryz.zeroValue3
 t4:=Tryz.underlying4
 a4:=Tryz.isAgg4
 z4:=Tryz.sizeOf4
 v4:=Tryz.zeroValue4
 t5:=Tryz.underlying5
 a5:=Tryz.isAgg5
 z5:=Tryz.sizeOf5
 v5:=Tryz.zeroValue5
 t9:=Tryz.underlying9
 a9:=Tryz.isAgg9
 z9:=Tryz.sizeOf9
 v9:=Tryz.zeroValue9
 t32:=Tryz.underlying208
 a32:=Tryz.isAgg208
 z32:=Tryz.sizeOf208
 v32:=Tryz.zeroValue208
 t44:=Tryz.underlying83
 a44:=Tryz.isAgg83
 z44:=Tryz.sizeOf83
 v44:=Tryz.zeroValue83
 t46:=Tryz.underlying22
 a46:=Tryz.isAgg22
 z46:=Tryz.sizeOf22
 v46:=Tryz.zeroValue22}
def Tryz.layNext_ren:Go.Shelf.Ren:=⟨fun |32=>221 |n=>n,fun |63=>312 |46=>22 |0=>0 |53=>295 |32=>208 |n=>n,fun |n=>n⟩
theorem Tryz.layNext:Go.Proofs.SlLaysM.n32 Tryz.prog Tryz.layNext_ren:= {
 mixed:=by kernel_rfl
 f32:=Tryz.func221.trans (congrArg some (by kernel_rfl))
 t0:=Tryz.underlying0
 a0:=Tryz.isAgg0
 z0:=Tryz.sizeOf0
 v0:=Tryz.zeroValue0
 t32:=Tryz.underlying208
 a32:=Tryz.isAgg208
 z32:=Tryz.sizeOf208
 v32:=Tryz.zeroValue208
 t46:=Tryz.underlying22
 a46:=Tryz.isAgg22
 z46:=Tryz.sizeOf22
 v46:=Tryz.zeroValue22
 t53:=Tryz.underlying295
 a53:=Tryz.isAgg295
 z53:=Tryz.sizeOf295
 v53:=Tryz.zeroValue295
 t63:=Tryz.underlying312
 a63:=Tryz.isAgg312
 z63:=Tryz.sizeOf312
 v63:=Tryz.zeroValue312}
def Tryz.layLen_ren:Go.Shelf.Ren:=⟨fun |8=>142 |19=>196 |20=>197 |n=>n,fun |32=>208 |3=>3 |44=>83 |46=>22 |4=>4 |5=>5 |9=>9 |n=>n,fun |n=>n⟩
theorem Tryz.layLen:Go.Proofs.SlLaysM.n8 Tryz.prog Tryz.layLen_ren:= {
 mixed:=by kernel_rfl
 f8:=Tryz.func142.trans (congrArg some (by kernel_rfl))
 f19:=Tryz.func196.trans (congrArg some (by kernel_rfl))
 f20:=Tryz.func197.trans (congrArg some (by kernel_rfl))
 t3:=Tryz.underlying3
 a3:=Tryz.isAgg3
 z3:=Tryz.sizeOf3
 v3:=Tryz.zeroValue3
 t4:=Tryz.underlying4
 a4:=Tryz.isAgg4
 z4:=Tryz.sizeOf4
 v4:=Tryz.zeroValue4
 t5:=Tryz.underlying5
 a5:=Tryz.isAgg5
 z5:=Tryz.sizeOf5
 v5:=Tryz.zeroValue5
 t9:=Tryz.underlying9
 a9:=Tryz.isAgg9
 z9:=Tryz.sizeOf9
 v9:=Tryz.zeroValue9
 t32:=Tryz.underlying208
 a32:=Tryz.isAgg208
 z32:=Tryz.sizeOf208
 v32:=Tryz.zeroValue208
 t44:=Tryz.underlying83
 a44:=Tryz.isAgg83
 z44:=Tryz.sizeOf83
 v44:=Tryz.zeroValue83
 t46:=Tryz.underlying22
 a46:=Tryz.isAgg22
 z46:=Tryz.sizeOf22
 v46:=Tryz.zeroValue22}
end Go.Proofs
