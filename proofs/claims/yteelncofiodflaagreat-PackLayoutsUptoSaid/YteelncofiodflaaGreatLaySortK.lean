/-
  Contracts of the library's functions, laid at this program's numbers: tables of numbers, each body compared by the kernel. No condition.
-/
import Derived.Shelf.SortM.Walk7aIn
import Derived.Ground.SlgmProg
import Derived.Test.YteelncofiodflaaGreatProg
namespace Go.Proofs
open Go.Shelf
def Tryz.layNpow_ren:Go.Shelf.Ren:=⟨fun |31=>171 |8=>101 |19=>145 |20=>146 |n=>n,fun |3=>3 |32=>174 |44=>50 |46=>22 |4=>4 |5=>5 |9=>9 |n=>n,fun |n=>n⟩
theorem Tryz.layNpow:Go.Proofs.SlLaysM.n31 Tryz.prog Tryz.layNpow_ren:= {
 mixed:=by kernel_rfl
 f8:=Tryz.func101.trans (congrArg some (by kernel_rfl))
 f19:=Tryz.func145.trans (congrArg some (by kernel_rfl))
 f20:=Tryz.func146.trans (congrArg some (by kernel_rfl))
 f31:=Tryz.func171.trans (congrArg some (by kernel_rfl))
 t3:=Tryz.underlying3
 a3:=Tryz.isAgg3
 z3:=Tryz.sizeOf3
 v3:=Tryz.zeroValue3
 t4:=Tryz.underlying4
 a4:=Tryz.isAgg4
 z4:=Tryz.sizeOf4
 v4:=Tryz.zeroValue4
 t5:=Tryz.underlying5
 a5:=Tryz.isAgg5
 z5:=Tryz.sizeOf5
 v5:=Tryz.zeroValue5
 t9:=Tryz.underlying9
 a9:=Tryz.isAgg9
 z9:=Tryz.sizeOf9
 v9:=Tryz.zeroValue9
 t32:=Tryz.underlying174
 a32:=Tryz.isAgg174
 z32:=Tryz.sizeOf174
 v32:=Tryz.zeroValue174
 t44:=Tryz.underlying50
 a44:=Tryz.isAgg50
 z44:=Tryz.sizeOf50
 v44:=Tryz.zeroValue50
 t46:=Tryz.underlying22
 a46:=Tryz.isAgg22
 z46:=Tryz.sizeOf22
 v46:=Tryz.zeroValue22}
def Tryz.layNext_ren:Go.Shelf.Ren:=⟨fun |32=>172 |n=>n,fun |63=>269 |46=>22 |0=>0 |53=>253 |32=>174 |n=>n,fun |n=>n⟩
theorem Tryz.layNext:Go.Proofs.SlLaysM.n32 Tryz.prog Tryz.layNext_ren:= {
 mixed:=by kernel_rfl
 f32:=Tryz.func172.trans (congrArg some (by kernel_rfl))
 t0:=Tryz.underlying0
 a0:=Tryz.isAgg0
 z0:=Tryz.sizeOf0
 v0:=Tryz.zeroValue0
 t32:=Tryz.underlying174
 a32:=Tryz.isAgg174
 z32:=Tryz.sizeOf174
 v32:=Tryz.zeroValue174
 t46:=Tryz.underlying22
 a46:=Tryz.isAgg22
 z46:=Tryz.sizeOf22
 v46:=Tryz.zeroValue22
 t53:=Tryz.underlying253
 a53:=Tryz.isAgg253
 z53:=Tryz.sizeOf253
 v53:=Tryz.zeroValue253
 t63:=Tryz.underlying269
 a63:=Tryz.isAgg269
 z63:=Tryz.sizeOf269
 v63:=Tryz.zeroValue269}
def Tryz.layLen_ren:Go.Shelf.Ren:=⟨fun |8=>101 |19=>145 |20=>146 |n=>n,fun |32=>174 |3=>3 |44=>50 |46=>22 |4=>4 |5=>5 |9=>9 |n=>n,fun |n=>n⟩
theorem Tryz.layLen:Go.Proofs.SlLaysM.n8 Tryz.prog Tryz.layLen_ren:= {
 mixed:=by kernel_rfl
 f8:=Tryz.func101.trans (congrArg some (by kernel_rfl))
 f19:=Tryz.func145.trans (congrArg some (by kernel_rfl))
 f20:=Tryz.func146.trans (congrArg some (by kernel_rfl))
 t3:=Tryz.underlying3
 a3:=Tryz.isAgg3
 z3:=Tryz.sizeOf3
 v3:=Tryz.zeroValue3
 t4:=Tryz.underlying4
 a4:=Tryz.isAgg4
 z4:=Tryz.sizeOf4
 v4:=Tryz.zeroValue4
 t5:=Tryz.underlying5
 a5:=Tryz.isAgg5
 z5:=Tryz.sizeOf5
 v5:=Tryz.zeroValue5
 t9:=Tryz.underlying9
 a9:=Tryz.isAgg9
 z9:=Tryz.sizeOf9
 v9:=Tryz.zeroValue9
 t32:=Tryz.underlying174
 a32:=Tryz.isAgg174
 z32:=Tryz.sizeOf174
 v32:=Tryz.zeroValue174
 t44:=Tryz.underlying50
 a44:=Tryz.isAgg50
 z44:=Tryz.sizeOf50
 v44:=Tryz.zeroValue50
 t46:=Tryz.underlying22
 a46:=Tryz.isAgg22
 z46:=Tryz.sizeOf22
 v46:=Tryz.zeroValue22}
end Go.Proofs
