/-
  Contracts of the library's functions, laid at this program's numbers: tables of numbers, each body compared by the kernel. No condition.
-/
import Derived.Shelf.SlSortCmp.WholeK
import Derived.Shelf.SlSortCmp.NoneTotal
import Derived.Shelf.SlSorted.Search
import Derived.Ground.SlsfProg
import Derived.Ground.SlsoProg
import Derived.Test.YtdmgpdanlfmadaaGreatProg
namespace Go.Proofs
open Go.Shelf
def Tryz.layOpn_ren:Go.Shelf.Ren:=⟨fun |14=>47 |20=>102 |21=>103 |22=>104 |23=>105 |24=>106 |25=>107 |26=>108 |27=>109 |46=>153 |47=>154 |48=>155 |49=>156 |50=>157 |15=>48 |57=>199 |28=>110 |29=>111 |n=>n,fun |24=>66 |22=>57 |3=>3 |25=>68 |4=>4 |0=>0 |46=>201 |45=>200 |50=>205 |66=>257 |39=>106 |55=>22 |70=>260 |76=>298 |77=>87 |53=>100 |5=>5 |9=>9 |n=>n,fun |n=>n⟩
theorem Tryz.layOpn:Go.Proofs.SlLaysF0.n14 Tryz.prog Tryz.layOpn_ren:= {
 mixed:=by kernel_rfl
 f14:=⟨Tryz.f47.name,by decide,Tryz.func47.trans (congrArg some (by kernel_rfl))⟩
 f15:=Tryz.func48.trans (congrArg some (by kernel_rfl))
 f20:=⟨Tryz.f102.name,by decide,Tryz.func102.trans (congrArg some (by kernel_rfl))⟩
 f21:=⟨Tryz.f103.name,by decide,Tryz.func103.trans (congrArg some (by kernel_rfl))⟩
 f22:=⟨Tryz.f104.name,by decide,Tryz.func104.trans (congrArg some (by kernel_rfl))⟩
 f23:=⟨Tryz.f105.name,by decide,Tryz.func105.trans (congrArg some (by kernel_rfl))⟩
 f24:=⟨Tryz.f106.name,by decide,Tryz.func106.trans (congrArg some (by kernel_rfl))⟩
 f25:=⟨Tryz.f107.name,by decide,Tryz.func107.trans (congrArg some (by kernel_rfl))⟩
 f26:=⟨Tryz.f108.name,by decide,Tryz.func108.trans (congrArg some (by kernel_rfl))⟩
 f27:=⟨Tryz.f109.name,by decide,Tryz.func109.trans (congrArg some (by kernel_rfl))⟩
 f28:=Tryz.func110.trans (congrArg some (by kernel_rfl))
 f29:=Tryz.func111.trans (congrArg some (by kernel_rfl))
 f46:=⟨Tryz.f153.name,by decide,Tryz.func153.trans (congrArg some (by kernel_rfl))⟩
 f47:=Tryz.func154.trans (congrArg some (by kernel_rfl))
 f48:=Tryz.func155.trans (congrArg some (by kernel_rfl))
 f49:=⟨Tryz.f156.name,by decide,Tryz.func156.trans (congrArg some (by kernel_rfl))⟩
 f50:=⟨Tryz.f157.name,by decide,Tryz.func157.trans (congrArg some (by kernel_rfl))⟩
 f57:=⟨Tryz.f199.name,by decide,Tryz.func199.trans (congrArg some (by kernel_rfl))⟩
 t0:=Tryz.underlying0
 a0:=Tryz.isAgg0
 z0:=Tryz.sizeOf0
 v0:=Tryz.zeroValue0
 t3:=Tryz.underlying3
 a3:=Tryz.isAgg3
 z3:=Tryz.sizeOf3
 v3:=Tryz.zeroValue3
 t4:=Tryz.underlying4
 a4:=Tryz.isAgg4
 z4:=Tryz.sizeOf4
 v4:=Tryz.zeroValue4
 t5:=Tryz.underlying5
 a5:=Tryz.isAgg5
 z5:=Tryz.sizeOf5
 v5:=Tryz.zeroValue5
 t9:=Tryz.underlying9
 a9:=Tryz.isAgg9
 z9:=Tryz.sizeOf9
 v9:=Tryz.zeroValue9
 t22:=Tryz.underlying57
 a22:=Tryz.isAgg57
 z22:=Tryz.sizeOf57
 v22:=Tryz.zeroValue57
 t25:=Tryz.underlying68
 a25:=Tryz.isAgg68
 z25:=Tryz.sizeOf68
 v25:=Tryz.zeroValue68
 t39:=Tryz.underlying106
 a39:=Tryz.isAgg106
 z39:=Tryz.sizeOf106
 v39:=Tryz.zeroValue106
 t45:=Tryz.underlying200
 a45:=Tryz.isAgg200
 z45:=Tryz.sizeOf200
 v45:=Tryz.zeroValue200
 t46:=Tryz.underlying201
 a46:=Tryz.isAgg201
 z46:=Tryz.sizeOf201
 v46:=Tryz.zeroValue201
 t50:=Tryz.underlying205
 a50:=Tryz.isAgg205
 z50:=Tryz.sizeOf205
 v50:=Tryz.zeroValue205
 t53:=Tryz.underlying100
 a53:=Tryz.isAgg100
 z53:=Tryz.sizeOf100
 v53:=Tryz.zeroValue100
 t55:=Tryz.underlying22
 a55:=Tryz.isAgg22
 z55:=Tryz.sizeOf22
 v55:=Tryz.zeroValue22
 t66:=Tryz.underlying257
 a66:=Tryz.isAgg257
 z66:=Tryz.sizeOf257
 v66:=Tryz.zeroValue257
 t70:=Tryz.underlying260
 a70:=Tryz.isAgg260
 z70:=Tryz.sizeOf260
 v70:=Tryz.zeroValue260
 t76:=Tryz.underlying298
 a76:=Tryz.isAgg298
 z76:=Tryz.sizeOf298
 v76:=Tryz.zeroValue298
 t77:=Tryz.underlying87
 a77:=Tryz.isAgg87
 z77:=Tryz.sizeOf87
 v77:=Tryz.zeroValue87}
def Tryz.laySearch_ren:Go.Shelf.Ren:=⟨fun |16=>92 |n=>n,fun |3=>3 |35=>188 |4=>4 |38=>106 |n=>n,fun |n=>n⟩
theorem Tryz.laySearch:Go.Proofs.SlLaysO.n16 Tryz.prog Tryz.laySearch_ren:= {
 mixed:=by kernel_rfl
 f16:=Tryz.func92.trans (congrArg some (by kernel_rfl))
 t3:=Tryz.underlying3
 a3:=Tryz.isAgg3
 z3:=Tryz.sizeOf3
 v3:=Tryz.zeroValue3
 t4:=Tryz.underlying4
 a4:=Tryz.isAgg4
 z4:=Tryz.sizeOf4
 v4:=Tryz.zeroValue4
 t35:=Tryz.underlying188
 a35:=Tryz.isAgg188
 z35:=Tryz.sizeOf188
 v35:=Tryz.zeroValue188
 t38:=Tryz.underlying106
 a38:=Tryz.isAgg106
 z38:=Tryz.sizeOf106
 v38:=Tryz.zeroValue106}
end Go.Proofs
