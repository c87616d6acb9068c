/-
  compare of conf.partition, the wrap and the closure that 'by' makes of them, walked.
-/
import Derived.BigQuiet
import Derived.BigRegion
import Derived.Deep.RegionHeld3
import Derived.Deep.Cut
import Derived.Shelf.Abstract
import Derived.Test.YteelncofiodflaaGreatCmpG
import Derived.Test.YteelncofiodflaaGreatCore
import Derived.Lib.Bytealg
import Derived.Lib.Small
namespace Go.Proofs.YteelncofiodflaaGreat
open Go.RowKit Go.Sort
attribute [local go_sem] ext_cell
def cmpPar (x y:Par):Int:=orL [Lib.compareInt x.id y.id,Lib.compareBytes x.name.data.toList y.name.data.toList,Lib.compareInt x.period y.period,Lib.compareInt x.duration y.duration]
set_option maxRecDepth 100000 in
set_option maxHeartbeats 8000000 in
theorem methPar_ok (x y:Par) (W:World):Calls Tryz.prog 65 #[.agg #[.int .u16 x.id, .string x.name, .int .u64 x.period, .int .u64 x.duration], .agg #[.int .u16 y.id, .string y.name, .int .u64 y.period, .int .u64 y.duration]] W fun e w'=>e= .returned (.int .i64 (cmpPar x y))∧Grown W w':=by
 have hstr:=cmpStr_ok
 have hu16:=cmpU16_ok
 have hu64:=cmpU64_ok
 unfold cmpPar
 generalize Lib.compareInt=cI at hu16 hu64 ⊢
 generalize Lib.compareBytes=cB at hstr ⊢
 go_enter Tryz.func65,Tryz.ntmps65
 go_upto_region 1 with (fail)
 have c00:((W.alloc (.cells #[.int .u16 x.id, .string x.name, .int .u64 x.period, .int .u64 x.duration] 119)).alloc (.cells #[.int .u16 y.id, .string y.name, .int .u64 y.period, .int .u64 y.duration] 119)).cell? ⟨W.heap.size,0,none⟩=some (.int .u16 x.id):=by simp
 have c01:((W.alloc (.cells #[.int .u16 x.id, .string x.name, .int .u64 x.period, .int .u64 x.duration] 119)).alloc (.cells #[.int .u16 y.id, .string y.name, .int .u64 y.period, .int .u64 y.duration] 119)).cell? ⟨W.heap.size,1,none⟩=some (.string x.name):=by simp
 have c02:((W.alloc (.cells #[.int .u16 x.id, .string x.name, .int .u64 x.period, .int .u64 x.duration] 119)).alloc (.cells #[.int .u16 y.id, .string y.name, .int .u64 y.period, .int .u64 y.duration] 119)).cell? ⟨W.heap.size,2,none⟩=some (.int .u64 x.period):=by simp
 have c03:((W.alloc (.cells #[.int .u16 x.id, .string x.name, .int .u64 x.period, .int .u64 x.duration] 119)).alloc (.cells #[.int .u16 y.id, .string y.name, .int .u64 y.period, .int .u64 y.duration] 119)).cell? ⟨W.heap.size,3,none⟩=some (.int .u64 x.duration):=by simp
 have c10:((W.alloc (.cells #[.int .u16 x.id, .string x.name, .int .u64 x.period, .int .u64 x.duration] 119)).alloc (.cells #[.int .u16 y.id, .string y.name, .int .u64 y.period, .int .u64 y.duration] 119)).cell? ⟨W.heap.size+1,0,none⟩=some (.int .u16 y.id):=by simp
 have c11:((W.alloc (.cells #[.int .u16 x.id, .string x.name, .int .u64 x.period, .int .u64 x.duration] 119)).alloc (.cells #[.int .u16 y.id, .string y.name, .int .u64 y.period, .int .u64 y.duration] 119)).cell? ⟨W.heap.size+1,1,none⟩=some (.string y.name):=by simp
 have c12:((W.alloc (.cells #[.int .u16 x.id, .string x.name, .int .u64 x.period, .int .u64 x.duration] 119)).alloc (.cells #[.int .u16 y.id, .string y.name, .int .u64 y.period, .int .u64 y.duration] 119)).cell? ⟨W.heap.size+1,2,none⟩=some (.int .u64 y.period):=by simp
 have c13:((W.alloc (.cells #[.int .u16 x.id, .string x.name, .int .u64 x.period, .int .u64 x.duration] 119)).alloc (.cells #[.int .u16 y.id, .string y.name, .int .u64 y.period, .int .u64 y.duration] 119)).cell? ⟨W.heap.size+1,3,none⟩=some (.int .u64 y.duration):=by simp
 have hsz:((W.alloc (.cells #[.int .u16 x.id, .string x.name, .int .u64 x.period, .int .u64 x.duration] 119)).alloc (.cells #[.int .u16 y.id, .string y.name, .int .u64 y.period, .int .u64 y.duration] 119)).heap.size=W.heap.size+2:=by simp
 have hgr:Grown W ((W.alloc (.cells #[.int .u16 x.id, .string x.name, .int .u64 x.period, .int .u64 x.duration] 119)).alloc (.cells #[.int .u16 y.id, .string y.name, .int .u64 y.period, .int .u64 y.duration] 119)):=((Grown.refl W).alloc _).alloc _
 have hb0:W.heap.size <((W.alloc (.cells #[.int .u16 x.id, .string x.name, .int .u64 x.period, .int .u64 x.duration] 119)).alloc (.cells #[.int .u16 y.id, .string y.name, .int .u64 y.period, .int .u64 y.duration] 119)).heap.size:=by rw [hsz];omega
 have hb1:W.heap.size+1 <((W.alloc (.cells #[.int .u16 x.id, .string x.name, .int .u64 x.period, .int .u64 x.duration] 119)).alloc (.cells #[.int .u16 y.id, .string y.name, .int .u64 y.period, .int .u64 y.duration] 119)).heap.size:=by rw [hsz];omega
 clear hsz
 generalize World.alloc (World.alloc W _) _=V at c00 c01 c02 c03 c10 c11 c12 c13 hb0 hb1 hgr ⊢
 generalize W.heap.size+1=b1 at c10 c11 c12 c13 hb1 ⊢
 generalize W.heap.size=b0 at c00 c01 c02 c03 hb0 ⊢
 have HGR:=Lib.hid hgr
 clear hgr
 have KEEP: ∀U,Below V.heap.size V U→(fun w'=>w'.cell? ⟨b0,0,none⟩=some (.int .u16 x.id)∧w'.cell? ⟨b0,1,none⟩=some (.string x.name)∧w'.cell? ⟨b0,2,none⟩=some (.int .u64 x.period)∧w'.cell? ⟨b0,3,none⟩=some (.int .u64 x.duration)∧w'.cell? ⟨b1,0,none⟩=some (.int .u16 y.id)∧w'.cell? ⟨b1,1,none⟩=some (.string y.name)∧w'.cell? ⟨b1,2,none⟩=some (.int .u64 y.period)∧w'.cell? ⟨b1,3,none⟩=some (.int .u64 y.duration)) U:=fun U hU=>by
  have q: ∀b o,b <V.heap.size→U.cell? ⟨b,o,none⟩=V.cell? ⟨b,o,none⟩:=fun b o h=>hU.cell (p:=⟨b,o,none⟩) h
  exact ⟨(q _ _ hb0).trans c00,(q _ _ hb0).trans c01,(q _ _ hb0).trans c02,(q _ _ hb0).trans c03,(q _ _ hb1).trans c10,(q _ _ hb1).trans c11,(q _ _ hb1).trans c12,(q _ _ hb1).trans c13⟩
 have HKP:=Lib.hid KEEP
 clear KEEP
 go_region_held3 (fun w'=>w'.cell? ⟨b0,0,none⟩=some (.int .u16 x.id)∧w'.cell? ⟨b0,1,none⟩=some (.string x.name)∧w'.cell? ⟨b0,2,none⟩=some (.int .u64 x.period)∧w'.cell? ⟨b0,3,none⟩=some (.int .u64 x.duration)∧w'.cell? ⟨b1,0,none⟩=some (.int .u16 y.id)∧w'.cell? ⟨b1,1,none⟩=some (.string y.name)∧w'.cell? ⟨b1,2,none⟩=some (.int .u64 y.period)∧w'.cell? ⟨b1,3,none⟩=some (.int .u64 y.duration))
  (first |(refine HKP.out _ ?_;(repeat (first |with_reducible exact HBW.out |with_reducible exact Below.refl _ _ |with_reducible refine Below.drew ?_ |(with_reducible refine Below.alloc ?_ (by first |(simp;done) |(have hq:=HBW.out.size;simp at hq ⊢;omega)) _) |(with_reducible refine Below.setCell ?_ (by first |(simp;done) |(have hq:=HBW.out.size;simp at hq ⊢;omega)) _)));done) |go_keep)
  (first
  |(go_at_call 107;refine (hstr _ _ _).mono ?_;rintro e w' ⟨rfl,rfl⟩)
  |(go_at_call 106;refine (hu16 _ _ _).mono ?_;rintro e w' ⟨rfl,rfl⟩)
  |(go_at_call 108;refine (hu64 _ _ _).mono ?_;rintro e w' ⟨rfl,rfl⟩)
  |(go_at_call 105;refine (orNew [cI x.id y.id,cB x.name.data.toList y.name.data.toList,cI x.period y.period,cI x.duration y.duration] _ 4 rfl rfl (by simp) _ _ _ rfl (by simp)).mono ?_;rintro e w' ⟨rfl,rfl⟩))
 go_wp2
 go_ret
 refine ⟨rfl, ?_⟩
 have g:=HGR.out
 repeat (first |exact g |refine Grown.drew ?_ |refine Grown.alloc ?_ _)
theorem wrapPar_ok (x:Par) (W:World):Calls Tryz.prog 64 #[.agg #[.int .u16 x.id, .string x.name, .int .u64 x.period, .int .u64 x.duration]] W fun e w'=>e= .returned (.agg #[.int .u16 x.id, .string x.name, .int .u64 x.period, .int .u64 x.duration])∧Grown W w':=by
 go_enter Tryz.func64,Tryz.ntmps64
 go_wp2
 refine bodyPost_ret (v:= .agg #[.int .u16 x.id, .string x.name, .int .u64 x.period, .int .u64 x.duration]) (by simp [results,Tryz.results64,go_sem]) rfl ⟨rfl, ?_⟩
 repeat (first |exact Grown.refl _ |refine Grown.drew ?_ |refine Grown.alloc ?_ _)
set_option maxRecDepth 100000 in
set_option maxHeartbeats 8000000 in
theorem closPar_ok (x y:Par) (d1 d2:Nat) (W:World) (h1:W.cell? ⟨d1,0,none⟩=some (.func (.func 65) #[] #[])) (h2:W.cell? ⟨d2,0,none⟩=some (.func (.func 64) #[] #[])) (l1:d1 <W.heap.size) (l2:d2 <W.heap.size):
  Calls Tryz.prog 104 #[.agg #[.int .u16 x.id, .string x.name, .int .u64 x.period, .int .u64 x.duration], .agg #[.int .u16 y.id, .string y.name, .int .u64 y.period, .int .u64 y.duration], .pointer (some ⟨d1,0,none⟩), .pointer (some ⟨d2,0,none⟩)] W fun e w'=>e= .returned (.int .i64 (cmpPar x y))∧Grown W w':=by
 have hent1: ∀a w,(callFunc 65 a).run Tryz.prog w= .ok (.enter 65 a) w:=enters_of Tryz.func65 (by kernel_rfl) rfl
 have hent2: ∀a w,(callFunc 64 a).run Tryz.prog w= .ok (.enter 64 a) w:=enters_of Tryz.func64 (by kernel_rfl) rfl
 go_enter Tryz.func104,Tryz.ntmps104
 go_upto_region 1 with (fail)
 have c00:((W.alloc (.cells #[.int .u16 x.id, .string x.name, .int .u64 x.period, .int .u64 x.duration] 49)).alloc (.cells #[.int .u16 y.id, .string y.name, .int .u64 y.period, .int .u64 y.duration] 49)).cell? ⟨W.heap.size,0,none⟩=some (.int .u16 x.id):=by simp
 have c01:((W.alloc (.cells #[.int .u16 x.id, .string x.name, .int .u64 x.period, .int .u64 x.duration] 49)).alloc (.cells #[.int .u16 y.id, .string y.name, .int .u64 y.period, .int .u64 y.duration] 49)).cell? ⟨W.heap.size,1,none⟩=some (.string x.name):=by simp
 have c02:((W.alloc (.cells #[.int .u16 x.id, .string x.name, .int .u64 x.period, .int .u64 x.duration] 49)).alloc (.cells #[.int .u16 y.id, .string y.name, .int .u64 y.period, .int .u64 y.duration] 49)).cell? ⟨W.heap.size,2,none⟩=some (.int .u64 x.period):=by simp
 have c03:((W.alloc (.cells #[.int .u16 x.id, .string x.name, .int .u64 x.period, .int .u64 x.duration] 49)).alloc (.cells #[.int .u16 y.id, .string y.name, .int .u64 y.period, .int .u64 y.duration] 49)).cell? ⟨W.heap.size,3,none⟩=some (.int .u64 x.duration):=by simp
 have c10:((W.alloc (.cells #[.int .u16 x.id, .string x.name, .int .u64 x.period, .int .u64 x.duration] 49)).alloc (.cells #[.int .u16 y.id, .string y.name, .int .u64 y.period, .int .u64 y.duration] 49)).cell? ⟨W.heap.size+1,0,none⟩=some (.int .u16 y.id):=by simp
 have c11:((W.alloc (.cells #[.int .u16 x.id, .string x.name, .int .u64 x.period, .int .u64 x.duration] 49)).alloc (.cells #[.int .u16 y.id, .string y.name, .int .u64 y.period, .int .u64 y.duration] 49)).cell? ⟨W.heap.size+1,1,none⟩=some (.string y.name):=by simp
 have c12:((W.alloc (.cells #[.int .u16 x.id, .string x.name, .int .u64 x.period, .int .u64 x.duration] 49)).alloc (.cells #[.int .u16 y.id, .string y.name, .int .u64 y.period, .int .u64 y.duration] 49)).cell? ⟨W.heap.size+1,2,none⟩=some (.int .u64 y.period):=by simp
 have c13:((W.alloc (.cells #[.int .u16 x.id, .string x.name, .int .u64 x.period, .int .u64 x.duration] 49)).alloc (.cells #[.int .u16 y.id, .string y.name, .int .u64 y.period, .int .u64 y.duration] 49)).cell? ⟨W.heap.size+1,3,none⟩=some (.int .u64 y.duration):=by simp
 have hsz:((W.alloc (.cells #[.int .u16 x.id, .string x.name, .int .u64 x.period, .int .u64 x.duration] 49)).alloc (.cells #[.int .u16 y.id, .string y.name, .int .u64 y.period, .int .u64 y.duration] 49)).heap.size=W.heap.size+2:=by simp
 have hgr:Grown W ((W.alloc (.cells #[.int .u16 x.id, .string x.name, .int .u64 x.period, .int .u64 x.duration] 49)).alloc (.cells #[.int .u16 y.id, .string y.name, .int .u64 y.period, .int .u64 y.duration] 49)):=((Grown.refl W).alloc _).alloc _
 have hb0:W.heap.size <((W.alloc (.cells #[.int .u16 x.id, .string x.name, .int .u64 x.period, .int .u64 x.duration] 49)).alloc (.cells #[.int .u16 y.id, .string y.name, .int .u64 y.period, .int .u64 y.duration] 49)).heap.size:=by rw [hsz];omega
 have hb1:W.heap.size+1 <((W.alloc (.cells #[.int .u16 x.id, .string x.name, .int .u64 x.period, .int .u64 x.duration] 49)).alloc (.cells #[.int .u16 y.id, .string y.name, .int .u64 y.period, .int .u64 y.duration] 49)).heap.size:=by rw [hsz];omega
 have k1:=(hgr.below.cell (p:=⟨d1,0,none⟩) l1).trans h1
 have k2:=(hgr.below.cell (p:=⟨d2,0,none⟩) l2).trans h2
 have e1:=Nat.lt_of_lt_of_le l1 hgr.below.size
 have e2:=Nat.lt_of_lt_of_le l2 hgr.below.size
 clear hsz h1 h2 l1 l2
 generalize World.alloc (World.alloc W _) _=V at c00 c01 c02 c03 c10 c11 c12 c13 hb0 hb1 hgr k1 k2 e1 e2 ⊢
 generalize W.heap.size+1=b1 at c10 c11 c12 c13 hb1 ⊢
 generalize W.heap.size=b0 at c00 c01 c02 c03 hb0 ⊢
 have HGR:=Lib.hid hgr
 clear hgr
 have KEEP: ∀U,Below V.heap.size V U→(fun w'=>w'.cell? ⟨b0,0,none⟩=some (.int .u16 x.id)∧w'.cell? ⟨b0,1,none⟩=some (.string x.name)∧w'.cell? ⟨b0,2,none⟩=some (.int .u64 x.period)∧w'.cell? ⟨b0,3,none⟩=some (.int .u64 x.duration)∧w'.cell? ⟨b1,0,none⟩=some (.int .u16 y.id)∧w'.cell? ⟨b1,1,none⟩=some (.string y.name)∧w'.cell? ⟨b1,2,none⟩=some (.int .u64 y.period)∧w'.cell? ⟨b1,3,none⟩=some (.int .u64 y.duration)∧w'.cell? ⟨d1,0,none⟩=some (.func (.func 65) #[] #[])∧w'.cell? ⟨d2,0,none⟩=some (.func (.func 64) #[] #[])) U:=fun U hU=>by
  have q: ∀b o,b <V.heap.size→U.cell? ⟨b,o,none⟩=V.cell? ⟨b,o,none⟩:=fun b o h=>hU.cell (p:=⟨b,o,none⟩) h
  exact ⟨(q _ _ hb0).trans c00,(q _ _ hb0).trans c01,(q _ _ hb0).trans c02,(q _ _ hb0).trans c03,(q _ _ hb1).trans c10,(q _ _ hb1).trans c11,(q _ _ hb1).trans c12,(q _ _ hb1).trans c13,(q _ _ e1).trans k1,(q _ _ e2).trans k2⟩
 have HKP:=Lib.hid KEEP
 clear KEEP
 go_region_held3 (fun w'=>w'.cell? ⟨b0,0,none⟩=some (.int .u16 x.id)∧w'.cell? ⟨b0,1,none⟩=some (.string x.name)∧w'.cell? ⟨b0,2,none⟩=some (.int .u64 x.period)∧w'.cell? ⟨b0,3,none⟩=some (.int .u64 x.duration)∧w'.cell? ⟨b1,0,none⟩=some (.int .u16 y.id)∧w'.cell? ⟨b1,1,none⟩=some (.string y.name)∧w'.cell? ⟨b1,2,none⟩=some (.int .u64 y.period)∧w'.cell? ⟨b1,3,none⟩=some (.int .u64 y.duration)∧w'.cell? ⟨d1,0,none⟩=some (.func (.func 65) #[] #[])∧w'.cell? ⟨d2,0,none⟩=some (.func (.func 64) #[] #[]))
  (first |(refine HKP.out _ ?_;(repeat (first |with_reducible exact HBW.out |with_reducible exact Below.refl _ _ |with_reducible refine Below.drew ?_ |(with_reducible refine Below.alloc ?_ (by first |(simp;done) |(have hq:=HBW.out.size;simp at hq ⊢;omega)) _) |(with_reducible refine Below.setCell ?_ (by first |(simp;done) |(have hq:=HBW.out.size;simp at hq ⊢;omega)) _)));done) |go_keep)
  (first
  |(go_at_call 64;refine (wrapPar_ok x _).mono ?_;rintro e w' ⟨rfl,hg⟩;have HGW:=Lib.hid (Grown.trans (show Grown V _ from (by repeat (first |with_reducible exact HGW.out |with_reducible exact Grown.refl _ |with_reducible refine Grown.drew ?_ |with_reducible refine Grown.alloc ?_ _))) hg);have HBW:=Lib.hid HGW.out.below;clear hg)
  |(go_at_call 64;refine (wrapPar_ok y _).mono ?_;rintro e w' ⟨rfl,hg⟩;have HGW:=Lib.hid (Grown.trans (show Grown V _ from (by repeat (first |with_reducible exact HGW.out |with_reducible exact Grown.refl _ |with_reducible refine Grown.drew ?_ |with_reducible refine Grown.alloc ?_ _))) hg);have HBW:=Lib.hid HGW.out.below;clear hg)
  |(go_at_call 65;refine (methPar_ok x y _).mono ?_;rintro e w' ⟨rfl,hg⟩;have HGW:=Lib.hid (Grown.trans (show Grown V _ from (by repeat (first |with_reducible exact HGW.out |with_reducible exact Grown.refl _ |with_reducible refine Grown.drew ?_ |with_reducible refine Grown.alloc ?_ _))) hg);have HBW:=Lib.hid HGW.out.below;clear hg))
 go_wp2
 go_ret
 exact ⟨rfl,HGR.out.trans (by repeat (first |with_reducible exact HGW.out |with_reducible exact Grown.refl _ |with_reducible refine Grown.drew ?_ |with_reducible refine Grown.alloc ?_ _))⟩
end Go.Proofs.YteelncofiodflaaGreat
namespace Go.Proofs.YteelncofiodflaaGreat
open Go.RowKit Go.Sort
attribute [local go_sem] ext_cell
def cmpWin (x y:Win):Int:=orL [Lib.compareInt x.start y.start,Lib.compareInt x.len y.len,Lib.compareInt x.part y.part]
set_option maxRecDepth 100000 in
set_option maxHeartbeats 8000000 in
theorem methWin_ok (x y:Win) (W:World):Calls Tryz.prog 69 #[.agg #[.int .u64 x.start, .int .u64 x.len, .int .u16 x.part], .agg #[.int .u64 y.start, .int .u64 y.len, .int .u16 y.part]] W fun e w'=>e= .returned (.int .i64 (cmpWin x y))∧Grown W w':=by
 have hu16:=cmpU16_ok
 have hu64:=cmpU64_ok
 unfold cmpWin
 generalize Lib.compareInt=cI at hu16 hu64 ⊢
 go_enter Tryz.func69,Tryz.ntmps69
 go_upto_region 1 with (fail)
 have c00:((W.alloc (.cells #[.int .u64 x.start, .int .u64 x.len, .int .u16 x.part] 127)).alloc (.cells #[.int .u64 y.start, .int .u64 y.len, .int .u16 y.part] 127)).cell? ⟨W.heap.size,0,none⟩=some (.int .u64 x.start):=by simp
 have c01:((W.alloc (.cells #[.int .u64 x.start, .int .u64 x.len, .int .u16 x.part] 127)).alloc (.cells #[.int .u64 y.start, .int .u64 y.len, .int .u16 y.part] 127)).cell? ⟨W.heap.size,1,none⟩=some (.int .u64 x.len):=by simp
 have c02:((W.alloc (.cells #[.int .u64 x.start, .int .u64 x.len, .int .u16 x.part] 127)).alloc (.cells #[.int .u64 y.start, .int .u64 y.len, .int .u16 y.part] 127)).cell? ⟨W.heap.size,2,none⟩=some (.int .u16 x.part):=by simp
 have c10:((W.alloc (.cells #[.int .u64 x.start, .int .u64 x.len, .int .u16 x.part] 127)).alloc (.cells #[.int .u64 y.start, .int .u64 y.len, .int .u16 y.part] 127)).cell? ⟨W.heap.size+1,0,none⟩=some (.int .u64 y.start):=by simp
 have c11:((W.alloc (.cells #[.int .u64 x.start, .int .u64 x.len, .int .u16 x.part] 127)).alloc (.cells #[.int .u64 y.start, .int .u64 y.len, .int .u16 y.part] 127)).cell? ⟨W.heap.size+1,1,none⟩=some (.int .u64 y.len):=by simp
 have c12:((W.alloc (.cells #[.int .u64 x.start, .int .u64 x.len, .int .u16 x.part] 127)).alloc (.cells #[.int .u64 y.start, .int .u64 y.len, .int .u16 y.part] 127)).cell? ⟨W.heap.size+1,2,none⟩=some (.int .u16 y.part):=by simp
 have hsz:((W.alloc (.cells #[.int .u64 x.start, .int .u64 x.len, .int .u16 x.part] 127)).alloc (.cells #[.int .u64 y.start, .int .u64 y.len, .int .u16 y.part] 127)).heap.size=W.heap.size+2:=by simp
 have hgr:Grown W ((W.alloc (.cells #[.int .u64 x.start, .int .u64 x.len, .int .u16 x.part] 127)).alloc (.cells #[.int .u64 y.start, .int .u64 y.len, .int .u16 y.part] 127)):=((Grown.refl W).alloc _).alloc _
 have hb0:W.heap.size <((W.alloc (.cells #[.int .u64 x.start, .int .u64 x.len, .int .u16 x.part] 127)).alloc (.cells #[.int .u64 y.start, .int .u64 y.len, .int .u16 y.part] 127)).heap.size:=by rw [hsz];omega
 have hb1:W.heap.size+1 <((W.alloc (.cells #[.int .u64 x.start, .int .u64 x.len, .int .u16 x.part] 127)).alloc (.cells #[.int .u64 y.start, .int .u64 y.len, .int .u16 y.part] 127)).heap.size:=by rw [hsz];omega
 clear hsz
 generalize World.alloc (World.alloc W _) _=V at c00 c01 c02 c10 c11 c12 hb0 hb1 hgr ⊢
 generalize W.heap.size+1=b1 at c10 c11 c12 hb1 ⊢
 generalize W.heap.size=b0 at c00 c01 c02 hb0 ⊢
 have HGR:=Lib.hid hgr
 clear hgr
 have KEEP: ∀U,Below V.heap.size V U→(fun w'=>w'.cell? ⟨b0,0,none⟩=some (.int .u64 x.start)∧w'.cell? ⟨b0,1,none⟩=some (.int .u64 x.len)∧w'.cell? ⟨b0,2,none⟩=some (.int .u16 x.part)∧w'.cell? ⟨b1,0,none⟩=some (.int .u64 y.start)∧w'.cell? ⟨b1,1,none⟩=some (.int .u64 y.len)∧w'.cell? ⟨b1,2,none⟩=some (.int .u16 y.part)) U:=fun U hU=>by
  have q: ∀b o,b <V.heap.size→U.cell? ⟨b,o,none⟩=V.cell? ⟨b,o,none⟩:=fun b o h=>hU.cell (p:=⟨b,o,none⟩) h
  exact ⟨(q _ _ hb0).trans c00,(q _ _ hb0).trans c01,(q _ _ hb0).trans c02,(q _ _ hb1).trans c10,(q _ _ hb1).trans c11,(q _ _ hb1).trans c12⟩
 have HKP:=Lib.hid KEEP
 clear KEEP
 go_region_held3 (fun w'=>w'.cell? ⟨b0,0,none⟩=some (.int .u64 x.start)∧w'.cell? ⟨b0,1,none⟩=some (.int .u64 x.len)∧w'.cell? ⟨b0,2,none⟩=some (.int .u16 x.part)∧w'.cell? ⟨b1,0,none⟩=some (.int .u64 y.start)∧w'.cell? ⟨b1,1,none⟩=some (.int .u64 y.len)∧w'.cell? ⟨b1,2,none⟩=some (.int .u16 y.part))
  (first |(refine HKP.out _ ?_;(repeat (first |with_reducible exact HBW.out |with_reducible exact Below.refl _ _ |with_reducible refine Below.drew ?_ |(with_reducible refine Below.alloc ?_ (by first |(simp;done) |(have hq:=HBW.out.size;simp at hq ⊢;omega)) _) |(with_reducible refine Below.setCell ?_ (by first |(simp;done) |(have hq:=HBW.out.size;simp at hq ⊢;omega)) _)));done) |go_keep)
  (first
  |(go_at_call 106;refine (hu16 _ _ _).mono ?_;rintro e w' ⟨rfl,rfl⟩)
  |(go_at_call 108;refine (hu64 _ _ _).mono ?_;rintro e w' ⟨rfl,rfl⟩)
  |(go_at_call 105;refine (orNew [cI x.start y.start,cI x.len y.len,cI x.part y.part] _ 3 rfl rfl (by simp) _ _ _ rfl (by simp)).mono ?_;rintro e w' ⟨rfl,rfl⟩))
 go_wp2
 go_ret
 refine ⟨rfl, ?_⟩
 have g:=HGR.out
 repeat (first |exact g |refine Grown.drew ?_ |refine Grown.alloc ?_ _)
theorem wrapWin_ok (x:Win) (W:World):Calls Tryz.prog 68 #[.agg #[.int .u64 x.start, .int .u64 x.len, .int .u16 x.part]] W fun e w'=>e= .returned (.agg #[.int .u64 x.start, .int .u64 x.len, .int .u16 x.part])∧Grown W w':=by
 go_enter Tryz.func68,Tryz.ntmps68
 go_wp2
 refine bodyPost_ret (v:= .agg #[.int .u64 x.start, .int .u64 x.len, .int .u16 x.part]) (by simp [results,Tryz.results68,go_sem]) rfl ⟨rfl, ?_⟩
 repeat (first |exact Grown.refl _ |refine Grown.drew ?_ |refine Grown.alloc ?_ _)
set_option maxRecDepth 100000 in
set_option maxHeartbeats 8000000 in
theorem closWin_ok (x y:Win) (d1 d2:Nat) (W:World) (h1:W.cell? ⟨d1,0,none⟩=some (.func (.func 69) #[] #[])) (h2:W.cell? ⟨d2,0,none⟩=some (.func (.func 68) #[] #[])) (l1:d1 <W.heap.size) (l2:d2 <W.heap.size):
  Calls Tryz.prog 111 #[.agg #[.int .u64 x.start, .int .u64 x.len, .int .u16 x.part], .agg #[.int .u64 y.start, .int .u64 y.len, .int .u16 y.part], .pointer (some ⟨d1,0,none⟩), .pointer (some ⟨d2,0,none⟩)] W fun e w'=>e= .returned (.int .i64 (cmpWin x y))∧Grown W w':=by
 have hent1: ∀a w,(callFunc 69 a).run Tryz.prog w= .ok (.enter 69 a) w:=enters_of Tryz.func69 (by kernel_rfl) rfl
 have hent2: ∀a w,(callFunc 68 a).run Tryz.prog w= .ok (.enter 68 a) w:=enters_of Tryz.func68 (by kernel_rfl) rfl
 go_enter Tryz.func111,Tryz.ntmps111
 go_upto_region 1 with (fail)
 have c00:((W.alloc (.cells #[.int .u64 x.start, .int .u64 x.len, .int .u16 x.part] 71)).alloc (.cells #[.int .u64 y.start, .int .u64 y.len, .int .u16 y.part] 71)).cell? ⟨W.heap.size,0,none⟩=some (.int .u64 x.start):=by simp
 have c01:((W.alloc (.cells #[.int .u64 x.start, .int .u64 x.len, .int .u16 x.part] 71)).alloc (.cells #[.int .u64 y.start, .int .u64 y.len, .int .u16 y.part] 71)).cell? ⟨W.heap.size,1,none⟩=some (.int .u64 x.len):=by simp
 have c02:((W.alloc (.cells #[.int .u64 x.start, .int .u64 x.len, .int .u16 x.part] 71)).alloc (.cells #[.int .u64 y.start, .int .u64 y.len, .int .u16 y.part] 71)).cell? ⟨W.heap.size,2,none⟩=some (.int .u16 x.part):=by simp
 have c10:((W.alloc (.cells #[.int .u64 x.start, .int .u64 x.len, .int .u16 x.part] 71)).alloc (.cells #[.int .u64 y.start, .int .u64 y.len, .int .u16 y.part] 71)).cell? ⟨W.heap.size+1,0,none⟩=some (.int .u64 y.start):=by simp
 have c11:((W.alloc (.cells #[.int .u64 x.start, .int .u64 x.len, .int .u16 x.part] 71)).alloc (.cells #[.int .u64 y.start, .int .u64 y.len, .int .u16 y.part] 71)).cell? ⟨W.heap.size+1,1,none⟩=some (.int .u64 y.len):=by simp
 have c12:((W.alloc (.cells #[.int .u64 x.start, .int .u64 x.len, .int .u16 x.part] 71)).alloc (.cells #[.int .u64 y.start, .int .u64 y.len, .int .u16 y.part] 71)).cell? ⟨W.heap.size+1,2,none⟩=some (.int .u16 y.part):=by simp
 have hsz:((W.alloc (.cells #[.int .u64 x.start, .int .u64 x.len, .int .u16 x.part] 71)).alloc (.cells #[.int .u64 y.start, .int .u64 y.len, .int .u16 y.part] 71)).heap.size=W.heap.size+2:=by simp
 have hgr:Grown W ((W.alloc (.cells #[.int .u64 x.start, .int .u64 x.len, .int .u16 x.part] 71)).alloc (.cells #[.int .u64 y.start, .int .u64 y.len, .int .u16 y.part] 71)):=((Grown.refl W).alloc _).alloc _
 have hb0:W.heap.size <((W.alloc (.cells #[.int .u64 x.start, .int .u64 x.len, .int .u16 x.part] 71)).alloc (.cells #[.int .u64 y.start, .int .u64 y.len, .int .u16 y.part] 71)).heap.size:=by rw [hsz];omega
 have hb1:W.heap.size+1 <((W.alloc (.cells #[.int .u64 x.start, .int .u64 x.len, .int .u16 x.part] 71)).alloc (.cells #[.int .u64 y.start, .int .u64 y.len, .int .u16 y.part] 71)).heap.size:=by rw [hsz];omega
 have k1:=(hgr.below.cell (p:=⟨d1,0,none⟩) l1).trans h1
 have k2:=(hgr.below.cell (p:=⟨d2,0,none⟩) l2).trans h2
 have e1:=Nat.lt_of_lt_of_le l1 hgr.below.size
 have e2:=Nat.lt_of_lt_of_le l2 hgr.below.size
 clear hsz h1 h2 l1 l2
 generalize World.alloc (World.alloc W _) _=V at c00 c01 c02 c10 c11 c12 hb0 hb1 hgr k1 k2 e1 e2 ⊢
 generalize W.heap.size+1=b1 at c10 c11 c12 hb1 ⊢
 generalize W.heap.size=b0 at c00 c01 c02 hb0 ⊢
 have HGR:=Lib.hid hgr
 clear hgr
 have KEEP: ∀U,Below V.heap.size V U→(fun w'=>w'.cell? ⟨b0,0,none⟩=some (.int .u64 x.start)∧w'.cell? ⟨b0,1,none⟩=some (.int .u64 x.len)∧w'.cell? ⟨b0,2,none⟩=some (.int .u16 x.part)∧w'.cell? ⟨b1,0,none⟩=some (.int .u64 y.start)∧w'.cell? ⟨b1,1,none⟩=some (.int .u64 y.len)∧w'.cell? ⟨b1,2,none⟩=some (.int .u16 y.part)∧w'.cell? ⟨d1,0,none⟩=some (.func (.func 69) #[] #[])∧w'.cell? ⟨d2,0,none⟩=some (.func (.func 68) #[] #[])) U:=fun U hU=>by
  have q: ∀b o,b <V.heap.size→U.cell? ⟨b,o,none⟩=V.cell? ⟨b,o,none⟩:=fun b o h=>hU.cell (p:=⟨b,o,none⟩) h
  exact ⟨(q _ _ hb0).trans c00,(q _ _ hb0).trans c01,(q _ _ hb0).trans c02,(q _ _ hb1).trans c10,(q _ _ hb1).trans c11,(q _ _ hb1).trans c12,(q _ _ e1).trans k1,(q _ _ e2).trans k2⟩
 have HKP:=Lib.hid KEEP
 clear KEEP
 go_region_held3 (fun w'=>w'.cell? ⟨b0,0,none⟩=some (.int .u64 x.start)∧w'.cell? ⟨b0,1,none⟩=some (.int .u64 x.len)∧w'.cell? ⟨b0,2,none⟩=some (.int .u16 x.part)∧w'.cell? ⟨b1,0,none⟩=some (.int .u64 y.start)∧w'.cell? ⟨b1,1,none⟩=some (.int .u64 y.len)∧w'.cell? ⟨b1,2,none⟩=some (.int .u16 y.part)∧w'.cell? ⟨d1,0,none⟩=some (.func (.func 69) #[] #[])∧w'.cell? ⟨d2,0,none⟩=some (.func (.func 68) #[] #[]))
  (first |(refine HKP.out _ ?_;(repeat (first |with_reducible exact HBW.out |with_reducible exact Below.refl _ _ |with_reducible refine Below.drew ?_ |(with_reducible refine Below.alloc ?_ (by first |(simp;done) |(have hq:=HBW.out.size;simp at hq ⊢;omega)) _) |(with_reducible refine Below.setCell ?_ (by first |(simp;done) |(have hq:=HBW.out.size;simp at hq ⊢;omega)) _)));done) |go_keep)
  (first
  |(go_at_call 68;refine (wrapWin_ok x _).mono ?_;rintro e w' ⟨rfl,hg⟩;have HGW:=Lib.hid (Grown.trans (show Grown V _ from (by repeat (first |with_reducible exact HGW.out |with_reducible exact Grown.refl _ |with_reducible refine Grown.drew ?_ |with_reducible refine Grown.alloc ?_ _))) hg);have HBW:=Lib.hid HGW.out.below;clear hg)
  |(go_at_call 68;refine (wrapWin_ok y _).mono ?_;rintro e w' ⟨rfl,hg⟩;have HGW:=Lib.hid (Grown.trans (show Grown V _ from (by repeat (first |with_reducible exact HGW.out |with_reducible exact Grown.refl _ |with_reducible refine Grown.drew ?_ |with_reducible refine Grown.alloc ?_ _))) hg);have HBW:=Lib.hid HGW.out.below;clear hg)
  |(go_at_call 69;refine (methWin_ok x y _).mono ?_;rintro e w' ⟨rfl,hg⟩;have HGW:=Lib.hid (Grown.trans (show Grown V _ from (by repeat (first |with_reducible exact HGW.out |with_reducible exact Grown.refl _ |with_reducible refine Grown.drew ?_ |with_reducible refine Grown.alloc ?_ _))) hg);have HBW:=Lib.hid HGW.out.below;clear hg))
 go_wp2
 go_ret
 exact ⟨rfl,HGR.out.trans (by repeat (first |with_reducible exact HGW.out |with_reducible exact Grown.refl _ |with_reducible refine Grown.drew ?_ |with_reducible refine Grown.alloc ?_ _))⟩
end Go.Proofs.YteelncofiodflaaGreat
namespace Go.Proofs.YteelncofiodflaaGreat
open Go.RowKit Go.Sort
attribute [local go_sem] ext_cell
def cmpReg (x y:Reg):Int:=orL [Lib.compareInt x.base y.base,Lib.compareInt x.size y.size,Lib.compareInt x.part y.part,Lib.compareInt x.rights y.rights,flagI x.shared y.shared]
set_option maxRecDepth 100000 in
set_option maxHeartbeats 8000000 in
theorem methReg_ok (x y:Reg) (W:World):Calls Tryz.prog 73 #[.agg #[.int .u64 x.base, .int .u64 x.size, .int .u16 x.part, .int .u8 x.rights, .bool x.shared], .agg #[.int .u64 y.base, .int .u64 y.size, .int .u16 y.part, .int .u8 y.rights, .bool y.shared]] W fun e w'=>e= .returned (.int .i64 (cmpReg x y))∧Grown W w':=by
 have hbool:=flag_ok
 have hu16:=cmpU16_ok
 have hu64:=cmpU64_ok
 have hu8:=cmpU8_ok
 unfold cmpReg
 generalize Lib.compareInt=cI at hu16 hu64 hu8 ⊢
 generalize flagI=fI at hbool ⊢
 go_enter Tryz.func73,Tryz.ntmps73
 go_upto_region 1 with (fail)
 have c00:((W.alloc (.cells #[.int .u64 x.base, .int .u64 x.size, .int .u16 x.part, .int .u8 x.rights, .bool x.shared] 135)).alloc (.cells #[.int .u64 y.base, .int .u64 y.size, .int .u16 y.part, .int .u8 y.rights, .bool y.shared] 135)).cell? ⟨W.heap.size,0,none⟩=some (.int .u64 x.base):=by simp
 have c01:((W.alloc (.cells #[.int .u64 x.base, .int .u64 x.size, .int .u16 x.part, .int .u8 x.rights, .bool x.shared] 135)).alloc (.cells #[.int .u64 y.base, .int .u64 y.size, .int .u16 y.part, .int .u8 y.rights, .bool y.shared] 135)).cell? ⟨W.heap.size,1,none⟩=some (.int .u64 x.size):=by simp
 have c02:((W.alloc (.cells #[.int .u64 x.base, .int .u64 x.size, .int .u16 x.part, .int .u8 x.rights, .bool x.shared] 135)).alloc (.cells #[.int .u64 y.base, .int .u64 y.size, .int .u16 y.part, .int .u8 y.rights, .bool y.shared] 135)).cell? ⟨W.heap.size,2,none⟩=some (.int .u16 x.part):=by simp
 have c03:((W.alloc (.cells #[.int .u64 x.base, .int .u64 x.size, .int .u16 x.part, .int .u8 x.rights, .bool x.shared] 135)).alloc (.cells #[.int .u64 y.base, .int .u64 y.size, .int .u16 y.part, .int .u8 y.rights, .bool y.shared] 135)).cell? ⟨W.heap.size,3,none⟩=some (.int .u8 x.rights):=by simp
 have c04:((W.alloc (.cells #[.int .u64 x.base, .int .u64 x.size, .int .u16 x.part, .int .u8 x.rights, .bool x.shared] 135)).alloc (.cells #[.int .u64 y.base, .int .u64 y.size, .int .u16 y.part, .int .u8 y.rights, .bool y.shared] 135)).cell? ⟨W.heap.size,4,none⟩=some (.bool x.shared):=by simp
 have c10:((W.alloc (.cells #[.int .u64 x.base, .int .u64 x.size, .int .u16 x.part, .int .u8 x.rights, .bool x.shared] 135)).alloc (.cells #[.int .u64 y.base, .int .u64 y.size, .int .u16 y.part, .int .u8 y.rights, .bool y.shared] 135)).cell? ⟨W.heap.size+1,0,none⟩=some (.int .u64 y.base):=by simp
 have c11:((W.alloc (.cells #[.int .u64 x.base, .int .u64 x.size, .int .u16 x.part, .int .u8 x.rights, .bool x.shared] 135)).alloc (.cells #[.int .u64 y.base, .int .u64 y.size, .int .u16 y.part, .int .u8 y.rights, .bool y.shared] 135)).cell? ⟨W.heap.size+1,1,none⟩=some (.int .u64 y.size):=by simp
 have c12:((W.alloc (.cells #[.int .u64 x.base, .int .u64 x.size, .int .u16 x.part, .int .u8 x.rights, .bool x.shared] 135)).alloc (.cells #[.int .u64 y.base, .int .u64 y.size, .int .u16 y.part, .int .u8 y.rights, .bool y.shared] 135)).cell? ⟨W.heap.size+1,2,none⟩=some (.int .u16 y.part):=by simp
 have c13:((W.alloc (.cells #[.int .u64 x.base, .int .u64 x.size, .int .u16 x.part, .int .u8 x.rights, .bool x.shared] 135)).alloc (.cells #[.int .u64 y.base, .int .u64 y.size, .int .u16 y.part, .int .u8 y.rights, .bool y.shared] 135)).cell? ⟨W.heap.size+1,3,none⟩=some (.int .u8 y.rights):=by simp
 have c14:((W.alloc (.cells #[.int .u64 x.base, .int .u64 x.size, .int .u16 x.part, .int .u8 x.rights, .bool x.shared] 135)).alloc (.cells #[.int .u64 y.base, .int .u64 y.size, .int .u16 y.part, .int .u8 y.rights, .bool y.shared] 135)).cell? ⟨W.heap.size+1,4,none⟩=some (.bool y.shared):=by simp
 have hsz:((W.alloc (.cells #[.int .u64 x.base, .int .u64 x.size, .int .u16 x.part, .int .u8 x.rights, .bool x.shared] 135)).alloc (.cells #[.int .u64 y.base, .int .u64 y.size, .int .u16 y.part, .int .u8 y.rights, .bool y.shared] 135)).heap.size=W.heap.size+2:=by simp
 have hgr:Grown W ((W.alloc (.cells #[.int .u64 x.base, .int .u64 x.size, .int .u16 x.part, .int .u8 x.rights, .bool x.shared] 135)).alloc (.cells #[.int .u64 y.base, .int .u64 y.size, .int .u16 y.part, .int .u8 y.rights, .bool y.shared] 135)):=((Grown.refl W).alloc _).alloc _
 have hb0:W.heap.size <((W.alloc (.cells #[.int .u64 x.base, .int .u64 x.size, .int .u16 x.part, .int .u8 x.rights, .bool x.shared] 135)).alloc (.cells #[.int .u64 y.base, .int .u64 y.size, .int .u16 y.part, .int .u8 y.rights, .bool y.shared] 135)).heap.size:=by rw [hsz];omega
 have hb1:W.heap.size+1 <((W.alloc (.cells #[.int .u64 x.base, .int .u64 x.size, .int .u16 x.part, .int .u8 x.rights, .bool x.shared] 135)).alloc (.cells #[.int .u64 y.base, .int .u64 y.size, .int .u16 y.part, .int .u8 y.rights, .bool y.shared] 135)).heap.size:=by rw [hsz];omega
 clear hsz
 generalize World.alloc (World.alloc W _) _=V at c00 c01 c02 c03 c04 c10 c11 c12 c13 c14 hb0 hb1 hgr ⊢
 generalize W.heap.size+1=b1 at c10 c11 c12 c13 c14 hb1 ⊢
 generalize W.heap.size=b0 at c00 c01 c02 c03 c04 hb0 ⊢
 have HGR:=Lib.hid hgr
 clear hgr
 have KEEP: ∀U,Below V.heap.size V U→(fun w'=>w'.cell? ⟨b0,0,none⟩=some (.int .u64 x.base)∧w'.cell? ⟨b0,1,none⟩=some (.int .u64 x.size)∧w'.cell? ⟨b0,2,none⟩=some (.int .u16 x.part)∧w'.cell? ⟨b0,3,none⟩=some (.int .u8 x.rights)∧w'.cell? ⟨b0,4,none⟩=some (.bool x.shared)∧w'.cell? ⟨b1,0,none⟩=some (.int .u64 y.base)∧w'.cell? ⟨b1,1,none⟩=some (.int .u64 y.size)∧w'.cell? ⟨b1,2,none⟩=some (.int .u16 y.part)∧w'.cell? ⟨b1,3,none⟩=some (.int .u8 y.rights)∧w'.cell? ⟨b1,4,none⟩=some (.bool y.shared)) U:=fun U hU=>by
  have q: ∀b o,b <V.heap.size→U.cell? ⟨b,o,none⟩=V.cell? ⟨b,o,none⟩:=fun b o h=>hU.cell (p:=⟨b,o,none⟩) h
  exact ⟨(q _ _ hb0).trans c00,(q _ _ hb0).trans c01,(q _ _ hb0).trans c02,(q _ _ hb0).trans c03,(q _ _ hb0).trans c04,(q _ _ hb1).trans c10,(q _ _ hb1).trans c11,(q _ _ hb1).trans c12,(q _ _ hb1).trans c13,(q _ _ hb1).trans c14⟩
 have HKP:=Lib.hid KEEP
 clear KEEP
 go_region_held3 (fun w'=>w'.cell? ⟨b0,0,none⟩=some (.int .u64 x.base)∧w'.cell? ⟨b0,1,none⟩=some (.int .u64 x.size)∧w'.cell? ⟨b0,2,none⟩=some (.int .u16 x.part)∧w'.cell? ⟨b0,3,none⟩=some (.int .u8 x.rights)∧w'.cell? ⟨b0,4,none⟩=some (.bool x.shared)∧w'.cell? ⟨b1,0,none⟩=some (.int .u64 y.base)∧w'.cell? ⟨b1,1,none⟩=some (.int .u64 y.size)∧w'.cell? ⟨b1,2,none⟩=some (.int .u16 y.part)∧w'.cell? ⟨b1,3,none⟩=some (.int .u8 y.rights)∧w'.cell? ⟨b1,4,none⟩=some (.bool y.shared))
  (first |(refine HKP.out _ ?_;(repeat (first |with_reducible exact HBW.out |with_reducible exact Below.refl _ _ |with_reducible refine Below.drew ?_ |(with_reducible refine Below.alloc ?_ (by first |(simp;done) |(have hq:=HBW.out.size;simp at hq ⊢;omega)) _) |(with_reducible refine Below.setCell ?_ (by first |(simp;done) |(have hq:=HBW.out.size;simp at hq ⊢;omega)) _)));done) |go_keep)
  (first
  |(go_at_call 116;refine (hbool _ _ _).mono ?_;rintro e w' ⟨rfl,rfl⟩)
  |(go_at_call 106;refine (hu16 _ _ _).mono ?_;rintro e w' ⟨rfl,rfl⟩)
  |(go_at_call 108;refine (hu64 _ _ _).mono ?_;rintro e w' ⟨rfl,rfl⟩)
  |(go_at_call 115;refine (hu8 _ _ _).mono ?_;rintro e w' ⟨rfl,rfl⟩)
  |(go_at_call 105;refine (orNew [cI x.base y.base,cI x.size y.size,cI x.part y.part,cI x.rights y.rights,fI x.shared y.shared] _ 5 rfl rfl (by simp) _ _ _ rfl (by simp)).mono ?_;rintro e w' ⟨rfl,rfl⟩))
 go_wp2
 go_ret
 refine ⟨rfl, ?_⟩
 have g:=HGR.out
 repeat (first |exact g |refine Grown.drew ?_ |refine Grown.alloc ?_ _)
theorem wrapReg_ok (x:Reg) (W:World):Calls Tryz.prog 72 #[.agg #[.int .u64 x.base, .int .u64 x.size, .int .u16 x.part, .int .u8 x.rights, .bool x.shared]] W fun e w'=>e= .returned (.agg #[.int .u64 x.base, .int .u64 x.size, .int .u16 x.part, .int .u8 x.rights, .bool x.shared])∧Grown W w':=by
 go_enter Tryz.func72,Tryz.ntmps72
 go_wp2
 refine bodyPost_ret (v:= .agg #[.int .u64 x.base, .int .u64 x.size, .int .u16 x.part, .int .u8 x.rights, .bool x.shared]) (by simp [results,Tryz.results72,go_sem]) rfl ⟨rfl, ?_⟩
 repeat (first |exact Grown.refl _ |refine Grown.drew ?_ |refine Grown.alloc ?_ _)
set_option maxRecDepth 100000 in
set_option maxHeartbeats 8000000 in
theorem closReg_ok (x y:Reg) (d1 d2:Nat) (W:World) (h1:W.cell? ⟨d1,0,none⟩=some (.func (.func 73) #[] #[])) (h2:W.cell? ⟨d2,0,none⟩=some (.func (.func 72) #[] #[])) (l1:d1 <W.heap.size) (l2:d2 <W.heap.size):
  Calls Tryz.prog 114 #[.agg #[.int .u64 x.base, .int .u64 x.size, .int .u16 x.part, .int .u8 x.rights, .bool x.shared], .agg #[.int .u64 y.base, .int .u64 y.size, .int .u16 y.part, .int .u8 y.rights, .bool y.shared], .pointer (some ⟨d1,0,none⟩), .pointer (some ⟨d2,0,none⟩)] W fun e w'=>e= .returned (.int .i64 (cmpReg x y))∧Grown W w':=by
 have hent1: ∀a w,(callFunc 73 a).run Tryz.prog w= .ok (.enter 73 a) w:=enters_of Tryz.func73 (by kernel_rfl) rfl
 have hent2: ∀a w,(callFunc 72 a).run Tryz.prog w= .ok (.enter 72 a) w:=enters_of Tryz.func72 (by kernel_rfl) rfl
 go_enter Tryz.func114,Tryz.ntmps114
 go_upto_region 1 with (fail)
 have c00:((W.alloc (.cells #[.int .u64 x.base, .int .u64 x.size, .int .u16 x.part, .int .u8 x.rights, .bool x.shared] 75)).alloc (.cells #[.int .u64 y.base, .int .u64 y.size, .int .u16 y.part, .int .u8 y.rights, .bool y.shared] 75)).cell? ⟨W.heap.size,0,none⟩=some (.int .u64 x.base):=by simp
 have c01:((W.alloc (.cells #[.int .u64 x.base, .int .u64 x.size, .int .u16 x.part, .int .u8 x.rights, .bool x.shared] 75)).alloc (.cells #[.int .u64 y.base, .int .u64 y.size, .int .u16 y.part, .int .u8 y.rights, .bool y.shared] 75)).cell? ⟨W.heap.size,1,none⟩=some (.int .u64 x.size):=by simp
 have c02:((W.alloc (.cells #[.int .u64 x.base, .int .u64 x.size, .int .u16 x.part, .int .u8 x.rights, .bool x.shared] 75)).alloc (.cells #[.int .u64 y.base, .int .u64 y.size, .int .u16 y.part, .int .u8 y.rights, .bool y.shared] 75)).cell? ⟨W.heap.size,2,none⟩=some (.int .u16 x.part):=by simp
 have c03:((W.alloc (.cells #[.int .u64 x.base, .int .u64 x.size, .int .u16 x.part, .int .u8 x.rights, .bool x.shared] 75)).alloc (.cells #[.int .u64 y.base, .int .u64 y.size, .int .u16 y.part, .int .u8 y.rights, .bool y.shared] 75)).cell? ⟨W.heap.size,3,none⟩=some (.int .u8 x.rights):=by simp
 have c04:((W.alloc (.cells #[.int .u64 x.base, .int .u64 x.size, .int .u16 x.part, .int .u8 x.rights, .bool x.shared] 75)).alloc (.cells #[.int .u64 y.base, .int .u64 y.size, .int .u16 y.part, .int .u8 y.rights, .bool y.shared] 75)).cell? ⟨W.heap.size,4,none⟩=some (.bool x.shared):=by simp
 have c10:((W.alloc (.cells #[.int .u64 x.base, .int .u64 x.size, .int .u16 x.part, .int .u8 x.rights, .bool x.shared] 75)).alloc (.cells #[.int .u64 y.base, .int .u64 y.size, .int .u16 y.part, .int .u8 y.rights, .bool y.shared] 75)).cell? ⟨W.heap.size+1,0,none⟩=some (.int .u64 y.base):=by simp
 have c11:((W.alloc (.cells #[.int .u64 x.base, .int .u64 x.size, .int .u16 x.part, .int .u8 x.rights, .bool x.shared] 75)).alloc (.cells #[.int .u64 y.base, .int .u64 y.size, .int .u16 y.part, .int .u8 y.rights, .bool y.shared] 75)).cell? ⟨W.heap.size+1,1,none⟩=some (.int .u64 y.size):=by simp
 have c12:((W.alloc (.cells #[.int .u64 x.base, .int .u64 x.size, .int .u16 x.part, .int .u8 x.rights, .bool x.shared] 75)).alloc (.cells #[.int .u64 y.base, .int .u64 y.size, .int .u16 y.part, .int .u8 y.rights, .bool y.shared] 75)).cell? ⟨W.heap.size+1,2,none⟩=some (.int .u16 y.part):=by simp
 have c13:((W.alloc (.cells #[.int .u64 x.base, .int .u64 x.size, .int .u16 x.part, .int .u8 x.rights, .bool x.shared] 75)).alloc (.cells #[.int .u64 y.base, .int .u64 y.size, .int .u16 y.part, .int .u8 y.rights, .bool y.shared] 75)).cell? ⟨W.heap.size+1,3,none⟩=some (.int .u8 y.rights):=by simp
 have c14:((W.alloc (.cells #[.int .u64 x.base, .int .u64 x.size, .int .u16 x.part, .int .u8 x.rights, .bool x.shared] 75)).alloc (.cells #[.int .u64 y.base, .int .u64 y.size, .int .u16 y.part, .int .u8 y.rights, .bool y.shared] 75)).cell? ⟨W.heap.size+1,4,none⟩=some (.bool y.shared):=by simp
 have hsz:((W.alloc (.cells #[.int .u64 x.base, .int .u64 x.size, .int .u16 x.part, .int .u8 x.rights, .bool x.shared] 75)).alloc (.cells #[.int .u64 y.base, .int .u64 y.size, .int .u16 y.part, .int .u8 y.rights, .bool y.shared] 75)).heap.size=W.heap.size+2:=by simp
 have hgr:Grown W ((W.alloc (.cells #[.int .u64 x.base, .int .u64 x.size, .int .u16 x.part, .int .u8 x.rights, .bool x.shared] 75)).alloc (.cells #[.int .u64 y.base, .int .u64 y.size, .int .u16 y.part, .int .u8 y.rights, .bool y.shared] 75)):=((Grown.refl W).alloc _).alloc _
 have hb0:W.heap.size <((W.alloc (.cells #[.int .u64 x.base, .int .u64 x.size, .int .u16 x.part, .int .u8 x.rights, .bool x.shared] 75)).alloc (.cells #[.int .u64 y.base, .int .u64 y.size, .int .u16 y.part, .int .u8 y.rights, .bool y.shared] 75)).heap.size:=by rw [hsz];omega
 have hb1:W.heap.size+1 <((W.alloc (.cells #[.int .u64 x.base, .int .u64 x.size, .int .u16 x.part, .int .u8 x.rights, .bool x.shared] 75)).alloc (.cells #[.int .u64 y.base, .int .u64 y.size, .int .u16 y.part, .int .u8 y.rights, .bool y.shared] 75)).heap.size:=by rw [hsz];omega
 have k1:=(hgr.below.cell (p:=⟨d1,0,none⟩) l1).trans h1
 have k2:=(hgr.below.cell (p:=⟨d2,0,none⟩) l2).trans h2
 have e1:=Nat.lt_of_lt_of_le l1 hgr.below.size
 have e2:=Nat.lt_of_lt_of_le l2 hgr.below.size
 clear hsz h1 h2 l1 l2
 generalize World.alloc (World.alloc W _) _=V at c00 c01 c02 c03 c04 c10 c11 c12 c13 c14 hb0 hb1 hgr k1 k2 e1 e2 ⊢
 generalize W.heap.size+1=b1 at c10 c11 c12 c13 c14 hb1 ⊢
 generalize W.heap.size=b0 at c00 c01 c02 c03 c04 hb0 ⊢
 have HGR:=Lib.hid hgr
 clear hgr
 have KEEP: ∀U,Below V.heap.size V U→(fun w'=>w'.cell? ⟨b0,0,none⟩=some (.int .u64 x.base)∧w'.cell? ⟨b0,1,none⟩=some (.int .u64 x.size)∧w'.cell? ⟨b0,2,none⟩=some (.int .u16 x.part)∧w'.cell? ⟨b0,3,none⟩=some (.int .u8 x.rights)∧w'.cell? ⟨b0,4,none⟩=some (.bool x.shared)∧w'.cell? ⟨b1,0,none⟩=some (.int .u64 y.base)∧w'.cell? ⟨b1,1,none⟩=some (.int .u64 y.size)∧w'.cell? ⟨b1,2,none⟩=some (.int .u16 y.part)∧w'.cell? ⟨b1,3,none⟩=some (.int .u8 y.rights)∧w'.cell? ⟨b1,4,none⟩=some (.bool y.shared)∧w'.cell? ⟨d1,0,none⟩=some (.func (.func 73) #[] #[])∧w'.cell? ⟨d2,0,none⟩=some (.func (.func 72) #[] #[])) U:=fun U hU=>by
  have q: ∀b o,b <V.heap.size→U.cell? ⟨b,o,none⟩=V.cell? ⟨b,o,none⟩:=fun b o h=>hU.cell (p:=⟨b,o,none⟩) h
  exact ⟨(q _ _ hb0).trans c00,(q _ _ hb0).trans c01,(q _ _ hb0).trans c02,(q _ _ hb0).trans c03,(q _ _ hb0).trans c04,(q _ _ hb1).trans c10,(q _ _ hb1).trans c11,(q _ _ hb1).trans c12,(q _ _ hb1).trans c13,(q _ _ hb1).trans c14,(q _ _ e1).trans k1,(q _ _ e2).trans k2⟩
 have HKP:=Lib.hid KEEP
 clear KEEP
 go_region_held3 (fun w'=>w'.cell? ⟨b0,0,none⟩=some (.int .u64 x.base)∧w'.cell? ⟨b0,1,none⟩=some (.int .u64 x.size)∧w'.cell? ⟨b0,2,none⟩=some (.int .u16 x.part)∧w'.cell? ⟨b0,3,none⟩=some (.int .u8 x.rights)∧w'.cell? ⟨b0,4,none⟩=some (.bool x.shared)∧w'.cell? ⟨b1,0,none⟩=some (.int .u64 y.base)∧w'.cell? ⟨b1,1,none⟩=some (.int .u64 y.size)∧w'.cell? ⟨b1,2,none⟩=some (.int .u16 y.part)∧w'.cell? ⟨b1,3,none⟩=some (.int .u8 y.rights)∧w'.cell? ⟨b1,4,none⟩=some (.bool y.shared)∧w'.cell? ⟨d1,0,none⟩=some (.func (.func 73) #[] #[])∧w'.cell? ⟨d2,0,none⟩=some (.func (.func 72) #[] #[]))
  (first |(refine HKP.out _ ?_;(repeat (first |with_reducible exact HBW.out |with_reducible exact Below.refl _ _ |with_reducible refine Below.drew ?_ |(with_reducible refine Below.alloc ?_ (by first |(simp;done) |(have hq:=HBW.out.size;simp at hq ⊢;omega)) _) |(with_reducible refine Below.setCell ?_ (by first |(simp;done) |(have hq:=HBW.out.size;simp at hq ⊢;omega)) _)));done) |go_keep)
  (first
  |(go_at_call 72;refine (wrapReg_ok x _).mono ?_;rintro e w' ⟨rfl,hg⟩;have HGW:=Lib.hid (Grown.trans (show Grown V _ from (by repeat (first |with_reducible exact HGW.out |with_reducible exact Grown.refl _ |with_reducible refine Grown.drew ?_ |with_reducible refine Grown.alloc ?_ _))) hg);have HBW:=Lib.hid HGW.out.below;clear hg)
  |(go_at_call 72;refine (wrapReg_ok y _).mono ?_;rintro e w' ⟨rfl,hg⟩;have HGW:=Lib.hid (Grown.trans (show Grown V _ from (by repeat (first |with_reducible exact HGW.out |with_reducible exact Grown.refl _ |with_reducible refine Grown.drew ?_ |with_reducible refine Grown.alloc ?_ _))) hg);have HBW:=Lib.hid HGW.out.below;clear hg)
  |(go_at_call 73;refine (methReg_ok x y _).mono ?_;rintro e w' ⟨rfl,hg⟩;have HGW:=Lib.hid (Grown.trans (show Grown V _ from (by repeat (first |with_reducible exact HGW.out |with_reducible exact Grown.refl _ |with_reducible refine Grown.drew ?_ |with_reducible refine Grown.alloc ?_ _))) hg);have HBW:=Lib.hid HGW.out.below;clear hg))
 go_wp2
 go_ret
 exact ⟨rfl,HGR.out.trans (by repeat (first |with_reducible exact HGW.out |with_reducible exact Grown.refl _ |with_reducible refine Grown.drew ?_ |with_reducible refine Grown.alloc ?_ _))⟩
end Go.Proofs.YteelncofiodflaaGreat
namespace Go.Proofs.YteelncofiodflaaGreat
open Go.RowKit Go.Sort
attribute [local go_sem] ext_cell
def cmpPrt (x y:Prt):Int:=orL [Lib.compareInt x.id y.id,Lib.compareInt x.part y.part,Lib.compareBytes x.name.data.toList y.name.data.toList,flagI x.output y.output,flagI x.queuing y.queuing,Lib.compareInt x.size y.size]
set_option maxRecDepth 100000 in
set_option maxHeartbeats 8000000 in
theorem methPrt_ok (x y:Prt) (W:World):Calls Tryz.prog 77 #[.agg #[.int .u16 x.id, .int .u16 x.part, .string x.name, .bool x.output, .bool x.queuing, .int .u32 x.size], .agg #[.int .u16 y.id, .int .u16 y.part, .string y.name, .bool y.output, .bool y.queuing, .int .u32 y.size]] W fun e w'=>e= .returned (.int .i64 (cmpPrt x y))∧Grown W w':=by
 have hbool:=flag_ok
 have hstr:=cmpStr_ok
 have hu16:=cmpU16_ok
 have hu32:=cmpU32_ok
 unfold cmpPrt
 generalize Lib.compareInt=cI at hu16 hu32 ⊢
 generalize Lib.compareBytes=cB at hstr ⊢
 generalize flagI=fI at hbool ⊢
 go_enter Tryz.func77,Tryz.ntmps77
 go_upto_region 1 with (fail)
 have c00:((W.alloc (.cells #[.int .u16 x.id, .int .u16 x.part, .string x.name, .bool x.output, .bool x.queuing, .int .u32 x.size] 143)).alloc (.cells #[.int .u16 y.id, .int .u16 y.part, .string y.name, .bool y.output, .bool y.queuing, .int .u32 y.size] 143)).cell? ⟨W.heap.size,0,none⟩=some (.int .u16 x.id):=by simp
 have c01:((W.alloc (.cells #[.int .u16 x.id, .int .u16 x.part, .string x.name, .bool x.output, .bool x.queuing, .int .u32 x.size] 143)).alloc (.cells #[.int .u16 y.id, .int .u16 y.part, .string y.name, .bool y.output, .bool y.queuing, .int .u32 y.size] 143)).cell? ⟨W.heap.size,1,none⟩=some (.int .u16 x.part):=by simp
 have c02:((W.alloc (.cells #[.int .u16 x.id, .int .u16 x.part, .string x.name, .bool x.output, .bool x.queuing, .int .u32 x.size] 143)).alloc (.cells #[.int .u16 y.id, .int .u16 y.part, .string y.name, .bool y.output, .bool y.queuing, .int .u32 y.size] 143)).cell? ⟨W.heap.size,2,none⟩=some (.string x.name):=by simp
 have c03:((W.alloc (.cells #[.int .u16 x.id, .int .u16 x.part, .string x.name, .bool x.output, .bool x.queuing, .int .u32 x.size] 143)).alloc (.cells #[.int .u16 y.id, .int .u16 y.part, .string y.name, .bool y.output, .bool y.queuing, .int .u32 y.size] 143)).cell? ⟨W.heap.size,3,none⟩=some (.bool x.output):=by simp
 have c04:((W.alloc (.cells #[.int .u16 x.id, .int .u16 x.part, .string x.name, .bool x.output, .bool x.queuing, .int .u32 x.size] 143)).alloc (.cells #[.int .u16 y.id, .int .u16 y.part, .string y.name, .bool y.output, .bool y.queuing, .int .u32 y.size] 143)).cell? ⟨W.heap.size,4,none⟩=some (.bool x.queuing):=by simp
 have c05:((W.alloc (.cells #[.int .u16 x.id, .int .u16 x.part, .string x.name, .bool x.output, .bool x.queuing, .int .u32 x.size] 143)).alloc (.cells #[.int .u16 y.id, .int .u16 y.part, .string y.name, .bool y.output, .bool y.queuing, .int .u32 y.size] 143)).cell? ⟨W.heap.size,5,none⟩=some (.int .u32 x.size):=by simp
 have c10:((W.alloc (.cells #[.int .u16 x.id, .int .u16 x.part, .string x.name, .bool x.output, .bool x.queuing, .int .u32 x.size] 143)).alloc (.cells #[.int .u16 y.id, .int .u16 y.part, .string y.name, .bool y.output, .bool y.queuing, .int .u32 y.size] 143)).cell? ⟨W.heap.size+1,0,none⟩=some (.int .u16 y.id):=by simp
 have c11:((W.alloc (.cells #[.int .u16 x.id, .int .u16 x.part, .string x.name, .bool x.output, .bool x.queuing, .int .u32 x.size] 143)).alloc (.cells #[.int .u16 y.id, .int .u16 y.part, .string y.name, .bool y.output, .bool y.queuing, .int .u32 y.size] 143)).cell? ⟨W.heap.size+1,1,none⟩=some (.int .u16 y.part):=by simp
 have c12:((W.alloc (.cells #[.int .u16 x.id, .int .u16 x.part, .string x.name, .bool x.output, .bool x.queuing, .int .u32 x.size] 143)).alloc (.cells #[.int .u16 y.id, .int .u16 y.part, .string y.name, .bool y.output, .bool y.queuing, .int .u32 y.size] 143)).cell? ⟨W.heap.size+1,2,none⟩=some (.string y.name):=by simp
 have c13:((W.alloc (.cells #[.int .u16 x.id, .int .u16 x.part, .string x.name, .bool x.output, .bool x.queuing, .int .u32 x.size] 143)).alloc (.cells #[.int .u16 y.id, .int .u16 y.part, .string y.name, .bool y.output, .bool y.queuing, .int .u32 y.size] 143)).cell? ⟨W.heap.size+1,3,none⟩=some (.bool y.output):=by simp
 have c14:((W.alloc (.cells #[.int .u16 x.id, .int .u16 x.part, .string x.name, .bool x.output, .bool x.queuing, .int .u32 x.size] 143)).alloc (.cells #[.int .u16 y.id, .int .u16 y.part, .string y.name, .bool y.output, .bool y.queuing, .int .u32 y.size] 143)).cell? ⟨W.heap.size+1,4,none⟩=some (.bool y.queuing):=by simp
 have c15:((W.alloc (.cells #[.int .u16 x.id, .int .u16 x.part, .string x.name, .bool x.output, .bool x.queuing, .int .u32 x.size] 143)).alloc (.cells #[.int .u16 y.id, .int .u16 y.part, .string y.name, .bool y.output, .bool y.queuing, .int .u32 y.size] 143)).cell? ⟨W.heap.size+1,5,none⟩=some (.int .u32 y.size):=by simp
 have hsz:((W.alloc (.cells #[.int .u16 x.id, .int .u16 x.part, .string x.name, .bool x.output, .bool x.queuing, .int .u32 x.size] 143)).alloc (.cells #[.int .u16 y.id, .int .u16 y.part, .string y.name, .bool y.output, .bool y.queuing, .int .u32 y.size] 143)).heap.size=W.heap.size+2:=by simp
 have hgr:Grown W ((W.alloc (.cells #[.int .u16 x.id, .int .u16 x.part, .string x.name, .bool x.output, .bool x.queuing, .int .u32 x.size] 143)).alloc (.cells #[.int .u16 y.id, .int .u16 y.part, .string y.name, .bool y.output, .bool y.queuing, .int .u32 y.size] 143)):=((Grown.refl W).alloc _).alloc _
 have hb0:W.heap.size <((W.alloc (.cells #[.int .u16 x.id, .int .u16 x.part, .string x.name, .bool x.output, .bool x.queuing, .int .u32 x.size] 143)).alloc (.cells #[.int .u16 y.id, .int .u16 y.part, .string y.name, .bool y.output, .bool y.queuing, .int .u32 y.size] 143)).heap.size:=by rw [hsz];omega
 have hb1:W.heap.size+1 <((W.alloc (.cells #[.int .u16 x.id, .int .u16 x.part, .string x.name, .bool x.output, .bool x.queuing, .int .u32 x.size] 143)).alloc (.cells #[.int .u16 y.id, .int .u16 y.part, .string y.name, .bool y.output, .bool y.queuing, .int .u32 y.size] 143)).heap.size:=by rw [hsz];omega
 clear hsz
 generalize World.alloc (World.alloc W _) _=V at c00 c01 c02 c03 c04 c05 c10 c11 c12 c13 c14 c15 hb0 hb1 hgr ⊢
 generalize W.heap.size+1=b1 at c10 c11 c12 c13 c14 c15 hb1 ⊢
 generalize W.heap.size=b0 at c00 c01 c02 c03 c04 c05 hb0 ⊢
 have HGR:=Lib.hid hgr
 clear hgr
 have KEEP: ∀U,Below V.heap.size V U→(fun w'=>w'.cell? ⟨b0,0,none⟩=some (.int .u16 x.id)∧w'.cell? ⟨b0,1,none⟩=some (.int .u16 x.part)∧w'.cell? ⟨b0,2,none⟩=some (.string x.name)∧w'.cell? ⟨b0,3,none⟩=some (.bool x.output)∧w'.cell? ⟨b0,4,none⟩=some (.bool x.queuing)∧w'.cell? ⟨b0,5,none⟩=some (.int .u32 x.size)∧w'.cell? ⟨b1,0,none⟩=some (.int .u16 y.id)∧w'.cell? ⟨b1,1,none⟩=some (.int .u16 y.part)∧w'.cell? ⟨b1,2,none⟩=some (.string y.name)∧w'.cell? ⟨b1,3,none⟩=some (.bool y.output)∧w'.cell? ⟨b1,4,none⟩=some (.bool y.queuing)∧w'.cell? ⟨b1,5,none⟩=some (.int .u32 y.size)) U:=fun U hU=>by
  have q: ∀b o,b <V.heap.size→U.cell? ⟨b,o,none⟩=V.cell? ⟨b,o,none⟩:=fun b o h=>hU.cell (p:=⟨b,o,none⟩) h
  exact ⟨(q _ _ hb0).trans c00,(q _ _ hb0).trans c01,(q _ _ hb0).trans c02,(q _ _ hb0).trans c03,(q _ _ hb0).trans c04,(q _ _ hb0).trans c05,(q _ _ hb1).trans c10,(q _ _ hb1).trans c11,(q _ _ hb1).trans c12,(q _ _ hb1).trans c13,(q _ _ hb1).trans c14,(q _ _ hb1).trans c15⟩
 have HKP:=Lib.hid KEEP
 clear KEEP
 go_region_held3 (fun w'=>w'.cell? ⟨b0,0,none⟩=some (.int .u16 x.id)∧w'.cell? ⟨b0,1,none⟩=some (.int .u16 x.part)∧w'.cell? ⟨b0,2,none⟩=some (.string x.name)∧w'.cell? ⟨b0,3,none⟩=some (.bool x.output)∧w'.cell? ⟨b0,4,none⟩=some (.bool x.queuing)∧w'.cell? ⟨b0,5,none⟩=some (.int .u32 x.size)∧w'.cell? ⟨b1,0,none⟩=some (.int .u16 y.id)∧w'.cell? ⟨b1,1,none⟩=some (.int .u16 y.part)∧w'.cell? ⟨b1,2,none⟩=some (.string y.name)∧w'.cell? ⟨b1,3,none⟩=some (.bool y.output)∧w'.cell? ⟨b1,4,none⟩=some (.bool y.queuing)∧w'.cell? ⟨b1,5,none⟩=some (.int .u32 y.size))
  (first |(refine HKP.out _ ?_;(repeat (first |with_reducible exact HBW.out |with_reducible exact Below.refl _ _ |with_reducible refine Below.drew ?_ |(with_reducible refine Below.alloc ?_ (by first |(simp;done) |(have hq:=HBW.out.size;simp at hq ⊢;omega)) _) |(with_reducible refine Below.setCell ?_ (by first |(simp;done) |(have hq:=HBW.out.size;simp at hq ⊢;omega)) _)));done) |go_keep)
  (first
  |(go_at_call 116;refine (hbool _ _ _).mono ?_;rintro e w' ⟨rfl,rfl⟩)
  |(go_at_call 107;refine (hstr _ _ _).mono ?_;rintro e w' ⟨rfl,rfl⟩)
  |(go_at_call 106;refine (hu16 _ _ _).mono ?_;rintro e w' ⟨rfl,rfl⟩)
  |(go_at_call 120;refine (hu32 _ _ _).mono ?_;rintro e w' ⟨rfl,rfl⟩)
  |(go_at_call 105;refine (orNew [cI x.id y.id,cI x.part y.part,cB x.name.data.toList y.name.data.toList,fI x.output y.output,fI x.queuing y.queuing,cI x.size y.size] _ 6 rfl rfl (by simp) _ _ _ rfl (by simp)).mono ?_;rintro e w' ⟨rfl,rfl⟩))
 go_wp2
 go_ret
 refine ⟨rfl, ?_⟩
 have g:=HGR.out
 repeat (first |exact g |refine Grown.drew ?_ |refine Grown.alloc ?_ _)
theorem wrapPrt_ok (x:Prt) (W:World):Calls Tryz.prog 76 #[.agg #[.int .u16 x.id, .int .u16 x.part, .string x.name, .bool x.output, .bool x.queuing, .int .u32 x.size]] W fun e w'=>e= .returned (.agg #[.int .u16 x.id, .int .u16 x.part, .string x.name, .bool x.output, .bool x.queuing, .int .u32 x.size])∧Grown W w':=by
 go_enter Tryz.func76,Tryz.ntmps76
 go_wp2
 refine bodyPost_ret (v:= .agg #[.int .u16 x.id, .int .u16 x.part, .string x.name, .bool x.output, .bool x.queuing, .int .u32 x.size]) (by simp [results,Tryz.results76,go_sem]) rfl ⟨rfl, ?_⟩
 repeat (first |exact Grown.refl _ |refine Grown.drew ?_ |refine Grown.alloc ?_ _)
set_option maxRecDepth 100000 in
set_option maxHeartbeats 8000000 in
theorem closPrt_ok (x y:Prt) (d1 d2:Nat) (W:World) (h1:W.cell? ⟨d1,0,none⟩=some (.func (.func 77) #[] #[])) (h2:W.cell? ⟨d2,0,none⟩=some (.func (.func 76) #[] #[])) (l1:d1 <W.heap.size) (l2:d2 <W.heap.size):
  Calls Tryz.prog 119 #[.agg #[.int .u16 x.id, .int .u16 x.part, .string x.name, .bool x.output, .bool x.queuing, .int .u32 x.size], .agg #[.int .u16 y.id, .int .u16 y.part, .string y.name, .bool y.output, .bool y.queuing, .int .u32 y.size], .pointer (some ⟨d1,0,none⟩), .pointer (some ⟨d2,0,none⟩)] W fun e w'=>e= .returned (.int .i64 (cmpPrt x y))∧Grown W w':=by
 have hent1: ∀a w,(callFunc 77 a).run Tryz.prog w= .ok (.enter 77 a) w:=enters_of Tryz.func77 (by kernel_rfl) rfl
 have hent2: ∀a w,(callFunc 76 a).run Tryz.prog w= .ok (.enter 76 a) w:=enters_of Tryz.func76 (by kernel_rfl) rfl
 go_enter Tryz.func119,Tryz.ntmps119
 go_upto_region 1 with (fail)
 have c00:((W.alloc (.cells #[.int .u16 x.id, .int .u16 x.part, .string x.name, .bool x.output, .bool x.queuing, .int .u32 x.size] 52)).alloc (.cells #[.int .u16 y.id, .int .u16 y.part, .string y.name, .bool y.output, .bool y.queuing, .int .u32 y.size] 52)).cell? ⟨W.heap.size,0,none⟩=some (.int .u16 x.id):=by simp
 have c01:((W.alloc (.cells #[.int .u16 x.id, .int .u16 x.part, .string x.name, .bool x.output, .bool x.queuing, .int .u32 x.size] 52)).alloc (.cells #[.int .u16 y.id, .int .u16 y.part, .string y.name, .bool y.output, .bool y.queuing, .int .u32 y.size] 52)).cell? ⟨W.heap.size,1,none⟩=some (.int .u16 x.part):=by simp
 have c02:((W.alloc (.cells #[.int .u16 x.id, .int .u16 x.part, .string x.name, .bool x.output, .bool x.queuing, .int .u32 x.size] 52)).alloc (.cells #[.int .u16 y.id, .int .u16 y.part, .string y.name, .bool y.output, .bool y.queuing, .int .u32 y.size] 52)).cell? ⟨W.heap.size,2,none⟩=some (.string x.name):=by simp
 have c03:((W.alloc (.cells #[.int .u16 x.id, .int .u16 x.part, .string x.name, .bool x.output, .bool x.queuing, .int .u32 x.size] 52)).alloc (.cells #[.int .u16 y.id, .int .u16 y.part, .string y.name, .bool y.output, .bool y.queuing, .int .u32 y.size] 52)).cell? ⟨W.heap.size,3,none⟩=some (.bool x.output):=by simp
 have c04:((W.alloc (.cells #[.int .u16 x.id, .int .u16 x.part, .string x.name, .bool x.output, .bool x.queuing, .int .u32 x.size] 52)).alloc (.cells #[.int .u16 y.id, .int .u16 y.part, .string y.name, .bool y.output, .bool y.queuing, .int .u32 y.size] 52)).cell? ⟨W.heap.size,4,none⟩=some (.bool x.queuing):=by simp
 have c05:((W.alloc (.cells #[.int .u16 x.id, .int .u16 x.part, .string x.name, .bool x.output, .bool x.queuing, .int .u32 x.size] 52)).alloc (.cells #[.int .u16 y.id, .int .u16 y.part, .string y.name, .bool y.output, .bool y.queuing, .int .u32 y.size] 52)).cell? ⟨W.heap.size,5,none⟩=some (.int .u32 x.size):=by simp
 have c10:((W.alloc (.cells #[.int .u16 x.id, .int .u16 x.part, .string x.name, .bool x.output, .bool x.queuing, .int .u32 x.size] 52)).alloc (.cells #[.int .u16 y.id, .int .u16 y.part, .string y.name, .bool y.output, .bool y.queuing, .int .u32 y.size] 52)).cell? ⟨W.heap.size+1,0,none⟩=some (.int .u16 y.id):=by simp
 have c11:((W.alloc (.cells #[.int .u16 x.id, .int .u16 x.part, .string x.name, .bool x.output, .bool x.queuing, .int .u32 x.size] 52)).alloc (.cells #[.int .u16 y.id, .int .u16 y.part, .string y.name, .bool y.output, .bool y.queuing, .int .u32 y.size] 52)).cell? ⟨W.heap.size+1,1,none⟩=some (.int .u16 y.part):=by simp
 have c12:((W.alloc (.cells #[.int .u16 x.id, .int .u16 x.part, .string x.name, .bool x.output, .bool x.queuing, .int .u32 x.size] 52)).alloc (.cells #[.int .u16 y.id, .int .u16 y.part, .string y.name, .bool y.output, .bool y.queuing, .int .u32 y.size] 52)).cell? ⟨W.heap.size+1,2,none⟩=some (.string y.name):=by simp
 have c13:((W.alloc (.cells #[.int .u16 x.id, .int .u16 x.part, .string x.name, .bool x.output, .bool x.queuing, .int .u32 x.size] 52)).alloc (.cells #[.int .u16 y.id, .int .u16 y.part, .string y.name, .bool y.output, .bool y.queuing, .int .u32 y.size] 52)).cell? ⟨W.heap.size+1,3,none⟩=some (.bool y.output):=by simp
 have c14:((W.alloc (.cells #[.int .u16 x.id, .int .u16 x.part, .string x.name, .bool x.output, .bool x.queuing, .int .u32 x.size] 52)).alloc (.cells #[.int .u16 y.id, .int .u16 y.part, .string y.name, .bool y.output, .bool y.queuing, .int .u32 y.size] 52)).cell? ⟨W.heap.size+1,4,none⟩=some (.bool y.queuing):=by simp
 have c15:((W.alloc (.cells #[.int .u16 x.id, .int .u16 x.part, .string x.name, .bool x.output, .bool x.queuing, .int .u32 x.size] 52)).alloc (.cells #[.int .u16 y.id, .int .u16 y.part, .string y.name, .bool y.output, .bool y.queuing, .int .u32 y.size] 52)).cell? ⟨W.heap.size+1,5,none⟩=some (.int .u32 y.size):=by simp
 have hsz:((W.alloc (.cells #[.int .u16 x.id, .int .u16 x.part, .string x.name, .bool x.output, .bool x.queuing, .int .u32 x.size] 52)).alloc (.cells #[.int .u16 y.id, .int .u16 y.part, .string y.name, .bool y.output, .bool y.queuing, .int .u32 y.size] 52)).heap.size=W.heap.size+2:=by simp
 have hgr:Grown W ((W.alloc (.cells #[.int .u16 x.id, .int .u16 x.part, .string x.name, .bool x.output, .bool x.queuing, .int .u32 x.size] 52)).alloc (.cells #[.int .u16 y.id, .int .u16 y.part, .string y.name, .bool y.output, .bool y.queuing, .int .u32 y.size] 52)):=((Grown.refl W).alloc _).alloc _
 have hb0:W.heap.size <((W.alloc (.cells #[.int .u16 x.id, .int .u16 x.part, .string x.name, .bool x.output, .bool x.queuing, .int .u32 x.size] 52)).alloc (.cells #[.int .u16 y.id, .int .u16 y.part, .string y.name, .bool y.output, .bool y.queuing, .int .u32 y.size] 52)).heap.size:=by rw [hsz];omega
 have hb1:W.heap.size+1 <((W.alloc (.cells #[.int .u16 x.id, .int .u16 x.part, .string x.name, .bool x.output, .bool x.queuing, .int .u32 x.size] 52)).alloc (.cells #[.int .u16 y.id, .int .u16 y.part, .string y.name, .bool y.output, .bool y.queuing, .int .u32 y.size] 52)).heap.size:=by rw [hsz];omega
 have k1:=(hgr.below.cell (p:=⟨d1,0,none⟩) l1).trans h1
 have k2:=(hgr.below.cell (p:=⟨d2,0,none⟩) l2).trans h2
 have e1:=Nat.lt_of_lt_of_le l1 hgr.below.size
 have e2:=Nat.lt_of_lt_of_le l2 hgr.below.size
 clear hsz h1 h2 l1 l2
 generalize World.alloc (World.alloc W _) _=V at c00 c01 c02 c03 c04 c05 c10 c11 c12 c13 c14 c15 hb0 hb1 hgr k1 k2 e1 e2 ⊢
 generalize W.heap.size+1=b1 at c10 c11 c12 c13 c14 c15 hb1 ⊢
 generalize W.heap.size=b0 at c00 c01 c02 c03 c04 c05 hb0 ⊢
 have HGR:=Lib.hid hgr
 clear hgr
 have KEEP: ∀U,Below V.heap.size V U→(fun w'=>w'.cell? ⟨b0,0,none⟩=some (.int .u16 x.id)∧w'.cell? ⟨b0,1,none⟩=some (.int .u16 x.part)∧w'.cell? ⟨b0,2,none⟩=some (.string x.name)∧w'.cell? ⟨b0,3,none⟩=some (.bool x.output)∧w'.cell? ⟨b0,4,none⟩=some (.bool x.queuing)∧w'.cell? ⟨b0,5,none⟩=some (.int .u32 x.size)∧w'.cell? ⟨b1,0,none⟩=some (.int .u16 y.id)∧w'.cell? ⟨b1,1,none⟩=some (.int .u16 y.part)∧w'.cell? ⟨b1,2,none⟩=some (.string y.name)∧w'.cell? ⟨b1,3,none⟩=some (.bool y.output)∧w'.cell? ⟨b1,4,none⟩=some (.bool y.queuing)∧w'.cell? ⟨b1,5,none⟩=some (.int .u32 y.size)∧w'.cell? ⟨d1,0,none⟩=some (.func (.func 77) #[] #[])∧w'.cell? ⟨d2,0,none⟩=some (.func (.func 76) #[] #[])) U:=fun U hU=>by
  have q: ∀b o,b <V.heap.size→U.cell? ⟨b,o,none⟩=V.cell? ⟨b,o,none⟩:=fun b o h=>hU.cell (p:=⟨b,o,none⟩) h
  exact ⟨(q _ _ hb0).trans c00,(q _ _ hb0).trans c01,(q _ _ hb0).trans c02,(q _ _ hb0).trans c03,(q _ _ hb0).trans c04,(q _ _ hb0).trans c05,(q _ _ hb1).trans c10,(q _ _ hb1).trans c11,(q _ _ hb1).trans c12,(q _ _ hb1).trans c13,(q _ _ hb1).trans c14,(q _ _ hb1).trans c15,(q _ _ e1).trans k1,(q _ _ e2).trans k2⟩
 have HKP:=Lib.hid KEEP
 clear KEEP
 go_region_held3 (fun w'=>w'.cell? ⟨b0,0,none⟩=some (.int .u16 x.id)∧w'.cell? ⟨b0,1,none⟩=some (.int .u16 x.part)∧w'.cell? ⟨b0,2,none⟩=some (.string x.name)∧w'.cell? ⟨b0,3,none⟩=some (.bool x.output)∧w'.cell? ⟨b0,4,none⟩=some (.bool x.queuing)∧w'.cell? ⟨b0,5,none⟩=some (.int .u32 x.size)∧w'.cell? ⟨b1,0,none⟩=some (.int .u16 y.id)∧w'.cell? ⟨b1,1,none⟩=some (.int .u16 y.part)∧w'.cell? ⟨b1,2,none⟩=some (.string y.name)∧w'.cell? ⟨b1,3,none⟩=some (.bool y.output)∧w'.cell? ⟨b1,4,none⟩=some (.bool y.queuing)∧w'.cell? ⟨b1,5,none⟩=some (.int .u32 y.size)∧w'.cell? ⟨d1,0,none⟩=some (.func (.func 77) #[] #[])∧w'.cell? ⟨d2,0,none⟩=some (.func (.func 76) #[] #[]))
  (first |(refine HKP.out _ ?_;(repeat (first |with_reducible exact HBW.out |with_reducible exact Below.refl _ _ |with_reducible refine Below.drew ?_ |(with_reducible refine Below.alloc ?_ (by first |(simp;done) |(have hq:=HBW.out.size;simp at hq ⊢;omega)) _) |(with_reducible refine Below.setCell ?_ (by first |(simp;done) |(have hq:=HBW.out.size;simp at hq ⊢;omega)) _)));done) |go_keep)
  (first
  |(go_at_call 76;refine (wrapPrt_ok x _).mono ?_;rintro e w' ⟨rfl,hg⟩;have HGW:=Lib.hid (Grown.trans (show Grown V _ from (by repeat (first |with_reducible exact HGW.out |with_reducible exact Grown.refl _ |with_reducible refine Grown.drew ?_ |with_reducible refine Grown.alloc ?_ _))) hg);have HBW:=Lib.hid HGW.out.below;clear hg)
  |(go_at_call 76;refine (wrapPrt_ok y _).mono ?_;rintro e w' ⟨rfl,hg⟩;have HGW:=Lib.hid (Grown.trans (show Grown V _ from (by repeat (first |with_reducible exact HGW.out |with_reducible exact Grown.refl _ |with_reducible refine Grown.drew ?_ |with_reducible refine Grown.alloc ?_ _))) hg);have HBW:=Lib.hid HGW.out.below;clear hg)
  |(go_at_call 77;refine (methPrt_ok x y _).mono ?_;rintro e w' ⟨rfl,hg⟩;have HGW:=Lib.hid (Grown.trans (show Grown V _ from (by repeat (first |with_reducible exact HGW.out |with_reducible exact Grown.refl _ |with_reducible refine Grown.drew ?_ |with_reducible refine Grown.alloc ?_ _))) hg);have HBW:=Lib.hid HGW.out.below;clear hg))
 go_wp2
 go_ret
 exact ⟨rfl,HGR.out.trans (by repeat (first |with_reducible exact HGW.out |with_reducible exact Grown.refl _ |with_reducible refine Grown.drew ?_ |with_reducible refine Grown.alloc ?_ _))⟩
end Go.Proofs.YteelncofiodflaaGreat
namespace Go.Proofs.YteelncofiodflaaGreat
open Go.RowKit Go.Sort
attribute [local go_sem] ext_cell
def cmpChn (x y:Chn):Int:=orL [Lib.compareInt x.id y.id,Lib.compareInt x.source y.source,cmpL x.dests y.dests]
set_option maxRecDepth 100000 in
set_option maxHeartbeats 8000000 in
theorem methChn_ok (x y:Chn) (A B:Option Addr) (a b:Nat) (W:World) (hlx:x.dests.length≤4194304) (hly:y.dests.length≤4194304) (hA:Rd W W.heap.size 1 A x.dests.length (x.dests.map (Value.int .u16))) (hB:Rd W W.heap.size 1 B y.dests.length (y.dests.map (Value.int .u16))):Calls Tryz.prog 81 #[.agg #[.int .u16 x.id, .int .u16 x.source, .slice A x.dests.length a], .agg #[.int .u16 y.id, .int .u16 y.source, .slice B y.dests.length b]] W fun e w'=>e= .returned (.int .i64 (cmpChn x y))∧Grown W w':=by
 have hu16:=cmpU16_ok
 have hsl:=fun W hA hB=>slCmp_ok x.dests y.dests A B a b W hlx hly hA hB
 have HA:=Lib.hid hA
 have HB:=Lib.hid hB
 clear hA hB
 unfold cmpChn
 generalize Lib.compareInt=cI at hu16 ⊢
 generalize cmpL=cL at hsl ⊢
 go_enter Tryz.func81,Tryz.ntmps81
 go_upto_region 1 with (fail)
 have c00:((W.alloc (.cells #[.int .u16 x.id, .int .u16 x.source, .slice A x.dests.length a] 151)).alloc (.cells #[.int .u16 y.id, .int .u16 y.source, .slice B y.dests.length b] 151)).cell? ⟨W.heap.size,0,none⟩=some (.int .u16 x.id):=by simp
 have c01:((W.alloc (.cells #[.int .u16 x.id, .int .u16 x.source, .slice A x.dests.length a] 151)).alloc (.cells #[.int .u16 y.id, .int .u16 y.source, .slice B y.dests.length b] 151)).cell? ⟨W.heap.size,1,none⟩=some (.int .u16 x.source):=by simp
 have c02:((W.alloc (.cells #[.int .u16 x.id, .int .u16 x.source, .slice A x.dests.length a] 151)).alloc (.cells #[.int .u16 y.id, .int .u16 y.source, .slice B y.dests.length b] 151)).cell? ⟨W.heap.size,2,none⟩=some (.slice A x.dests.length a):=by simp
 have c10:((W.alloc (.cells #[.int .u16 x.id, .int .u16 x.source, .slice A x.dests.length a] 151)).alloc (.cells #[.int .u16 y.id, .int .u16 y.source, .slice B y.dests.length b] 151)).cell? ⟨W.heap.size+1,0,none⟩=some (.int .u16 y.id):=by simp
 have c11:((W.alloc (.cells #[.int .u16 x.id, .int .u16 x.source, .slice A x.dests.length a] 151)).alloc (.cells #[.int .u16 y.id, .int .u16 y.source, .slice B y.dests.length b] 151)).cell? ⟨W.heap.size+1,1,none⟩=some (.int .u16 y.source):=by simp
 have c12:((W.alloc (.cells #[.int .u16 x.id, .int .u16 x.source, .slice A x.dests.length a] 151)).alloc (.cells #[.int .u16 y.id, .int .u16 y.source, .slice B y.dests.length b] 151)).cell? ⟨W.heap.size+1,2,none⟩=some (.slice B y.dests.length b):=by simp
 have hsz:((W.alloc (.cells #[.int .u16 x.id, .int .u16 x.source, .slice A x.dests.length a] 151)).alloc (.cells #[.int .u16 y.id, .int .u16 y.source, .slice B y.dests.length b] 151)).heap.size=W.heap.size+2:=by simp
 have hgr:Grown W ((W.alloc (.cells #[.int .u16 x.id, .int .u16 x.source, .slice A x.dests.length a] 151)).alloc (.cells #[.int .u16 y.id, .int .u16 y.source, .slice B y.dests.length b] 151)):=((Grown.refl W).alloc _).alloc _
 have hb0:W.heap.size <((W.alloc (.cells #[.int .u16 x.id, .int .u16 x.source, .slice A x.dests.length a] 151)).alloc (.cells #[.int .u16 y.id, .int .u16 y.source, .slice B y.dests.length b] 151)).heap.size:=by rw [hsz];omega
 have hb1:W.heap.size+1 <((W.alloc (.cells #[.int .u16 x.id, .int .u16 x.source, .slice A x.dests.length a] 151)).alloc (.cells #[.int .u16 y.id, .int .u16 y.source, .slice B y.dests.length b] 151)).heap.size:=by rw [hsz];omega
 clear hsz
 have HW:=Lib.hid hgr.below
 generalize World.alloc (World.alloc W _) _=V at c00 c01 c02 c10 c11 c12 hb0 hb1 hgr HW ⊢
 have HA:=Lib.hid (HA.out.up HW.out)
 have HB:=Lib.hid (HB.out.up HW.out)
 generalize W.heap.size+1=b1 at c10 c11 c12 hb1 ⊢
 generalize W.heap.size=b0 at c00 c01 c02 hb0 HW ⊢
 have HGR:=Lib.hid hgr
 clear hgr
 have KEEP: ∀U,Below V.heap.size V U→(fun w'=>w'.cell? ⟨b0,0,none⟩=some (.int .u16 x.id)∧w'.cell? ⟨b0,1,none⟩=some (.int .u16 x.source)∧w'.cell? ⟨b0,2,none⟩=some (.slice A x.dests.length a)∧w'.cell? ⟨b1,0,none⟩=some (.int .u16 y.id)∧w'.cell? ⟨b1,1,none⟩=some (.int .u16 y.source)∧w'.cell? ⟨b1,2,none⟩=some (.slice B y.dests.length b)) U:=fun U hU=>by
  have q: ∀b o,b <V.heap.size→U.cell? ⟨b,o,none⟩=V.cell? ⟨b,o,none⟩:=fun b o h=>hU.cell (p:=⟨b,o,none⟩) h
  exact ⟨(q _ _ hb0).trans c00,(q _ _ hb0).trans c01,(q _ _ hb0).trans c02,(q _ _ hb1).trans c10,(q _ _ hb1).trans c11,(q _ _ hb1).trans c12⟩
 have HKP:=Lib.hid KEEP
 clear KEEP
 go_region_held3 (fun w'=>w'.cell? ⟨b0,0,none⟩=some (.int .u16 x.id)∧w'.cell? ⟨b0,1,none⟩=some (.int .u16 x.source)∧w'.cell? ⟨b0,2,none⟩=some (.slice A x.dests.length a)∧w'.cell? ⟨b1,0,none⟩=some (.int .u16 y.id)∧w'.cell? ⟨b1,1,none⟩=some (.int .u16 y.source)∧w'.cell? ⟨b1,2,none⟩=some (.slice B y.dests.length b))
  (first |(refine HKP.out _ ?_;(repeat (first |with_reducible exact HBW.out |with_reducible exact Below.refl _ _ |with_reducible refine Below.drew ?_ |(with_reducible refine Below.alloc ?_ (by first |(simp;done) |(have hq:=HBW.out.size;simp at hq ⊢;omega)) _) |(with_reducible refine Below.setCell ?_ (by first |(simp;done) |(have hq:=HBW.out.size;simp at hq ⊢;omega)) _)));done) |go_keep)
  (first
  |(go_at_call 106;refine (hu16 _ _ _).mono ?_;rintro e w' ⟨rfl,rfl⟩)
  |(go_at_call 124;refine (hsl _ (HA.out.up (by repeat (first |with_reducible exact Below.refl _ _ |with_reducible refine Below.drew ?_ |(with_reducible refine Below.alloc ?_ (by simp) _) |(with_reducible refine Below.setCell ?_ (by simp) _)))) (HB.out.up (by repeat (first |with_reducible exact Below.refl _ _ |with_reducible refine Below.drew ?_ |(with_reducible refine Below.alloc ?_ (by simp) _) |(with_reducible refine Below.setCell ?_ (by simp) _))))).mono ?_;rintro e w' ⟨rfl,rfl⟩)
  |(go_at_call 105;refine (orNew [cI x.id y.id,cI x.source y.source,cL x.dests y.dests] _ 3 rfl rfl (by simp) _ _ _ rfl (by simp)).mono ?_;rintro e w' ⟨rfl,rfl⟩))
 go_wp2
 go_ret
 refine ⟨rfl, ?_⟩
 have g:=HGR.out
 repeat (first |exact g |refine Grown.drew ?_ |refine Grown.alloc ?_ _)
theorem wrapChn_ok (x:Chn) (A:Option Addr) (a:Nat) (W:World):Calls Tryz.prog 80 #[.agg #[.int .u16 x.id, .int .u16 x.source, .slice A x.dests.length a]] W fun e w'=>e= .returned (.agg #[.int .u16 x.id, .int .u16 x.source, .slice A x.dests.length a])∧Grown W w':=by
 go_enter Tryz.func80,Tryz.ntmps80
 go_wp2
 refine bodyPost_ret (v:= .agg #[.int .u16 x.id, .int .u16 x.source, .slice A x.dests.length a]) (by simp [results,Tryz.results80,go_sem]) rfl ⟨rfl, ?_⟩
 repeat (first |exact Grown.refl _ |refine Grown.drew ?_ |refine Grown.alloc ?_ _)
set_option maxRecDepth 100000 in
set_option maxHeartbeats 8000000 in
theorem closChn_ok (x y:Chn) (A B:Option Addr) (a b:Nat) (d1 d2:Nat) (W:World) (h1:W.cell? ⟨d1,0,none⟩=some (.func (.func 81) #[] #[])) (h2:W.cell? ⟨d2,0,none⟩=some (.func (.func 80) #[] #[])) (l1:d1 <W.heap.size) (l2:d2 <W.heap.size) (hlx:x.dests.length≤4194304) (hly:y.dests.length≤4194304) (hA:Rd W W.heap.size 1 A x.dests.length (x.dests.map (Value.int .u16))) (hB:Rd W W.heap.size 1 B y.dests.length (y.dests.map (Value.int .u16))):
  Calls Tryz.prog 123 #[.agg #[.int .u16 x.id, .int .u16 x.source, .slice A x.dests.length a], .agg #[.int .u16 y.id, .int .u16 y.source, .slice B y.dests.length b], .pointer (some ⟨d1,0,none⟩), .pointer (some ⟨d2,0,none⟩)] W fun e w'=>e= .returned (.int .i64 (cmpChn x y))∧Grown W w':=by
 have hent1: ∀a w,(callFunc 81 a).run Tryz.prog w= .ok (.enter 81 a) w:=enters_of Tryz.func81 (by kernel_rfl) rfl
 have hent2: ∀a w,(callFunc 80 a).run Tryz.prog w= .ok (.enter 80 a) w:=enters_of Tryz.func80 (by kernel_rfl) rfl
 have HA:=Lib.hid hA
 have HB:=Lib.hid hB
 clear hA hB
 go_enter Tryz.func123,Tryz.ntmps123
 go_upto_region 1 with (fail)
 have c00:((W.alloc (.cells #[.int .u16 x.id, .int .u16 x.source, .slice A x.dests.length a] 57)).alloc (.cells #[.int .u16 y.id, .int .u16 y.source, .slice B y.dests.length b] 57)).cell? ⟨W.heap.size,0,none⟩=some (.int .u16 x.id):=by simp
 have c01:((W.alloc (.cells #[.int .u16 x.id, .int .u16 x.source, .slice A x.dests.length a] 57)).alloc (.cells #[.int .u16 y.id, .int .u16 y.source, .slice B y.dests.length b] 57)).cell? ⟨W.heap.size,1,none⟩=some (.int .u16 x.source):=by simp
 have c02:((W.alloc (.cells #[.int .u16 x.id, .int .u16 x.source, .slice A x.dests.length a] 57)).alloc (.cells #[.int .u16 y.id, .int .u16 y.source, .slice B y.dests.length b] 57)).cell? ⟨W.heap.size,2,none⟩=some (.slice A x.dests.length a):=by simp
 have c10:((W.alloc (.cells #[.int .u16 x.id, .int .u16 x.source, .slice A x.dests.length a] 57)).alloc (.cells #[.int .u16 y.id, .int .u16 y.source, .slice B y.dests.length b] 57)).cell? ⟨W.heap.size+1,0,none⟩=some (.int .u16 y.id):=by simp
 have c11:((W.alloc (.cells #[.int .u16 x.id, .int .u16 x.source, .slice A x.dests.length a] 57)).alloc (.cells #[.int .u16 y.id, .int .u16 y.source, .slice B y.dests.length b] 57)).cell? ⟨W.heap.size+1,1,none⟩=some (.int .u16 y.source):=by simp
 have c12:((W.alloc (.cells #[.int .u16 x.id, .int .u16 x.source, .slice A x.dests.length a] 57)).alloc (.cells #[.int .u16 y.id, .int .u16 y.source, .slice B y.dests.length b] 57)).cell? ⟨W.heap.size+1,2,none⟩=some (.slice B y.dests.length b):=by simp
 have hsz:((W.alloc (.cells #[.int .u16 x.id, .int .u16 x.source, .slice A x.dests.length a] 57)).alloc (.cells #[.int .u16 y.id, .int .u16 y.source, .slice B y.dests.length b] 57)).heap.size=W.heap.size+2:=by simp
 have hgr:Grown W ((W.alloc (.cells #[.int .u16 x.id, .int .u16 x.source, .slice A x.dests.length a] 57)).alloc (.cells #[.int .u16 y.id, .int .u16 y.source, .slice B y.dests.length b] 57)):=((Grown.refl W).alloc _).alloc _
 have hb0:W.heap.size <((W.alloc (.cells #[.int .u16 x.id, .int .u16 x.source, .slice A x.dests.length a] 57)).alloc (.cells #[.int .u16 y.id, .int .u16 y.source, .slice B y.dests.length b] 57)).heap.size:=by rw [hsz];omega
 have hb1:W.heap.size+1 <((W.alloc (.cells #[.int .u16 x.id, .int .u16 x.source, .slice A x.dests.length a] 57)).alloc (.cells #[.int .u16 y.id, .int .u16 y.source, .slice B y.dests.length b] 57)).heap.size:=by rw [hsz];omega
 have k1:=(hgr.below.cell (p:=⟨d1,0,none⟩) l1).trans h1
 have k2:=(hgr.below.cell (p:=⟨d2,0,none⟩) l2).trans h2
 have e1:=Nat.lt_of_lt_of_le l1 hgr.below.size
 have e2:=Nat.lt_of_lt_of_le l2 hgr.below.size
 clear hsz h1 h2 l1 l2
 have HA:=Lib.hid (HA.out.up hgr.below)
 have HB:=Lib.hid (HB.out.up hgr.below)
 generalize World.alloc (World.alloc W _) _=V at c00 c01 c02 c10 c11 c12 hb0 hb1 hgr k1 k2 e1 e2 HA HB ⊢
 generalize W.heap.size+1=b1 at c10 c11 c12 hb1 ⊢
 generalize W.heap.size=b0 at c00 c01 c02 hb0 ⊢
 have HGR:=Lib.hid hgr
 clear hgr
 have KEEP: ∀U,Below V.heap.size V U→(fun w'=>w'.cell? ⟨b0,0,none⟩=some (.int .u16 x.id)∧w'.cell? ⟨b0,1,none⟩=some (.int .u16 x.source)∧w'.cell? ⟨b0,2,none⟩=some (.slice A x.dests.length a)∧w'.cell? ⟨b1,0,none⟩=some (.int .u16 y.id)∧w'.cell? ⟨b1,1,none⟩=some (.int .u16 y.source)∧w'.cell? ⟨b1,2,none⟩=some (.slice B y.dests.length b)∧w'.cell? ⟨d1,0,none⟩=some (.func (.func 81) #[] #[])∧w'.cell? ⟨d2,0,none⟩=some (.func (.func 80) #[] #[])) U:=fun U hU=>by
  have q: ∀b o,b <V.heap.size→U.cell? ⟨b,o,none⟩=V.cell? ⟨b,o,none⟩:=fun b o h=>hU.cell (p:=⟨b,o,none⟩) h
  exact ⟨(q _ _ hb0).trans c00,(q _ _ hb0).trans c01,(q _ _ hb0).trans c02,(q _ _ hb1).trans c10,(q _ _ hb1).trans c11,(q _ _ hb1).trans c12,(q _ _ e1).trans k1,(q _ _ e2).trans k2⟩
 have HKP:=Lib.hid KEEP
 clear KEEP
 go_region_held3 (fun w'=>w'.cell? ⟨b0,0,none⟩=some (.int .u16 x.id)∧w'.cell? ⟨b0,1,none⟩=some (.int .u16 x.source)∧w'.cell? ⟨b0,2,none⟩=some (.slice A x.dests.length a)∧w'.cell? ⟨b1,0,none⟩=some (.int .u16 y.id)∧w'.cell? ⟨b1,1,none⟩=some (.int .u16 y.source)∧w'.cell? ⟨b1,2,none⟩=some (.slice B y.dests.length b)∧w'.cell? ⟨d1,0,none⟩=some (.func (.func 81) #[] #[])∧w'.cell? ⟨d2,0,none⟩=some (.func (.func 80) #[] #[]))
  (first |(refine HKP.out _ ?_;(repeat (first |with_reducible exact HBW.out |with_reducible exact Below.refl _ _ |with_reducible refine Below.drew ?_ |(with_reducible refine Below.alloc ?_ (by first |(simp;done) |(have hq:=HBW.out.size;simp at hq ⊢;omega)) _) |(with_reducible refine Below.setCell ?_ (by first |(simp;done) |(have hq:=HBW.out.size;simp at hq ⊢;omega)) _)));done) |go_keep)
  (first
  |(go_at_call 80;refine (wrapChn_ok x A a _).mono ?_;rintro e w' ⟨rfl,hg⟩;have HGW:=Lib.hid (Grown.trans (show Grown V _ from (by repeat (first |with_reducible exact HGW.out |with_reducible exact Grown.refl _ |with_reducible refine Grown.drew ?_ |with_reducible refine Grown.alloc ?_ _))) hg);have HBW:=Lib.hid HGW.out.below;clear hg)
  |(go_at_call 80;refine (wrapChn_ok y B b _).mono ?_;rintro e w' ⟨rfl,hg⟩;have HGW:=Lib.hid (Grown.trans (show Grown V _ from (by repeat (first |with_reducible exact HGW.out |with_reducible exact Grown.refl _ |with_reducible refine Grown.drew ?_ |with_reducible refine Grown.alloc ?_ _))) hg);have HBW:=Lib.hid HGW.out.below;clear hg)
  |(go_at_call 81;refine (methChn_ok x y A B a b _ hlx hly (HA.out.up HBW.out) (HB.out.up HBW.out)).mono ?_;rintro e w' ⟨rfl,hg⟩;have HGW:=Lib.hid (Grown.trans (show Grown V _ from (by repeat (first |with_reducible exact HGW.out |with_reducible exact Grown.refl _ |with_reducible refine Grown.drew ?_ |with_reducible refine Grown.alloc ?_ _))) hg);have HBW:=Lib.hid HGW.out.below;clear hg))
 go_wp2
 go_ret
 exact ⟨rfl,HGR.out.trans (by repeat (first |with_reducible exact HGW.out |with_reducible exact Grown.refl _ |with_reducible refine Grown.drew ?_ |with_reducible refine Grown.alloc ?_ _))⟩
end Go.Proofs.YteelncofiodflaaGreat
namespace Go.Proofs.YteelncofiodflaaGreat
open Go.RowKit
theorem ci_cases (x y:Int):(x <y∧Lib.compareInt x y= -1)∨(x=y∧Lib.compareInt x y=0)∨(y <x∧Lib.compareInt x y=1):=by
 rcases (show x <y∨x=y∨y <x by omega) with h |h |h
 ·exact .inl ⟨h,ci_lt h⟩
 ·subst h;exact .inr (.inl ⟨rfl,ci_eq _⟩)
 ·exact .inr (.inr ⟨h,ci_gt h⟩)
theorem cmpL_refl: ∀l:List Int,cmpL l l=0
 | []=>rfl
 |x::r=>by unfold cmpL;rw [ci_eq,if_pos rfl];exact cmpL_refl r
theorem cmpL_zero: ∀ {l m:List Int},cmpL l m=0→l=m
 | [],[],_=>rfl
 | [],_::_,h=>by simp [cmpL] at h
 |_::_,[],h=>by simp [cmpL] at h
 |x::r,y::s,h=>by
  unfold cmpL at h
  rcases ci_cases x y with ⟨_,e⟩ |⟨h1,e⟩ |⟨_,e⟩
  ·rw [e] at h;simp at h
  ·rw [e,if_pos rfl] at h;rw [h1,cmpL_zero h]
  ·rw [e] at h;simp at h
theorem cmpL_neg: ∀l m:List Int,cmpL m l= -cmpL l m
 | [],[]=>rfl
 | [],_::_=>rfl
 |_::_,[]=>rfl
 |x::r,y::s=>by
  unfold cmpL
  rcases ci_cases x y with ⟨h1,e⟩ |⟨h1,e⟩ |⟨h1,e⟩
  ·rw [e,ci_gt h1];rfl
  ·subst h1;rw [e,if_pos rfl,if_pos rfl];exact cmpL_neg r s
  ·rw [e,ci_lt h1];rfl
theorem cmpL_trans: ∀ {a b c:List Int},cmpL a b≤0→cmpL b c≤0→cmpL a c≤0
 | [],_,[],_,_=>by simp [cmpL]
 | [],_,_::_,_,_=>by simp [cmpL]
 |_::_,[],_,h,_=>by simp [cmpL] at h
 |_::_,_::_,[],_,h=>by simp [cmpL] at h
 |x::r,y::s,z::t,h1,h2=>by
  unfold cmpL at h1 h2 ⊢
  rcases ci_cases x y with ⟨k1,e1⟩ |⟨k1,e1⟩ |⟨k1,e1⟩
  ·rcases ci_cases y z with ⟨k2,e2⟩ |⟨k2,e2⟩ |⟨k2,e2⟩
   ·rw [ci_lt (show x <z by omega)];simp
   ·rw [ci_lt (show x <z by omega)];simp
   ·rw [e2] at h2;simp at h2
  ·rcases ci_cases y z with ⟨k2,e2⟩ |⟨k2,e2⟩ |⟨k2,e2⟩
   ·rw [ci_lt (show x <z by omega)];simp
   ·subst k1 k2
    rw [e1,if_pos rfl] at h1
    rw [e2,if_pos rfl] at h2
    rw [ci_eq,if_pos rfl]
    exact cmpL_trans h1 h2
   ·rw [e2] at h2;simp at h2
  ·rw [e1] at h1;simp at h1
def textL (s:List UInt8):List Int:=s.map (fun b=>(b.toNat:Int)+1)++ [0]
theorem u8_lt {a b:UInt8}:a <b↔(a.toNat:Int)+1 <(b.toNat:Int)+1:=by rw [UInt8.lt_iff_toNat_lt];omega
theorem u8_eq {a b:UInt8} (h1: ¬a <b) (h2: ¬b <a):a=b:=by
 rw [UInt8.lt_iff_toNat_lt] at h1 h2
 exact UInt8.toNat_inj.1 (by omega)
theorem cmpL_cons (x y:Int) (r s:List Int):cmpL (x::r) (y::s)=if Lib.compareInt x y=0 then cmpL r s else Lib.compareInt x y:=rfl
theorem cmpL_text: ∀(s t:List UInt8) (r q:List Int),cmpL (textL s++r) (textL t++q)=if Lib.compareBytes s t=0 then cmpL r q else Lib.compareBytes s t
 | [],[],r,q=>by
  show cmpL (0::r) (0::q)=if (0:Int)=0 then cmpL r q else 0
  rw [cmpL_cons,ci_eq]
 | [],b::t,r,q=>by
  show cmpL (0::r) (((b.toNat:Int)+1)::(textL t++q))=if (-1:Int)=0 then cmpL r q else -1
  rw [cmpL_cons,ci_lt (by omega)]
  rfl
 |a::s,[],r,q=>by
  show cmpL (((a.toNat:Int)+1)::(textL s++r)) (0::q)=if (1:Int)=0 then cmpL r q else 1
  rw [cmpL_cons,ci_gt (by omega)]
  rfl
 |a::s,b::t,r,q=>by
  show cmpL (((a.toNat:Int)+1)::(textL s++r)) (((b.toNat:Int)+1)::(textL t++q))=_
  rw [cmpL_cons]
  by_cases h1:a <b
  ·have hc:Lib.compareBytes (a::s) (b::t)= -1:=by rw [Lib.compareBytes,if_pos h1]
   rw [ci_lt (u8_lt.1 h1),hc];rfl
  ·by_cases h2:b <a
   ·have hc:Lib.compareBytes (a::s) (b::t)=1:=by rw [Lib.compareBytes,if_neg h1,if_pos h2]
    rw [ci_gt (u8_lt.1 h2),hc];rfl
   ·have:=u8_eq h1 h2
    subst this
    have hc:Lib.compareBytes (a::s) (a::t)=Lib.compareBytes s t:=by rw [Lib.compareBytes,if_neg h1,if_neg h1]
    rw [ci_eq,if_pos rfl,hc]
    exact cmpL_text s t r q
def bitI (b:Bool):Int:=if b then 1 else 0
theorem flag_bit (a b:Bool):flagI a b=Lib.compareInt (bitI a) (bitI b):=by cases a<;>cases b<;>rfl
theorem orL_cons (x:Int) (r:List Int):orL (x::r)=if x=0 then orL r else x:=rfl
def keyPar (p:Par):List Int:=p.id::(textL p.name.data.toList++ [p.period,p.duration])
def keyWin (p:Win):List Int:= [p.start,p.len,p.part]
def keyReg (p:Reg):List Int:= [p.base,p.size,p.part,p.rights,bitI p.shared]
def keyPrt (p:Prt):List Int:=p.id::p.part::(textL p.name.data.toList++ [bitI p.output,bitI p.queuing,p.size])
def keyChn (p:Chn):List Int:=p.id::p.source::p.dests
theorem cmpPar_key (x y:Par):cmpPar x y=cmpL (keyPar x) (keyPar y):=by
 unfold cmpPar keyPar
 rw [cmpL_cons,cmpL_text,orL_cons,orL_cons]
 rfl
theorem cmpWin_key (x y:Win):cmpWin x y=cmpL (keyWin x) (keyWin y):=rfl
theorem cmpReg_key (x y:Reg):cmpReg x y=cmpL (keyReg x) (keyReg y):=by
 unfold cmpReg keyReg
 rw [flag_bit]
 rfl
theorem cmpPrt_key (x y:Prt):cmpPrt x y=cmpL (keyPrt x) (keyPrt y):=by
 unfold cmpPrt keyPrt
 rw [flag_bit,flag_bit,cmpL_cons,cmpL_cons,cmpL_text,orL_cons,orL_cons,orL_cons]
 rfl
theorem cmpChn_key (x y:Chn):cmpChn x y=cmpL (keyChn x) (keyChn y):=by
 unfold cmpChn keyChn
 rw [cmpL_cons,cmpL_cons,orL_cons,orL_cons,orL_cons]
 by_cases h:cmpL x.dests y.dests=0
 ·rw [if_pos h,h];rfl
 ·rw [if_neg h]
theorem bitI_inj {a b:Bool} (h:bitI a=bitI b):a=b:=by revert h;cases a<;>cases b<;>simp [bitI]
theorem text_inj: ∀ {s t:List UInt8} {r q:List Int},textL s++r=textL t++q→s=t∧r=q
 | [],[],r,q,h=>⟨rfl,by simpa [textL] using h⟩
 | [],b::t,r,q,h=>by simp [textL] at h;omega
 |a::s,[],r,q,h=>by simp [textL] at h;omega
 |a::s,b::t,r,q,h=>by
  have h1:((a.toNat:Int)+1)::(textL s++r)=((b.toNat:Int)+1)::(textL t++q):=h
  injection h1 with h1 h2
  obtain ⟨e1,e2⟩:=text_inj h2
  have:a=b:=UInt8.toNat_inj.1 (by omega)
  exact ⟨by rw [this,e1],e2⟩
theorem name_inj {a b:ByteArray} (h:a.data.toList=b.data.toList):a=b:=by
 cases a;cases b
 congr
 exact Array.toList_inj.1 h
theorem keyPar_inj {x y:Par} (h:keyPar x=keyPar y):x=y:=by
 obtain ⟨a,b,c,d⟩:=x
 obtain ⟨a',b',c',d'⟩:=y
 unfold keyPar at h
 injection h with h1 h2
 obtain ⟨e1,e2⟩:=text_inj h2
 have e3:=name_inj e1
 simp only [List.cons.injEq,and_true] at h1 e2 e3
 rw [h1,e3,e2.1,e2.2]
theorem keyWin_inj {x y:Win} (h:keyWin x=keyWin y):x=y:=by
 obtain ⟨a,b,c⟩:=x
 obtain ⟨a',b',c'⟩:=y
 simpa [keyWin] using h
theorem keyReg_inj {x y:Reg} (h:keyReg x=keyReg y):x=y:=by
 obtain ⟨a,b,c,d,e⟩:=x
 obtain ⟨a',b',c',d',e'⟩:=y
 simp only [keyReg,List.cons.injEq,and_true] at h
 obtain ⟨h1,h2,h3,h4,h5⟩:=h
 rw [h1,h2,h3,h4,bitI_inj h5]
theorem keyPrt_inj {x y:Prt} (h:keyPrt x=keyPrt y):x=y:=by
 obtain ⟨a,b,c,d,e,f⟩:=x
 obtain ⟨a',b',c',d',e',f'⟩:=y
 unfold keyPrt at h
 injection h with h1 h2
 injection h2 with h2 h3
 obtain ⟨e1,e2⟩:=text_inj h3
 have e3:=name_inj e1
 simp only [List.cons.injEq,and_true] at h1 h2 e2 e3
 rw [h1,h2,e3,bitI_inj e2.1,bitI_inj e2.2.1,e2.2.2]
theorem keyChn_inj {x y:Chn} (h:keyChn x=keyChn y):x=y:=by
 obtain ⟨a,b,c⟩:=x
 obtain ⟨a',b',c'⟩:=y
 simpa [keyChn] using h
section
variable {α:Type} (key:α→List Int)
def Asc (l:List α):Prop:=l.Pairwise fun x y=>cmpL (key x) (key y)≤0
def normK (l:List α):List α:=l.mergeSort (fun x y=>decide (cmpL (key x) (key y)≤0))
theorem normK_asc (l:List α):Asc key (normK key l):=by
 have:=List.pairwise_mergeSort (le:=fun x y:α=>decide (cmpL (key x) (key y)≤0)) (fun a b c h1 h2=>by simp at*;exact cmpL_trans h1 h2) (fun a b=>by
  have:=cmpL_neg (key a) (key b)
  simp;omega) l
 exact this.imp fun h=>by simpa using h
theorem normK_perm (l:List α):(normK key l).Perm l:=List.mergeSort_perm _ _
theorem asc_unique (hinj: ∀x y,key x=key y→x=y): ∀ {l m:List α},l.Perm m→Asc key l→Asc key m→l=m
 | [],m,hp,_,_=>hp.nil_eq
 |x::r,[],hp,_,_=>hp.eq_nil
 |x::r,y::s,hp,h1,h2=>by
  have a1:=List.pairwise_cons.1 h1
  have a2:=List.pairwise_cons.1 h2
  have hxy:x=y:=by
   have m1:x ∈ y::s:=hp.mem_iff.1 (by simp)
   have m2:y ∈ x::r:=hp.mem_iff.2 (by simp)
   rcases List.mem_cons.1 m1 with e |m1
   ·exact e
   ·rcases List.mem_cons.1 m2 with e |m2
    ·exact e.symm
    ·have q1:=a1.1 y m2
     have q2:=a2.1 x m1
     have:=cmpL_neg (key x) (key y)
     exact hinj _ _ (cmpL_zero (by omega))
  subst hxy
  rw [asc_unique hinj (List.perm_cons x |>.1 hp) a1.2 a2.2]
theorem normK_unique (hinj: ∀x y,key x=key y→x=y) {l m:List α} (hp:m.Perm l) (h:Asc key m):m=normK key l:=
 asc_unique key hinj (hp.trans (normK_perm key l).symm) h (normK_asc key l)
end
def sortD (x:Chn):Chn:= {x with dests:=x.dests.mergeSort (fun a b=>decide (a≤b))}
def Cfg.norm (c:Cfg):Cfg:=⟨c.frame,normK keyPar c.parts,normK keyWin c.wins,normK keyReg c.regs,normK keyPrt c.ports,normK keyChn (c.chans.map sortD)⟩
end Go.Proofs.YteelncofiodflaaGreat
