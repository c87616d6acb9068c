/-
  Package memory: span, spans, the checker's region, the function that Check passes to sweep.First; sweep.Valid: walked.
-/
import Derived.BigQuiet
import Derived.OpenShut
import Derived.Test.YtdmgpdanlfmadaaGreatCore
import Derived.Test.YtdmgpdanlfmadaaGreatWirA
import Derived.Test.YtdmgpdanlfmadaaGreatSwpA
import Derived.Test.YtdmgpdanlfmadaaGreatSwpB
namespace Go.Proofs.YtdmgpdanlfmadaaGreat
open Go.RowKit
attribute [local go_sem] ext_cell
theorem bool_cases (b:Bool):b=true∨b=false:=by cases b<;>simp
structure RgBox (w:World) (g:Nat) (x:Reg):Prop where
 h0:w.cell? ⟨g,0,none⟩=some (.int .u64 x.base)
 h1:w.cell? ⟨g,1,none⟩=some (.int .u64 x.size)
 h2:w.cell? ⟨g,2,none⟩=some (.int .u16 x.part)
 h3:w.cell? ⟨g,3,none⟩=some (.int .u8 x.rights)
 h4:w.cell? ⟨g,4,none⟩=some (.bool x.shared)
 lt:g <w.heap.size
theorem RgBox.up {w w':World} {g:Nat} {x:Reg} (h:RgBox w g x) (hb:Below w.heap.size w w'):RgBox w' g x:=by
 obtain ⟨h0,h1,h2,h3,h4,hg⟩:=h
 have q: ∀j,w'.cell? ⟨g,j,none⟩=w.cell? ⟨g,j,none⟩:=fun j=>hb.cell (p:=⟨g,j,none⟩) hg
 exact ⟨(q 0).trans h0,(q 1).trans h1,(q 2).trans h2,(q 3).trans h3,(q 4).trans h4,Nat.lt_of_lt_of_le hg hb.size⟩
theorem RgBox.new (w:World) (x:Reg) (t:TypeId): ∃W,w.alloc (.cells #[.int .u64 x.base, .int .u64 x.size, .int .u16 x.part, .int .u8 x.rights, .bool x.shared] t)=W∧RgBox W w.heap.size x∧Below w.heap.size w W:=
 ⟨_,rfl,⟨by simp,by simp,by simp,by simp,by simp,by simp⟩,below_one _ _⟩
def Reg.val (x:Reg):Value:= .agg #[.int .u64 x.base, .int .u64 x.size, .int .u16 x.part, .int .u8 x.rights, .bool x.shared]
def spnOf (x:Reg):Spn:=⟨x.base,x.size⟩
theorem memSpan_ok (x:Reg) (w:World):Calls Tryz.prog 90 #[.agg #[.int .u64 x.base, .int .u64 x.size, .int .u16 x.part, .int .u8 x.rights, .bool x.shared]] w fun e w'=>e= .returned (.agg #[.int .u64 x.base, .int .u64 x.size])∧Below w.heap.size w w':=by
 obtain ⟨W1,hW,rb,hb1⟩:=RgBox.new w x 41
 obtain ⟨p0,p1,_,_,_,hz⟩:=rb
 go_enter Tryz.func90,Tryz.ntmps90
 have hb2:=below_one W1 (.cells #[.int .u64 x.base, .int .u64 x.size] 182)
 go_wp2
 refine bodyPost_ret (v:= .agg #[.int .u64 x.base, .int .u64 x.size]) (by simp [results,Tryz.results90,go_sem]) rfl ⟨rfl, ?_⟩
 exact Below.then_ hb1 hb2
def validB (lo len:Int):Bool:=decide (1≤len∧lo+len≤18446744073709551616)
theorem validB_ok {lo len:Int} (h0:0≤lo) (h:validB lo len=true):okSp lo len:=by
 have:=of_decide_eq_true h
 exact ⟨h0,this.1,this.2⟩
theorem spanLast_over (lo len:Int) (w:World) (h0:wU64 lo) (h1:wU64 len) (h:18446744073709551616 <lo+len):Calls Tryz.prog 141 #[.agg #[.int .u64 lo, .int .u64 len]] w fun e w'=>e= .returned (.int .u64 (lo+len -1 -18446744073709551616))∧Below w.heap.size w w':=by
 have a0:0≤lo∧lo≤18446744073709551615:=Go.bounds_u64 h0
 have a1:0≤len∧len≤18446744073709551615:=Go.bounds_u64 h1
 have e1:IntKind.u64.wrap (IntKind.u64.wrap (lo+len) -1)=lo+len -1 -18446744073709551616:=by
  rw [IntKind.wrap_u64,IntKind.wrap_u64];omega
 have E:=Lib.hid e1
 clear e1
 go_enter Tryz.func141,Tryz.ntmps141
 go_wp2
 go_ret
 exact ⟨ret_int E.out,below_one _ _⟩
set_option maxRecDepth 100000 in
set_option maxHeartbeats 1000000 in
theorem swpValid_ok (lo len:Int) (w:World) (h0:wU64 lo) (h1:wU64 len):Calls Tryz.prog 89 #[.agg #[.int .u64 lo, .int .u64 len]] w fun e w'=>e= .returned (.bool (validB lo len))∧Below w.heap.size w w':=by
 have a0:=Go.bounds_u64 h0
 have a1:=Go.bounds_u64 h1
 have hb:=below_one w (.cells #[.int .u64 lo, .int .u64 len] 182)
 by_cases hl:len=0
 ·subst hl
  have HV:=Lib.hid (show validB lo 0=false by simp [validB])
  go_enter Tryz.func89,Tryz.ntmps89
  go_wp2
  go_quiet (fail)
  go_wp2
  go_ret
  exact ⟨ret_bool HV.out.symm,below_drewN hb _⟩
 ·have hg:decide (0 <len)=true:=decide_eq_true (by omega)
  by_cases hv:lo+len≤18446744073709551616
  ·have HV:=Lib.hid (show validB lo len=true by unfold validB;exact decide_eq_true ⟨by omega,hv⟩)
   have HL:=spanLast_ok lo len (w.alloc (.cells #[.int .u64 lo, .int .u64 len] 182)) ⟨a0.1,by omega,hv⟩
   have hge:decide (lo≤lo+len -1)=true:=decide_eq_true (by omega)
   go_enter Tryz.func89,Tryz.ntmps89
   go_upto_region 1 with (fail)
   refine wp_region_ext (by kernel_rfl) (by kernel_rfl) ?_
   repeat (go_big_quiet_step ((go_at_call 141;exact Calls.quiet_ext (spanLast_ok lo len _ ⟨a0.1,by omega,hv⟩))))
   refine wpQuiet_nil ?_
   intro xq
   go_wp2
   go_ret
   exact ⟨ret_bool HV.out.symm,Below.then_ hb (ext_below _ _)⟩
  ·have HV:=Lib.hid (show validB lo len=false by unfold validB;exact decide_eq_false (by omega))
   have hge:decide (lo≤lo+len -1 -18446744073709551616)=false:=decide_eq_false (by omega)
   go_enter Tryz.func89,Tryz.ntmps89
   go_upto_region 1 with (fail)
   refine wp_region_ext (by kernel_rfl) (by kernel_rfl) ?_
   repeat (go_big_quiet_step ((go_at_call 141;exact Calls.quiet_ext (spanLast_over lo len _ h0 h1 (by omega)))))
   refine wpQuiet_nil ?_
   intro xq
   go_wp2
   go_ret
   exact ⟨ret_bool HV.out.symm,Below.then_ hb (ext_below _ _)⟩
theorem iPart_valM (c:Cfg) (g:Nat) (id:Int) (w:World) (h:IdxAt w w.heap.size g c) (hid:wU16 id) (v:Int) (hv:Hid (idx (fun x=>x.id==id) c.parts=v)):
  Calls Tryz.prog 88 #[.pointer (some ⟨g,0,none⟩), .int .u16 id] w fun e w'=>e= .returned (.int .i64 v)∧Below w.heap.size w w':=by
 have h:=iPartition_ok c g id w h hid
 rwa [hv.out] at h
def regCode (c:Cfg) (r:Reg):Int:=if idx (fun y=>y.id==r.part) c.parts <0 then 19 else if validB r.base r.size then 0 else 24
set_option maxRecDepth 100000 in
set_option maxHeartbeats 1000000 in
theorem memRegion_ok (c:Cfg) (gi:Nat) (w:World) (hI:IdxAt w w.heap.size gi c) (r:Reg) (hr:r.ok):
  Calls Tryz.prog 35 #[.agg #[.pointer (some ⟨gi,0,none⟩)], .agg #[.int .u64 r.base, .int .u64 r.size, .int .u16 r.part, .int .u8 r.rights, .bool r.shared]] w fun e w'=>e= .returned (.int .i64 (regCode c r))∧Below w.heap.size w w':=by
 have hb0:=below_one w (.cells #[.pointer (some ⟨gi,0,none⟩)] 85)
 have hc0:(w.alloc (.cells #[.pointer (some ⟨gi,0,none⟩)] 85)).cell? ⟨w.heap.size,0,none⟩=some (.pointer (some ⟨gi,0,none⟩)):=by simp
 obtain ⟨W1,hW1,rb,hb1⟩:=RgBox.new (w.alloc (.cells #[.pointer (some ⟨gi,0,none⟩)] 85)) r 41
 rw [World.size_alloc] at rb
 have k0:=(hb1.cell (p:=⟨w.heap.size,0,none⟩) (by rw [World.size_alloc];exact Nat.lt_succ_self _)).trans hc0
 have HB:=Lib.hid (Below.then_ hb0 hb1)
 have HI:=Lib.hid (hI.up HB.out)
 have HRB:=Lib.hid rb
 have HW:=Lib.hid hW1
 have HRO:=Lib.hid hr
 obtain ⟨p0,p1,p2,p3,p4,hz⟩:=rb
 have hz0:w.heap.size <W1.heap.size:=Nat.lt_of_lt_of_le (Nat.lt_succ_self _) (Nat.le_of_lt hz)
 clear hb0 hc0 hb1 hW1 hI hr
 obtain ⟨v,hv⟩: ∃v,idx (fun y=>y.id==r.part) c.parts=v:=⟨_,rfl⟩
 have HV:=Lib.hid hv
 by_cases hi:v <0
 ·have HC:=Lib.hid (show regCode c r=19 by unfold regCode;rw [hv,if_pos hi])
  clear hv
  go_enter Tryz.func35,Tryz.ntmps35
  go_upto_region 1 with (fail)
  rw [HW.out]
  go_wp2_with fail
  refine (iPart_valM c gi r.part W1 HI.out HRO.out.part v HV).mono ?_
  rintro e w2 ⟨rfl,hb2⟩
  have HB2:=Lib.hid (Below.then_ HB.out hb2)
  clear hb2 k0 p0 p1 p2 p3 p4
  go_wp2
  go_ret
  exact ⟨ret_int HC.out.symm,HB2.out⟩
 ·obtain ⟨vb,hvb⟩: ∃vb,validB r.base r.size=vb:=⟨_,rfl⟩
  have HVB:=Lib.hid hvb
  have HC:=Lib.hid (show regCode c r=if vb then 0 else 24 by unfold regCode;rw [hv,if_neg hi,hvb])
  have hi2:decide (v <0)=false:=decide_eq_false hi
  clear hv hvb
  go_enter Tryz.func35,Tryz.ntmps35
  go_upto_region 1 with (fail)
  rw [HW.out]
  go_wp2_with fail
  refine (iPart_valM c gi r.part W1 HI.out HRO.out.part v HV).mono ?_
  rintro e w2 ⟨rfl,hb2⟩
  have HB2:=Lib.hid (Below.then_ HB.out hb2)
  have HRB2:=Lib.hid (HRB.out.up hb2)
  clear hb2 k0 p0 p1 p2 p3 p4 hz
  obtain ⟨p0,p1,p2,p3,p4,hz⟩:=HRB2.out
  go_wp2_with fail
  refine (memSpan_ok r w2).mono ?_
  rintro e w3 ⟨rfl,hb3⟩
  have HB3:=Lib.hid (Below.then_ HB2.out hb3)
  clear hb3 p0 p1 p2 p3 p4 hz
  go_wp2_with fail
  refine (swpValid_ok r.base r.size w3 HRO.out.base HRO.out.size).mono ?_
  rw [HVB.out]
  rintro e w4 ⟨rfl,hb4⟩
  have HB4:=Lib.hid (Below.then_ HB3.out hb4)
  clear hb4
  cases vb
  ·go_wp2
   go_ret
   exact ⟨ret_int HC.out.symm,HB4.out⟩
  ·go_wp2
   go_ret
   exact ⟨ret_int HC.out.symm,HB4.out⟩
end Go.Proofs.YtdmgpdanlfmadaaGreat
namespace Go.Proofs.YtdmgpdanlfmadaaGreat
open Go.RowKit
attribute [local go_sem] ext_cell
theorem infoSpan:(Tryz.prog.info? 182).map (fun i=>(i.zero,i.size,i.bytes))=some (some (.agg #[.int .u64 0, .int .u64 0]),2,16):=by kernel_rfl
theorem new_spn (w:World) (a b:Int) (t:TypeId):Rd (w.alloc (.cells #[.int .u64 a, .int .u64 b] t)) (w.heap.size+1) 2 (some ⟨w.heap.size,0,none⟩) 1 [.int .u64 a, .int .u64 b]:=by
 refine ⟨rfl,fun _=>⟨_,_,rfl,Nat.lt_succ_self _,fun j u hu=> ?_⟩⟩
 have:=World.news_of_block (heap_alloc_new w (.cells #[.int .u64 a, .int .u64 b] t)) j u (by simpa using hu)
 rwa [addr_add] at this
theorem spn_cells (l:List Reg) (k:Nat) {x:Reg} (h:l[k]? =some x):((l.take (k+1)).map spnOf).flatMap Spn.cells=((l.take k).map spnOf).flatMap Spn.cells++ [.int .u64 x.base, .int .u64 x.size]:=by
 rw [take_next h];simp [Spn.cells,spnOf]
set_option maxRecDepth 100000 in
set_option maxHeartbeats 2000000 in
theorem memSpans_ok (l:List Reg) (A:Option Addr) (cp:Nat) (w:World) (hl:l.length≤1048576) (hR:Rd w w.heap.size 5 A l.length (l.flatMap Reg.cells)):
  Calls Tryz.prog 38 #[.slice A l.length cp] w fun e w'=> ∃v,e= .returned v∧w'.ownsRow w.heap.size 182 2 v l.length ((l.map spnOf).flatMap Spn.cells)∧Below w.heap.size w w':=by
 obtain ⟨i0,hi,hz0,hz1,hz2⟩:=info_parts infoSpan
 have HR:=Lib.hid hR
 clear hR
 go_enter Tryz.func38,Tryz.ntmps38
 go_wp2
 go_loopw [3,8] (fun o i wr=> ∃k:Nat,k≤l.length∧i= .int .i64 k∧Hid (wr.ownsRow w.heap.size 182 2 o k (((l.take k).map spnOf).flatMap Spn.cells))∧Hid (Below w.heap.size w wr)) (fun _ i _=>l.length -(intOf i).toNat)
 case atStart=>exact ⟨0,by omega,rfl,Lib.hid (World.ownsRow_nil _ _ _ _),Lib.hid (Below.refl _ _)⟩
 case round=>
  obtain ⟨k,hk,rfl,HO,HB⟩:=hrel
  by_cases hlt:k <l.length
  ·obtain ⟨x,hx⟩:=get_lt hlt
   have HRk:=HR.out.below HB.out
   obtain ⟨bb,o,rfl,hbb,g0,g1,g2,g3,g4⟩:=reg_at HRk hx
   have HN:=Lib.hid (spn_cells l k hx)
   have k0:(0:Int)≤(k:Int):=by omega
   have k1:(k:Int) <(l.length:Int):=by omega
   clear hx HRk
   go_upto_region 5 with (fail)
   obtain ⟨W4,hW4,rb,hb4⟩:=RgBox.new wr x 41
   rw [hW4]
   have HB4:=Lib.hid (HB.out.trans (hb4.mono HB.out.size))
   have HO4:=Lib.hid (own_below HO.out hb4)
   obtain ⟨p0,p1,p2,p3,p4,hg⟩:=rb
   clear hW4 hb4 g0 g1 g2 g3 g4 hbb
   go_wp2_with fail
   refine (memSpan_ok x W4).mono ?_
   rintro e w5 ⟨rfl,hb5⟩
   have HB5:=Lib.hid (HB4.out.trans (hb5.mono HB4.out.size))
   have hO5:=own_below HO4.out hb5
   obtain ⟨rA,rc,rfl,_⟩:=own_form hO5
   have hal:=below_one w5 (.cells #[.int .u64 x.base, .int .u64 x.size] 182)
   have HO5:=Lib.hid (own_below hO5 hal)
   have HB6:=Lib.hid (HB5.out.trans (hal.mono HB5.out.size))
   have hsz:=HB5.out.size
   clear hO5 hb5 hal p0 p1 p2 p3 p4 hg
   go_wp2_with (at_builtin;go_loud (refine wpList_append_rd _ rfl (.tmp 12) (.tmp 15) _ rfl w.heap.size 182 i0 (.agg #[.int .u64 0, .int .u64 0]) 2 16 Tryz.underlying89 hi hz0 hz1 hz2 rfl (by decide) _ _ _ rfl HO5.out (w5.heap.size+1) (some ⟨w5.heap.size,0,none⟩) 1 1 [.int .u64 x.base, .int .u64 x.size] rfl (new_spn w5 _ _ _) (by intro u hu;simp at hu;rcases hu with rfl |rfl<;>rfl) (by unfold maxLen;omega) (by omega) (by simp;omega) ?_);intro v' w6 hown hg)
   have hb6:=below_own HB6.out hg HO5.out HB6.out.size
   have HO6:=Lib.hid (show w6.ownsRow w.heap.size 182 2 v' (k+1) (((l.take (k+1)).map spnOf).flatMap Spn.cells) by rw [HN.out];exact hown)
   have HB7:=Lib.hid hb6
   clear hown hg hb6
   go_wp2
   go_roundw
   case rel=>exact ⟨k+1,by omega,by go_num,HO6,HB7⟩
   case measure=>simp [intOf];omega
  ·obtain rfl:k=l.length:=by omega
   go_wp2
   go_ret
   exact ⟨_,rfl,by have:=HO.out;rwa [List.take_length] at this,HB.out⟩
def regNe (x y:Reg):Bool:= !(x.base==y.base&&x.size==y.size&&x.part==y.part&&x.rights==y.rights&&x.shared==y.shared)
def regAl (x y:Reg):Bool:=x.shared&&y.shared&&regNe x y
set_option maxRecDepth 100000 in
set_option maxHeartbeats 2000000 in
theorem memAllow_ok (c:Cfg) (A:Option Addr) (cp cb:Nat) (w:World) (hc:w.cell? ⟨cb,3,none⟩=some (.slice A c.regs.length cp)) (_hlt:cb <w.heap.size) (_hl:c.regs.length≤1048576) (hR:Rd w w.heap.size 5 A c.regs.length (c.regs.flatMap Reg.cells)) {i j:Nat} {x y:Reg} (hx:c.regs[i]? =some x) (hy:c.regs[j]? =some y):
  Calls Tryz.prog 36 #[.int .i64 i, .int .i64 j, .pointer (some ⟨cb,0,none⟩)] w fun e w'=>e= .returned (.bool (regAl x y))∧Below w.heap.size w w':=by
 obtain ⟨bb,o,rfl,hbb,g0,g1,g2,g3,g4⟩:=reg_at hR hx
 obtain ⟨b2,o2,e2,hbb2,k0,k1,k2,k3,k4⟩:=reg_at hR hy
 obtain ⟨rfl,rfl⟩:bb=b2∧o=o2:=by simpa using e2
 have i0:(0:Int)≤(i:Int):=by omega
 have i1:(i:Int) <(c.regs.length:Int):=by have:=(List.getElem?_eq_some_iff.1 hx).1;omega
 have j0:(0:Int)≤(j:Int):=by omega
 have j1:(j:Int) <(c.regs.length:Int):=by have:=(List.getElem?_eq_some_iff.1 hy).1;omega
 clear e2 hR hx hy
 rcases bool_cases x.shared with hs |hs
 ·rw [hs] at g4
  rcases bool_cases y.shared with ht |ht
  ·rw [ht] at k4
   rcases Decidable.em (x.base=y.base) with q0 |q0
   rotate_left
   ·have HV:=Lib.hid (show regAl x y=true by simp [regAl,regNe,hs,ht,q0])
    go_enter Tryz.func36,Tryz.ntmps36
    go_wp2
    go_quiet (fail)
    go_wp2
    go_ret
    exact ⟨ret_bool HV.out.symm,below_drewN (Below.refl _ _) _⟩
   rw [←q0] at k0
   rcases Decidable.em (x.size=y.size) with q1 |q1
   rotate_left
   ·have HV:=Lib.hid (show regAl x y=true by simp [regAl,regNe,hs,ht,q0,q1])
    go_enter Tryz.func36,Tryz.ntmps36
    go_wp2
    go_quiet (fail)
    go_wp2
    go_ret
    exact ⟨ret_bool HV.out.symm,below_drewN (Below.refl _ _) _⟩
   rw [←q1] at k1
   rcases Decidable.em (x.part=y.part) with q2 |q2
   rotate_left
   ·have HV:=Lib.hid (show regAl x y=true by simp [regAl,regNe,hs,ht,q0,q1,q2])
    go_enter Tryz.func36,Tryz.ntmps36
    go_wp2
    go_quiet (fail)
    go_wp2
    go_ret
    exact ⟨ret_bool HV.out.symm,below_drewN (Below.refl _ _) _⟩
   rw [←q2] at k2
   rcases Decidable.em (x.rights=y.rights) with q3 |q3
   rotate_left
   ·have HV:=Lib.hid (show regAl x y=true by simp [regAl,regNe,hs,ht,q0,q1,q2,q3])
    go_enter Tryz.func36,Tryz.ntmps36
    go_wp2
    go_quiet (fail)
    go_wp2
    go_ret
    exact ⟨ret_bool HV.out.symm,below_drewN (Below.refl _ _) _⟩
   rw [←q3] at k3
   have HV:=Lib.hid (show regAl x y=false by simp [regAl,regNe,hs,ht,q0,q1,q2,q3])
   go_enter Tryz.func36,Tryz.ntmps36
   go_wp2
   go_quiet (fail)
   go_wp2
   go_ret
   exact ⟨ret_bool HV.out.symm,below_drewN (Below.refl _ _) _⟩
  ·rw [ht] at k4
   have HV:=Lib.hid (show regAl x y=false by unfold regAl;rw [ht];simp)
   go_enter Tryz.func36,Tryz.ntmps36
   go_wp2
   go_quiet (fail)
   go_wp2
   go_ret
   exact ⟨ret_bool HV.out.symm,below_drewN (Below.refl _ _) _⟩
 ·rw [hs] at g4
  have HV:=Lib.hid (show regAl x y=false by unfold regAl;rw [hs];simp)
  go_enter Tryz.func36,Tryz.ntmps36
  go_wp2
  go_quiet (fail)
  go_wp2
  go_ret
  exact ⟨ret_bool HV.out.symm,below_drewN (Below.refl _ _) _⟩
end Go.Proofs.YtdmgpdanlfmadaaGreat
namespace Go.Proofs.YtdmgpdanlfmadaaGreat
open Go.RowKit
attribute [local go_sem] ext_cell
theorem ret_pairM {p q:Int × Int} (h:p=q):Ending.returned (.tuple #[.int .i64 p.1, .int .i64 p.2])= .returned (.tuple #[.int .i64 q.1, .int .i64 q.2]):=by rw [h]
theorem rSpan_ok (x:Reg) (w:World):Calls Tryz.prog 42 #[.agg #[.int .u64 x.base, .int .u64 x.size, .int .u16 x.part, .int .u8 x.rights, .bool x.shared]] w fun e w'=>e= .returned (.agg #[.int .u64 x.base, .int .u64 x.size])∧Below w.heap.size w w':=by
 obtain ⟨W1,hW,rb,hb1⟩:=RgBox.new w x 41
 obtain ⟨p0,p1,_,_,_,hz⟩:=rb
 have hb2:=below_one W1 (.cells #[.int .u64 x.base, .int .u64 x.size] 94)
 go_enter Tryz.func42,Tryz.ntmps42
 go_wp2
 refine bodyPost_ret (v:= .agg #[.int .u64 x.base, .int .u64 x.size]) (by simp [results,Tryz.results42,go_sem]) rfl ⟨rfl, ?_⟩
 exact Below.then_ hb1 hb2
theorem rLast_ok (lo len:Int) (w:World) (h:okSp lo len):Calls Tryz.prog 97 #[.agg #[.int .u64 lo, .int .u64 len]] w fun e w'=>e= .returned (.int .u64 (lo+len -1))∧Below w.heap.size w w':=by
 obtain ⟨h0,h1,h2⟩:=h
 have e1:IntKind.u64.wrap (lo+IntKind.u64.wrap (len -1))=lo+len -1:=by
  rw [IntKind.wrap_u64,IntKind.wrap_u64];omega
 have E:=Lib.hid e1
 clear e1
 go_enter Tryz.func97,Tryz.ntmps97
 go_wp2
 go_ret
 exact ⟨ret_int (by omega),below_one _ _⟩
theorem rLast_over (lo len:Int) (w:World) (h0:wU64 lo) (h1:wU64 len) (h:18446744073709551616 <lo+len):Calls Tryz.prog 97 #[.agg #[.int .u64 lo, .int .u64 len]] w fun e w'=>e= .returned (.int .u64 (lo+len -1 -18446744073709551616))∧Below w.heap.size w w':=by
 have a0:=Go.bounds_u64 h0
 have a1:=Go.bounds_u64 h1
 have e1:IntKind.u64.wrap (lo+(len -1))=lo+len -1 -18446744073709551616:=by
  rw [IntKind.wrap_u64];omega
 have E:=Lib.hid e1
 clear e1
 go_enter Tryz.func97,Tryz.ntmps97
 go_wp2
 go_ret
 exact ⟨ret_int E.out,below_one _ _⟩
set_option maxRecDepth 100000 in
set_option maxHeartbeats 1000000 in
theorem rValid_ok (lo len:Int) (w:World) (h0:wU64 lo) (h1:wU64 len):Calls Tryz.prog 100 #[.agg #[.int .u64 lo, .int .u64 len]] w fun e w'=>e= .returned (.bool (validB lo len))∧Below w.heap.size w w':=by
 have a0:=Go.bounds_u64 h0
 have a1:=Go.bounds_u64 h1
 have hb:=below_one w (.cells #[.int .u64 lo, .int .u64 len] 94)
 by_cases hl:len=0
 ·subst hl
  have HV:=Lib.hid (show validB lo 0=false by simp [validB])
  go_enter Tryz.func100,Tryz.ntmps100
  go_wp2
  go_quiet (fail)
  go_wp2
  go_ret
  exact ⟨ret_bool HV.out.symm,below_drewN hb _⟩
 ·have hg:decide (1≤len)=true:=decide_eq_true (by omega)
  have hg2:1≤len:=by omega
  by_cases hv:lo+len≤18446744073709551616
  ·have HV:=Lib.hid (show validB lo len=true by unfold validB;exact decide_eq_true ⟨by omega,hv⟩)
   have hge:decide (lo≤lo+len -1)=true:=decide_eq_true (by omega)
   have hge2:lo≤lo+len -1:=by omega
   go_enter Tryz.func100,Tryz.ntmps100
   go_upto_region 1 with (fail)
   refine wp_region_ext (by kernel_rfl) (by kernel_rfl) ?_
   repeat (go_big_quiet_step ((go_at_call 97;exact Calls.quiet_ext (rLast_ok lo len _ ⟨a0.1,by omega,hv⟩))))
   refine wpQuiet_nil ?_
   intro xq
   go_wp2
   go_ret
   exact ⟨ret_bool HV.out.symm,Below.then_ hb (ext_below _ _)⟩
  ·have HV:=Lib.hid (show validB lo len=false by unfold validB;exact decide_eq_false (by omega))
   have hge:decide (lo≤lo+len -1 -18446744073709551616)=false:=decide_eq_false (by omega)
   go_enter Tryz.func100,Tryz.ntmps100
   go_upto_region 1 with (fail)
   refine wp_region_ext (by kernel_rfl) (by kernel_rfl) ?_
   repeat (go_big_quiet_step ((go_at_call 97;exact Calls.quiet_ext (rLast_over lo len _ h0 h1 (by omega)))))
   refine wpQuiet_nil ?_
   intro xq
   go_wp2
   go_ret
   exact ⟨ret_bool HV.out.symm,Below.then_ hb (ext_below _ _)⟩
def hasS (s:Spn) (v:Int):Bool:=decide (s.lo≤v)&&decide (v≤s.lo+s.len -1)
def meetS (a b:Spn):Bool:=hasS a b.lo||hasS b a.lo
theorem rHas_ok (s:Spn) (v:Int) (w:World) (h:okSp s.lo s.len):Calls Tryz.prog 41 #[.agg #[.int .u64 s.lo, .int .u64 s.len], .int .u64 v] w fun e w'=>e= .returned (.bool (hasS s v))∧Below w.heap.size w w':=by
 have hb:=below_one w (.cells #[.int .u64 s.lo, .int .u64 s.len] 94)
 by_cases h1:s.lo≤v
 ·have HV:=Lib.hid (show hasS s v=decide (v≤s.lo+s.len -1) by unfold hasS;rw [decide_eq_true h1,Bool.true_and])
  go_enter Tryz.func41,Tryz.ntmps41
  go_wp2_with fail
  refine (rLast_ok s.lo s.len _ h).mono ?_
  rintro e w1 ⟨rfl,hb1⟩
  have HB:=Lib.hid (Below.then_ hb hb1)
  clear hb hb1
  rcases Decidable.em (v≤s.lo+s.len -1) with h2 |h2
  ·go_wp2
   go_ret
   exact ⟨ret_bool (by rw [HV.out];first |done |simp [h2]),HB.out⟩
  ·go_wp2
   go_ret
   exact ⟨ret_bool (by rw [HV.out];first |done |simp [h2]),HB.out⟩
 ·have HV:=Lib.hid (show hasS s v=false by unfold hasS;rw [decide_eq_false h1,Bool.false_and])
  go_enter Tryz.func41,Tryz.ntmps41
  go_wp2
  go_ret
  exact ⟨ret_bool HV.out.symm,hb⟩
theorem rMeet_ok (a b:Spn) (w:World) (ha:okSp a.lo a.len) (hb:okSp b.lo b.len):Calls Tryz.prog 101 #[.agg #[.int .u64 a.lo, .int .u64 a.len], .agg #[.int .u64 b.lo, .int .u64 b.len]] w fun e w'=>e= .returned (.bool (meetS a b))∧Below w.heap.size w w':=by
 have hb0:=below_one w (.cells #[.int .u64 a.lo, .int .u64 a.len] 94)
 have hb1:=below_one (w.alloc (.cells #[.int .u64 a.lo, .int .u64 a.len] 94)) (.cells #[.int .u64 b.lo, .int .u64 b.len] 94)
 have HB:=Lib.hid (Below.then_ hb0 hb1)
 obtain ⟨v1,hv1⟩: ∃v,hasS a b.lo=v:=⟨_,rfl⟩
 obtain ⟨v2,hv2⟩: ∃v,hasS b a.lo=v:=⟨_,rfl⟩
 have HV:=Lib.hid (show meetS a b=(v1||v2) by unfold meetS;rw [hv1,hv2])
 have H1:=Lib.hid hv1
 have H2:=Lib.hid hv2
 have hk0:((w.alloc (.cells #[.int .u64 a.lo, .int .u64 a.len] 94)).alloc (.cells #[.int .u64 b.lo, .int .u64 b.len] 94)).cell? ⟨w.heap.size,0,none⟩=some (.int .u64 a.lo):=by simp
 have hk2:((w.alloc (.cells #[.int .u64 a.lo, .int .u64 a.len] 94)).alloc (.cells #[.int .u64 b.lo, .int .u64 b.len] 94)).cell? ⟨w.heap.size+1,0,none⟩=some (.int .u64 b.lo):=by simp
 have hk3:((w.alloc (.cells #[.int .u64 a.lo, .int .u64 a.len] 94)).alloc (.cells #[.int .u64 b.lo, .int .u64 b.len] 94)).cell? ⟨w.heap.size+1,1,none⟩=some (.int .u64 b.len):=by simp
 have hsz:((w.alloc (.cells #[.int .u64 a.lo, .int .u64 a.len] 94)).alloc (.cells #[.int .u64 b.lo, .int .u64 b.len] 94)).heap.size=w.heap.size+2:=by simp
 clear hv1 hv2 hb0 hb1
 cases v1
 ·go_enter Tryz.func101,Tryz.ntmps101
  go_wp2_with fail
  refine (rHas_ok a b.lo _ ha).mono ?_
  rw [H1.out]
  rintro e w1 ⟨rfl,hb1⟩
  have q0:=(hb1.cell (p:=⟨w.heap.size,0,none⟩) (by show w.heap.size <_;rw [hsz];omega)).trans hk0
  have q2:=(hb1.cell (p:=⟨w.heap.size+1,0,none⟩) (by show w.heap.size+1 <_;rw [hsz];omega)).trans hk2
  have q3:=(hb1.cell (p:=⟨w.heap.size+1,1,none⟩) (by show w.heap.size+1 <_;rw [hsz];omega)).trans hk3
  have HB1:=Lib.hid (Below.then_ HB.out hb1)
  clear hb1 hk0 hk2 hk3 hsz
  go_wp2_with fail
  refine (rHas_ok b a.lo _ hb).mono ?_
  rw [H2.out]
  rintro e w2 ⟨rfl,hb2⟩
  have HB2:=Lib.hid (Below.then_ HB1.out hb2)
  clear hb2 q0 q2 q3
  go_wp2
  go_ret
  exact ⟨ret_bool (by rw [HV.out];rfl),HB2.out⟩
 ·go_enter Tryz.func101,Tryz.ntmps101
  go_wp2_with fail
  refine (rHas_ok a b.lo _ ha).mono ?_
  rw [H1.out]
  rintro e w1 ⟨rfl,hb1⟩
  have HB1:=Lib.hid (Below.then_ HB.out hb1)
  clear hb1 hk0 hk2 hk3 hsz
  go_wp2
  go_ret
  exact ⟨ret_bool (by rw [HV.out];rfl),HB1.out⟩
end Go.Proofs.YtdmgpdanlfmadaaGreat
namespace Go.Proofs.YtdmgpdanlfmadaaGreat
open Go.RowKit
def regBad (c:Cfg):Int × Int:=bad 0 (c.regs.map (regCode c))
def overR (x y:Reg):Bool:=meetS (spnOf x) (spnOf y)&& !regAl x y
def clashAt (l:List Reg) (j:Nat):Int:=match l[j]? with |some y=>if (l.take j).any (fun x=>overR x y) then 21 else 0 |none=>0
def clashBad (l:List Reg):Int × Int:=bad 0 ((List.range l.length).map (clashAt l))
def memBad (c:Cfg):Int × Int:=if (regBad c).1=0 then clashBad c.regs else regBad c
theorem clash_at {l:List Reg} {j:Nat} {y:Reg} (h:l[j]? =some y):clashAt l j=if (l.take j).any (fun x=>overR x y) then 21 else 0:=by unfold clashAt;rw [h]
theorem clash_list {l:List Reg} {j:Nat} (h:j <l.length):((List.range l.length).map (clashAt l))[j]? =some (clashAt l j):=by
 rw [List.getElem?_map,List.getElem?_range h];rfl
theorem over_hit {l:List Reg} {i j:Nat} {x y:Reg} (hj:l[j]? =some y) (hi:l[i]? =some x) (hij:i <j) (h:overR x y=true):clashAt l j=21:=by
 rw [clash_at hj,if_pos]
 rw [List.any_eq_true]
 exact ⟨x,List.mem_of_getElem? (show (l.take j)[i]? =some x by rw [List.getElem?_take,if_pos hij];exact hi),h⟩
theorem over_miss {l:List Reg} {i:Nat} {x y:Reg} (hi:l[i]? =some x) (h0:(l.take i).any (fun x=>overR x y)=false) (h:overR x y=false):(l.take (i+1)).any (fun x=>overR x y)=false:=by
 rw [take_next hi,List.any_append,h0];simp [h]
theorem over_end {l:List Reg} {j:Nat} {y:Reg} (hj:l[j]? =some y) (h0:(l.take j).any (fun x=>overR x y)=false):clashAt l j=0:=by rw [clash_at hj,h0];rfl
theorem regBad_ok {c:Cfg} (hok:c.ok) (h:(regBad c).1=0): ∀x ∈ c.regs,okSp x.base x.size:=by
 intro x hx
 have h1:=(bad_zero _ _).1 h (regCode c x) (List.mem_map.2 ⟨x,hx,rfl⟩)
 have hb:=Go.bounds_u64 (hok.regs x hx).base
 unfold regCode at h1
 split at h1
 ·cases h1
 ·split at h1
  ·rename_i hv;exact validB_ok hb.1 hv
  ·cases h1
end Go.Proofs.YtdmgpdanlfmadaaGreat
namespace Go.Proofs.YtdmgpdanlfmadaaGreat
open Go.RowKit
theorem bad_cases: ∀(l:List Int) (s:Nat),(bad s l=(0,0)∧ ∀e ∈ l,e=0)∨ ∃(j:Nat) (e:Int),l[j]? =some e∧e≠0∧bad s l=(e,((s+j:Nat):Int))∧ ∀(i:Nat) (e':Int),i <j→l[i]? =some e'→e'=0
 | [],s=> .inl ⟨rfl,by simp⟩
 |x::r,s=>by
  unfold bad
  by_cases hx:x=0
  ·rw [if_pos hx]
   rcases bad_cases r (s+1) with ⟨h1,h2⟩ |⟨j,e,h1,h2,h3,h4⟩
   ·exact .inl ⟨h1,by simp [hx];exact h2⟩
   ·refine .inr ⟨j+1,e,by simpa using h1,h2,by rw [h3];congr 2;omega,fun i e' hi he=> ?_⟩
    rcases i with _ |i
    ·simp at he;omega
    ·exact h4 i e' (by omega) (by simpa using he)
  ·rw [if_neg hx]
   exact .inr ⟨0,x,rfl,hx,rfl,fun i e' hi=>by omega⟩
theorem meetS_iff {a b:Spn} (ha:okSp a.lo a.len) (hb:okSp b.lo b.len):meetS a b=true↔(a.lo≤b.lo+b.len -1∧b.lo≤a.lo+a.len -1):=by
 have h1:=ha.2.1
 have h2:=hb.2.1
 unfold meetS hasS
 simp only [Bool.or_eq_true,Bool.and_eq_true,decide_eq_true_eq]
 omega
theorem pairs_meet {l:List Spn} {L:List Pr} (hsp: ∀s ∈ l,okSp s.lo s.len) (h:PairsOf (itemsOf l) L) {p:Pr}:p ∈ L↔ ∃(i j:Nat) (x y:Spn),l[i]? =some x∧l[j]? =some y∧i <j∧meetS x y=true∧p=⟨(i:Int),(j:Int)⟩:=by
 rw [h p]
 constructor
 ·rintro ⟨x,hx,y,hy,hne,h1,h2,rfl⟩
  obtain ⟨a,ha⟩:=List.mem_iff_getElem?.1 hx
  obtain ⟨b,hb⟩:=List.mem_iff_getElem?.1 hy
  obtain ⟨sx,hsx,rfl⟩:=itemsOf_at.1 ha
  obtain ⟨sy,hsy,rfl⟩:=itemsOf_at.1 hb
  have ox:=hsp sx (List.mem_of_getElem? hsx)
  have oy:=hsp sy (List.mem_of_getElem? hsy)
  simp only [lastOf] at h1 h2
  rcases Nat.lt_trichotomy a b with hab |hab |hab
  ·exact ⟨a,b,sx,sy,hsx,hsy,hab,(meetS_iff ox oy).2 ⟨h1,h2⟩,by unfold prOf;congr 1<;>simp<;>omega⟩
  ·exact absurd (by rw [hab]) hne
  ·exact ⟨b,a,sy,sx,hsy,hsx,hab,(meetS_iff oy ox).2 ⟨h2,h1⟩,by unfold prOf;congr 1<;>simp<;>omega⟩
 ·rintro ⟨i,j,x,y,hi,hj,hij,hm,rfl⟩
  have ox:=hsp x (List.mem_of_getElem? hi)
  have oy:=hsp y (List.mem_of_getElem? hj)
  have hm2:=(meetS_iff ox oy).1 hm
  exact ⟨⟨x.lo,x.len,(i:Int)⟩,List.mem_of_getElem? (itemsOf_at.2 ⟨x,hi,rfl⟩),⟨y.lo,y.len,(j:Int)⟩,List.mem_of_getElem? (itemsOf_at.2 ⟨y,hj,rfl⟩),by simp;omega,hm2.1,hm2.2,by unfold prOf;congr 1<;>simp<;>omega⟩
def alP (l:List Reg) (p:Pr):Bool:=match l[p.i.toNat]?,l[p.j.toNat]? with |some x,some y=>regAl x y |_,_=>false
def FJ (l:List Reg) (L:List Pr) (m:Int):Prop:=(m= -1∧ ∀p ∈ L,alP l p=true)∨(0≤m∧(∃p ∈ L,alP l p=false∧p.j=m)∧ ∀p ∈ L,alP l p=false→m≤p.j)
theorem FJ.skip {l:List Reg} {L:List Pr} {m:Int} {p:Pr} (h:FJ l L m) (hp:alP l p=true):FJ l (L++ [p]) m:=by
 rcases h with ⟨h1,h2⟩ |⟨h1,⟨q,hq,h3⟩,h4⟩
 ·exact .inl ⟨h1,fun r hr=>by rcases List.mem_append.1 hr with hr |hr;exact h2 r hr;rw [List.mem_singleton] at hr;rw [hr];exact hp⟩
 ·refine .inr ⟨h1,⟨q,by simp [hq],h3⟩,fun r hr hn=> ?_⟩
  rcases List.mem_append.1 hr with hr |hr
  ·exact h4 r hr hn
  ·rw [List.mem_singleton] at hr;rw [hr,hp] at hn;cases hn
theorem FJ.take_ {l:List Reg} {L:List Pr} {m:Int} {p:Pr} (h:FJ l L m) (hp:alP l p=false) (h0:0≤p.j) (hm:m <0∨p.j <m):FJ l (L++ [p]) p.j:=by
 refine .inr ⟨h0,⟨p,by simp,hp,rfl⟩,fun r hr hn=> ?_⟩
 rcases List.mem_append.1 hr with hr |hr
 ·rcases h with ⟨_,h2⟩ |⟨h1,_,h4⟩
  ·rw [h2 r hr] at hn;cases hn
  ·have:=h4 r hr hn;omega
 ·rw [List.mem_singleton] at hr;rw [hr];exact Int.le_refl _
theorem FJ.keep {l:List Reg} {L:List Pr} {m:Int} {p:Pr} (h:FJ l L m) (h0: ¬m <0) (hm: ¬p.j <m):FJ l (L++ [p]) m:=by
 rcases h with ⟨h1,h2⟩ |⟨h1,⟨q,hq,h3⟩,h4⟩
 ·omega
 ·refine .inr ⟨h1,⟨q,by simp [hq],h3⟩,fun r hr hn=> ?_⟩
  rcases List.mem_append.1 hr with hr |hr
  ·exact h4 r hr hn
  ·rw [List.mem_singleton] at hr;rw [hr];omega
def clashJ (l:List Reg):Int:=if (clashBad l).1=0 then -1 else (clashBad l).2
theorem clash_over {l:List Reg} {j:Nat} (h:clashAt l j≠0): ∃(i:Nat) (x y:Reg),i <j∧l[i]? =some x∧l[j]? =some y∧overR x y=true:=by
 unfold clashAt at h
 rcases hy:l[j]? with _ |y
 ·rw [hy] at h;exact absurd rfl h
 ·rw [hy] at h
  simp only at h
  by_cases ha:(l.take j).any (fun x=>overR x y)=true
  ·rw [List.any_eq_true] at ha
   obtain ⟨x,hx,ho⟩:=ha
   obtain ⟨i,hi⟩:=List.mem_iff_getElem?.1 hx
   rw [List.getElem?_take] at hi
   split at hi
   ·rename_i hij;exact ⟨i,x,y,hij,hi,rfl,ho⟩
   ·cases hi
  ·rw [if_neg ha] at h;exact absurd rfl h
theorem first_val {l:List Reg} {L:List Pr} {m:Int} (hsp: ∀s ∈ l.map spnOf,okSp s.lo s.len) (h:PairsOf (itemsOf (l.map spnOf)) L) (hf:FJ l L m):m=clashJ l:=by
 have toL: ∀ {i j:Nat} {x y:Reg},i <j→l[i]? =some x→l[j]? =some y→overR x y=true→(⟨(i:Int),(j:Int)⟩:Pr) ∈ L∧alP l ⟨(i:Int),(j:Int)⟩=false:=by
  intro i j x y hij hx hy ho
  unfold overR at ho
  rw [Bool.and_eq_true] at ho
  refine ⟨(pairs_meet hsp h).2 ⟨i,j,spnOf x,spnOf y,by rw [List.getElem?_map,hx];rfl,by rw [List.getElem?_map,hy];rfl,hij,ho.1,rfl⟩, ?_⟩
  unfold alP
  simp only [Int.toNat_natCast]
  rw [hx,hy]
  simpa using ho.2
 unfold clashJ
 unfold clashBad
 rcases bad_cases ((List.range l.length).map (clashAt l)) 0 with ⟨h1,h2⟩ |⟨j,e,h1,h2,h3,h4⟩
 ·rw [h1,if_pos rfl]
  rcases hf with ⟨hm,_⟩ |⟨_,⟨p,hp,hn,hj⟩,_⟩
  ·exact hm
  ·exfalso
   obtain ⟨i,j,sx,sy,hx,hy,hij,hmt,rfl⟩:=(pairs_meet hsp h).1 hp
   rw [List.getElem?_map] at hx hy
   obtain ⟨x,gx,rfl⟩:=Option.map_eq_some_iff.1 hx
   obtain ⟨y,gy,rfl⟩:=Option.map_eq_some_iff.1 hy
   clear hx hy
   have hx:=gx
   have hy:=gy
   unfold alP at hn
   simp only [Int.toNat_natCast] at hn
   rw [hx,hy] at hn
   have h0:=over_hit hy hx hij (by unfold overR;rw [hmt];simp at hn;simp [hn])
   have hjl:j <l.length:=(List.getElem?_eq_some_iff.1 hy).1
   have:=h2 _ (List.mem_of_getElem? (clash_list hjl))
   rw [h0] at this
   cases this
 ·rw [h3,if_neg h2]
  have hjl:j <l.length:=by have:=(List.getElem?_eq_some_iff.1 h1).1;simpa using this
  rw [clash_list hjl] at h1
  injection h1 with h1
  obtain ⟨i,x,y,hij,hx,hy,ho⟩:=clash_over (l:=l) (j:=j) (by rw [h1];exact h2)
  obtain ⟨hmem,hnal⟩:=toL hij hx hy ho
  rcases hf with ⟨_,hall⟩ |⟨h0,⟨p,hp,hn,hpj⟩,hle⟩
  ·rw [hall _ hmem] at hnal;cases hnal
  ·have hmj:m≤(j:Int):=hle _ hmem hnal
   obtain ⟨i',j',sx,sy,hx',hy',hij',hmt,rfl⟩:=(pairs_meet hsp h).1 hp
   rw [List.getElem?_map] at hx' hy'
   obtain ⟨x',gx',rfl⟩:=Option.map_eq_some_iff.1 hx'
   obtain ⟨y',gy',rfl⟩:=Option.map_eq_some_iff.1 hy'
   clear hx' hy'
   have hx':=gx'
   have hy':=gy'
   unfold alP at hn
   simp only [Int.toNat_natCast] at hn
   rw [hx',hy'] at hn
   have h0':=over_hit hy' hx' hij' (by unfold overR;rw [hmt];simp at hn;simp [hn])
   have hjl':j' <l.length:=(List.getElem?_eq_some_iff.1 hy').1
   simp only at hpj
   rcases Nat.lt_or_ge j' j with hlt |hge
   ·have:=h4 j' _ hlt (clash_list hjl')
    rw [h0'] at this
    cases this
   ·show m=((0+j:Nat):Int)
    omega
end Go.Proofs.YtdmgpdanlfmadaaGreat
namespace Go.Proofs.YtdmgpdanlfmadaaGreat
open Go.RowKit Go.Shelf
theorem PrBox_new (w:World) (p:Pr) (t:TypeId): ∃W,w.alloc (.cells #[.int .i64 p.i, .int .i64 p.j] t)=W∧(W.cell? ⟨w.heap.size,0,none⟩=some (.int .i64 p.i)∧W.cell? ⟨w.heap.size,1,none⟩=some (.int .i64 p.j)∧w.heap.size <W.heap.size)∧Below w.heap.size w W:=
 ⟨_,rfl,⟨by simp,by simp,by simp⟩,below_one _ _⟩
theorem pair_regs {l:List Reg} {L:List Pr} (hsp: ∀s ∈ l.map spnOf,okSp s.lo s.len) (h:PairsOf (itemsOf (l.map spnOf)) L) {p:Pr} (hp:p ∈ L): ∃(i j:Nat) (x y:Reg),p=⟨(i:Int),(j:Int)⟩∧l[i]? =some x∧l[j]? =some y∧alP l p=regAl x y:=by
 obtain ⟨i,j,sx,sy,hx,hy,_,_,rfl⟩:=(pairs_meet hsp h).1 hp
 rw [List.getElem?_map] at hx hy
 obtain ⟨x,gx,_⟩:=Option.map_eq_some_iff.1 hx
 obtain ⟨y,gy,_⟩:=Option.map_eq_some_iff.1 hy
 refine ⟨i,j,x,y,rfl,gx,gy, ?_⟩
 unfold alP
 simp only [Int.toNat_natCast]
 rw [gx,gy]
theorem memAllow_val (c:Cfg) (A:Option Addr) (cp cb:Nat) (w:World) (hc:w.cell? ⟨cb,3,none⟩=some (.slice A c.regs.length cp)) (hlt:cb <w.heap.size) (hl:c.regs.length≤1048576) (hR:Rd w w.heap.size 5 A c.regs.length (c.regs.flatMap Reg.cells)) {i j:Nat} {x y:Reg} (hx:c.regs[i]? =some x) (hy:c.regs[j]? =some y) (v:Bool) (hv:Hid (regAl x y=v)):
  Calls Tryz.prog 36 #[.int .i64 i, .int .i64 j, .pointer (some ⟨cb,0,none⟩)] w fun e w'=>e= .returned (.bool v)∧Below w.heap.size w w':=by
 have h:=memAllow_ok c A cp cb w hc hlt hl hR hx hy
 rwa [hv.out] at h
set_option maxRecDepth 100000 in
set_option maxHeartbeats 4000000 in
theorem swpFirst_ok {w:World} {c:Cfg} {A A3:Option Addr} {cp cb c3:Nat} (hl:c.regs.length≤1048576) (hsp: ∀s ∈ c.regs.map spnOf,okSp s.lo s.len) (hR:Rd w w.heap.size 2 A c.regs.length ((c.regs.map spnOf).flatMap Spn.cells))
  (hcb:w.cell? ⟨cb,3,none⟩=some (.slice A3 c.regs.length c3)) (hlt:cb <w.heap.size) (hG:Rd w w.heap.size 5 A3 c.regs.length (c.regs.flatMap Reg.cells)):
  Calls Tryz.prog 37 #[.slice A c.regs.length cp, .func (.func 36) #[] #[.pointer (some ⟨cb,0,none⟩)]] w fun e w'=> ∃a:Int,e= .returned (.tuple #[.int .i64 a, .int .i64 (clashJ c.regs)])∧Below w.heap.size w w':=by
 have hpairs:=pairs_ok (w:=w) (l:=c.regs.map spnOf) (A:=A) (cp:=cp) (by simpa using hl) hsp (by simpa using hR)
 rw [List.length_map] at hpairs
 have hent: ∀a w,(callFunc 36 a).run Tryz.prog w= .ok (.enter 36 a) w:=enters_of Tryz.func36 (by kernel_rfl) rfl
 have hnf: ∀W,(binOp .neq 86 (.func (.func 36) #[] #[.pointer (some ⟨cb,0,none⟩)]) .nilFunc).run Tryz.prog W= .ok (.bool true) W:=fun W=>by kernel_rfl
 have HG:=Lib.hid hG
 have HCB:=Lib.hid hcb
 have HSP:=Lib.hid hsp
 clear hR hG hcb hsp
 go_enter Tryz.func37,Tryz.ntmps37
 go_wp2_with fail
 refine hpairs.mono ?_
 rintro e w1 ⟨v,L,rfl,⟨hL,hLl⟩,ho,hb1⟩
 obtain ⟨RA,rc,rfl,hr1,hr2,hrd⟩:=own_form ho
 have HL:=Lib.hid hL
 have HRD:=Lib.hid hrd
 have HB1:=Lib.hid hb1
 clear hpairs hL ho hrd hb1
 go_wp2
 go_loopw [6,7,13] (fun a m i wr=> ∃(k:Nat) (a' m':Int),k≤L.length∧i= .int .i64 k∧a= .int .i64 a'∧m= .int .i64 m'∧Hid (FJ c.regs (L.take k) m')∧Hid (Below w1.heap.size w1 wr)) (fun _ _ i _=>L.length -(intOf i).toNat)
 case atStart=>exact ⟨0, -1, -1,Nat.zero_le _,rfl,rfl,rfl,Lib.hid (.inl ⟨rfl,by simp⟩),Lib.hid (Below.refl _ _)⟩
 case round=>
  obtain ⟨k,a',m',hk,rfl,rfl,rfl,HF,HB⟩:=hrel
  by_cases hkl:k <L.length
  ·obtain ⟨p,hp⟩:=get_lt hkl
   obtain ⟨i,j,x,y,rfl,hx,hy,hal⟩:=pair_regs HSP.out HL.out (List.mem_of_getElem? hp)
   have hbw:=Below.then_ HB1.out HB.out
   have hrdk:=HRD.out.up HB.out
   obtain ⟨bb,o,rfl,hbb,g0,g1⟩:=pr_at hrdk hp
   have HTK:=Lib.hid (take_next hp)
   have HX:=Lib.hid hx
   have HY:=Lib.hid hy
   have HAL:=Lib.hid hal
   have k0:(0:Int)≤(k:Int):=by omega
   have k1:(k:Int) <(L.length:Int):=by omega
   have j0:(0:Int)≤(j:Int):=by omega
   clear hp hrdk hx hy hal
   go_upto_region 5 with (fail)
   obtain ⟨W4,hW4,hbx,hb4⟩:=PrBox_new wr ⟨(i:Int),(j:Int)⟩ 186
   rw [hW4]
   obtain ⟨p0,p1,pz⟩:=hbx
   have HB4:=Lib.hid (Below.then_ HB.out hb4)
   have HBW:=Lib.hid (Below.then_ hbw hb4)
   have hcb4:=(HBW.out.cell (p:=⟨cb,3,none⟩) hlt).trans HCB.out
   have hlt4:cb <W4.heap.size:=Nat.lt_of_lt_of_le hlt HBW.out.size
   have HG4:=Lib.hid (HG.out.up HBW.out)
   have HCB4:=Lib.hid hcb4
   have HP1:=Lib.hid p1
   have HP0:=Lib.hid p0
   clear hW4 hb4 g0 g1 hbb hbw hcb4
   rcases bool_cases (regAl x y) with hv |hv
   ·have HV:=Lib.hid hv
    have HN:=Lib.hid (show FJ c.regs (L.take (k+1)) m' by rw [HTK.out];exact HF.out.skip (HAL.out.trans hv))
    clear hv
    go_wp2_with fail
    refine (memAllow_val c A3 c3 cb W4 HCB4.out hlt4 hl HG4.out HX.out HY.out true HV).mono ?_
    rintro e w5 ⟨rfl,hb5⟩
    have HB5:=Lib.hid (Below.then_ HB4.out hb5)
    clear hb5 p0 p1
    go_wp2
    go_roundw
    case rel=>exact ⟨k+1,a',m',by omega,by go_num,rfl,rfl,HN,HB5⟩
    case measure=>simp [intOf];omega
   ·have HV:=Lib.hid hv
    have HNA:=Lib.hid (HAL.out.trans hv)
    clear hv
    have q0:=fun (V:World) (h:Below W4.heap.size W4 V)=>(h.cell (p:=⟨wr.heap.size,0,none⟩) pz).trans p0
    have q1:=fun (V:World) (h:Below W4.heap.size W4 V)=>(h.cell (p:=⟨wr.heap.size,1,none⟩) pz).trans p1
    have Q0:=Lib.hid q0
    have Q1:=Lib.hid q1
    clear q0 q1
    by_cases hm:m' <0
    ·have HN:=Lib.hid (show FJ c.regs (L.take (k+1)) (j:Int) by rw [HTK.out];exact HF.out.take_ HNA.out j0 (.inl hm))
     go_wp2_with fail
     refine (memAllow_val c A3 c3 cb W4 HCB4.out hlt4 hl HG4.out HX.out HY.out false HV).mono ?_
     rintro e w5 ⟨rfl,hb5⟩
     have HB5:=Lib.hid (Below.then_ HB4.out hb5)
     have r0:=Q0.out w5 hb5
     have r1:=Q1.out w5 hb5
     clear hb5 p0 p1
     go_wp2
     go_quiet (fail)
     go_wp2
     go_roundw
     case rel=>exact ⟨k+1,(i:Int),(j:Int),by omega,by go_num,rfl,rfl,HN,Lib.hid (below_drewN HB5.out _)⟩
     case measure=>simp [intOf];omega
    ·by_cases hjm:(j:Int) <m'
     ·have HN:=Lib.hid (show FJ c.regs (L.take (k+1)) (j:Int) by rw [HTK.out];exact HF.out.take_ HNA.out j0 (.inr hjm))
      go_wp2_with fail
      refine (memAllow_val c A3 c3 cb W4 HCB4.out hlt4 hl HG4.out HX.out HY.out false HV).mono ?_
      rintro e w5 ⟨rfl,hb5⟩
      have HB5:=Lib.hid (Below.then_ HB4.out hb5)
      have r0:=Q0.out w5 hb5
      have r1:=Q1.out w5 hb5
      clear hb5 p0 p1
      go_wp2
      go_quiet (fail)
      go_wp2
      go_roundw
      case rel=>exact ⟨k+1,(i:Int),(j:Int),by omega,by go_num,rfl,rfl,HN,Lib.hid (below_drewN HB5.out _)⟩
      case measure=>simp [intOf];omega
     ·have HN:=Lib.hid (show FJ c.regs (L.take (k+1)) m' by rw [HTK.out];exact HF.out.keep hm hjm)
      go_wp2_with fail
      refine (memAllow_val c A3 c3 cb W4 HCB4.out hlt4 hl HG4.out HX.out HY.out false HV).mono ?_
      rintro e w5 ⟨rfl,hb5⟩
      have HB5:=Lib.hid (Below.then_ HB4.out hb5)
      have r0:=Q0.out w5 hb5
      have r1:=Q1.out w5 hb5
      clear hb5 p0 p1
      go_wp2
      go_roundw
      case rel=>exact ⟨k+1,a',m',by omega,by go_num,rfl,rfl,HN,HB5⟩
      case measure=>simp [intOf];omega
  ·obtain rfl:k=L.length:=by omega
   have hfin:=first_val HSP.out HL.out (by have:=HF.out;rwa [List.take_length] at this)
   go_wp2
   go_ret2
   exact ⟨a',by rw [←hfin];rfl,Below.then_ HB1.out HB.out⟩
end Go.Proofs.YtdmgpdanlfmadaaGreat
namespace Go.Proofs.YtdmgpdanlfmadaaGreat
open Go.RowKit Go.Shelf
theorem FltBkM (w:World) (t:TypeId): ∃W,w.alloc (.cells #[.int .i64 0, .int .i64 0, .int .i64 0] t)=W∧Blk W w.heap.size t #[.int .i64 0, .int .i64 0, .int .i64 0]∧Below w.heap.size w W:=⟨_,rfl,Blk.new _ _ _,below_one _ _⟩
def memFlt (c:Cfg):Flt:=if (memBad c).1=0 then noFlt else ⟨(memBad c).1,3,(memBad c).2⟩
theorem memFlt_reg {c:Cfg} {e i:Int} (h:regBad c=(e,i)) (he:e≠0):memFlt c=⟨e,3,i⟩:=by
 unfold memFlt memBad
 rw [h]
 simp [he]
theorem memFlt_cl {c:Cfg} (h:regBad c=(0,0)):memFlt c=if clashJ c.regs <0 then noFlt else ⟨21,3,clashJ c.regs⟩:=by
 unfold memFlt memBad
 rw [h]
 simp only [if_true]
 unfold clashJ clashBad
 rcases bad_cases ((List.range c.regs.length).map (clashAt c.regs)) 0 with ⟨h1,_⟩ |⟨j,e,h1,h2,h3,_⟩
 ·rw [h1];rfl
 ·have he:e=21:=by
   have hm:=List.mem_of_getElem? h1
   obtain ⟨k,_,hk⟩:=List.mem_map.1 hm
   unfold clashAt at hk
   split at hk
   ·split at hk
    ·exact hk.symm
    ·exact absurd hk.symm h2
   ·exact absurd hk.symm h2
  subst he
  rw [h3]
  simp
  omega
theorem memRegion_val (c:Cfg) (gi:Nat) (w:World) (hI:IdxAt w w.heap.size gi c) (r:Reg) (hr:r.ok) (v:Int) (hv:Hid (regCode c r=v)):
  Calls Tryz.prog 35 #[.agg #[.pointer (some ⟨gi,0,none⟩)], .agg #[.int .u64 r.base, .int .u64 r.size, .int .u16 r.part, .int .u8 r.rights, .bool r.shared]] w fun e w'=>e= .returned (.int .i64 v)∧Below w.heap.size w w':=by
 have h:=memRegion_ok c gi w hI r hr
 rwa [hv.out] at h
set_option maxRecDepth 100000 in
set_option maxHeartbeats 8000000 in
theorem memCheck_ok (c:Cfg) (A1 A2 A3 A4 A5:Option Addr) (c1 c2 c3 c4 c5:Nat) (w:World) (hR:CfgR w w.heap.size c A1 A2 A3 A4 A5 c1 c2 c3 c4 c5) (hs:c.small) (hok:c.ok):Calls Tryz.prog 10 #[cfgV c.frame A1 A2 A3 A4 A5 c.parts.length c.wins.length c.regs.length c.ports.length c.chans.length c1 c2 c3 c4 c5] w fun e w'=>e= .returned (fltV (memFlt c))∧Below w.heap.size w w':=by
 obtain ⟨W0,hW,st⟩:=St.start_any hR 29
 have HW:=Lib.hid hW
 obtain ⟨W1,hW1,hk1,hb1⟩:=FltBkM W0 44
 have HW1:=Lib.hid hW1
 have e0:W0.heap.size=w.heap.size+1:=by rw [←hW];simp
 rw [e0] at hk1
 have HK1:=Lib.hid hk1
 have hst1:=st.up hb1
 obtain ⟨x0,x1,x2,x3,x4,x5,hz⟩:=hst1.cells
 have ST1:=Lib.hid hst1
 have hbd:=hs.bd
 have br:=hbd.r
 have HOK:=Lib.hid hok
 have hent: ∀a w,(callFunc 35 a).run Tryz.prog w= .ok (.enter 35 a) w:=enters_of Tryz.func35 (by kernel_rfl) rfl
 clear hR hW st hW1 hk1 hst1 hbd hok
 go_enter Tryz.func10,Tryz.ntmps10
 go_upto_region 1 with (fail)
 rw [HW.out,HW1.out]
 clear e0
 go_wp2_with fail
 refine (new_ok c _ _ _ _ _ _ _ _ _ _ _ ST1.out.R hs HOK.out).mono ?_
 rintro e w2 ⟨gi,rfl,_,hI,hb2⟩
 have ST2:=Lib.hid (ST1.out.up hb2)
 have HI2:=Lib.hid hI
 have HK2:=Lib.hid (HK1.out.below hb2 HK1.out.lt)
 clear hI hb2 x0 x1 x2 x3 x4 x5 hz hb1
 obtain ⟨x0,x1,x2,x3,x4,x5,hz⟩:=ST2.out.cells
 go_wp2
 clear x0 x1 x2 x3 x4 x5 hz
 go_loopw [17] (fun i wr=> ∃k:Nat,k≤c.regs.length∧i= .int .i64 k∧Hid (regBad c=bad k ((c.regs.map (regCode c)).drop k))∧Hid (St w (wr) c A1 A2 A3 A4 A5 c1 c2 c3 c4 c5)∧Hid (IdxAt wr wr.heap.size gi c)∧Hid (Blk wr (w.heap.size+1) 44 #[.int .i64 0, .int .i64 0, .int .i64 0])) (fun i _=>c.regs.length -(intOf i).toNat)
 case atStart=>exact ⟨0,Nat.zero_le _,rfl,Lib.hid rfl,ST2,HI2,HK2⟩
 case round=>
  obtain ⟨k,hk,rfl,hrest,ST,HI,HK⟩:=hrel
  by_cases hlt:k <c.regs.length
  ·obtain ⟨x,hx⟩:=get_lt hlt
   have HRO:=Lib.hid (HOK.out.regs x (List.mem_of_getElem? hx))
   obtain ⟨bb,o,rfl,hbb,g0,g1,g2,g3,g4⟩:=reg_at ST.out.R.regs hx
   have HX:=Lib.hid (show (c.regs.map (regCode c))[k]? =some (regCode c x) by simp [hx])
   clear hx
   have n0:(0:Int)≤(k:Int):=by omega
   have n1:(k:Int) <(c.regs.length:Int):=by omega
   go_upto_region 5 with (fail)
   obtain ⟨W4,hW4,rb,hb4⟩:=RgBox.new wr x 41
   rw [hW4]
   have ST4:=Lib.hid (ST.out.up hb4)
   have HI4:=Lib.hid (HI.out.up hb4)
   have HK4:=Lib.hid (HK.out.below hb4 HK.out.lt)
   obtain ⟨p0,p1,p2,p3,p4,hg⟩:=rb
   clear hW4 hb4 g0 g1 g2 g3 g4 hbb
   obtain ⟨v,hv⟩: ∃v,regCode c x=v:=⟨_,rfl⟩
   have HV:=Lib.hid hv
   clear hv
   go_wp2_with fail
   refine (memRegion_val c gi W4 HI4.out x HRO.out v HV).mono ?_
   rintro e w5 ⟨rfl,hb5⟩
   have ST5:=Lib.hid (ST4.out.up hb5)
   have HI5:=Lib.hid (HI4.out.up hb5)
   have HK5:=Lib.hid (HK4.out.below hb5 HK4.out.lt)
   clear hb5 p0 p1 p2 p3 p4 hg
   by_cases hv0:v=0
   ·subst hv0
    go_wp2
    go_roundw
    case rel=>exact ⟨k+1,by omega,by go_num,Lib.hid (bad_miss hrest.out (by rw [HX.out,HV.out])),ST5,HI5,HK5⟩
    case measure=>simp [intOf];omega
   ·have hk5:=HK5.out
    have q0:=hk5.cell 0
    have q1:=hk5.cell 1
    have q2:=hk5.cell 2
    have qf:=hk5.frozen
    simp at q0 q1 q2
    have hkl:=hk5.lt
    clear hk5
    have hb:=bad_hit hrest.out HX.out (by rw [HV.out];exact hv0)
    rw [HV.out] at hb
    have HMF:=Lib.hid (memFlt_reg hb hv0)
    clear hb
    go_wp2
    have hmf:=HMF.out
    refine bodyPost_ret (v:=fltV (memFlt c)) (by rw [hmf];simp [results,Tryz.results10,go_sem,q0,q1,q2]) rfl ⟨rfl, ?_⟩
    exact Below.setCell (Below.setCell (Below.setCell ST5.out.bel (by simp) _) (by simp) _) (by simp) _
  ·obtain rfl:k=c.regs.length:=by omega
   have hrb:regBad c=(0,0):=bad_end (l:=c.regs.map (regCode c)) (by simpa using hrest.out)
   have HSP:=Lib.hid (show ∀s ∈ c.regs.map spnOf,okSp s.lo s.len from fun s hs=>by obtain ⟨x,hx,rfl⟩:=List.mem_map.1 hs;exact regBad_ok HOK.out (by rw [hrb]) x hx)
   have HMF:=Lib.hid (memFlt_cl hrb)
   clear hrb hrest
   obtain ⟨x0,x1,x2,x3,x4,x5,hz⟩:=ST.out.cells
   go_wp2_with fail
   refine (memSpans_ok c.regs A3 c3 wr br ST.out.R.regs).mono ?_
   rintro e w5 ⟨v,rfl,ho,hb5⟩
   obtain ⟨SA,sc,rfl,_,_,hrd⟩:=own_form ho
   have ST5:=Lib.hid (ST.out.up hb5)
   have HK5:=Lib.hid (HK.out.below hb5 HK.out.lt)
   have HRD:=Lib.hid hrd
   clear ho hrd hb5 x0 x1 x2 x3 x4 x5 hz
   obtain ⟨x0,x1,x2,x3,x4,x5,hz⟩:=ST5.out.cells
   go_wp2_with fail
   refine (swpFirst_ok (c:=c) br HSP.out HRD.out x3 hz ST5.out.R.regs).mono ?_
   rintro e w6 ⟨a,rfl,hb6⟩
   have ST6:=Lib.hid (ST5.out.up hb6)
   have HK6:=Lib.hid (HK5.out.below hb6 HK5.out.lt)
   clear hb6 x0 x1 x2 x3 x4 x5 hz
   obtain ⟨j,hj⟩: ∃j,clashJ c.regs=j:=⟨_,rfl⟩
   rw [hj] at HMF ⊢
   have hk6:=HK6.out
   have q0:=hk6.cell 0
   have q1:=hk6.cell 1
   have q2:=hk6.cell 2
   have qf:=hk6.frozen
   simp at q0 q1 q2
   have hkl:=hk6.lt
   clear hk6 hj
   by_cases hj0:j <0
   ·have hj1:decide (0≤j)=false:=decide_eq_false (by omega)
    have HM2:=Lib.hid (show memFlt c=noFlt by rw [HMF.out,if_pos hj0])
    go_wp2
    have hmf:=HM2.out
    refine bodyPost_ret (v:=fltV (memFlt c)) (by rw [hmf];simp [results,Tryz.results10,go_sem,q0,q1,q2,noFlt]) rfl ⟨rfl, ?_⟩
    exact Below.setCell (Below.setCell (Below.setCell ST6.out.bel (by simp) _) (by simp) _) (by simp) _
   ·have hj1:0≤j:=by omega
    have HM2:=Lib.hid (show memFlt c=⟨21,3,j⟩ by rw [HMF.out,if_neg hj0])
    go_wp2
    have hmf:=HM2.out
    refine bodyPost_ret (v:=fltV (memFlt c)) (by rw [hmf];simp [results,Tryz.results10,go_sem,q0,q1,q2]) rfl ⟨rfl, ?_⟩
    exact Below.setCell (Below.setCell (Below.setCell ST6.out.bel (by simp) _) (by simp) _) (by simp) _
end Go.Proofs.YtdmgpdanlfmadaaGreat
namespace Go.Proofs.YtdmgpdanlfmadaaGreat
open Go.RowKit
attribute [local go_sem] ext_cell
theorem rPartition_valM (c:Cfg) (A1 A2 A3 A4 A5:Option Addr) (c1 c2 c3 c4 c5:Nat) (w:World) (hR:CfgR w w.heap.size c A1 A2 A3 A4 A5 c1 c2 c3 c4 c5) (hs:c.small) (id:Int) (v:Int) (hv:Hid (idx (fun x=>x.id==id) c.parts=v)):
  Calls Tryz.prog 99 #[cfgV c.frame A1 A2 A3 A4 A5 c.parts.length c.wins.length c.regs.length c.ports.length c.chans.length c1 c2 c3 c4 c5, .int .u16 id] w fun e w'=>e= .returned (.int .i64 v)∧Below w.heap.size w w':=by
 have h:=rPartition_ok c A1 A2 A3 A4 A5 c1 c2 c3 c4 c5 w hR hs id
 rwa [hv.out] at h
theorem meet_val (a b c d:Int) (w:World) (v:Bool) (hx:okSp a b) (hy:okSp c d) (hv:Hid (meetS ⟨a,b⟩ ⟨c,d⟩=v)):
  Calls Tryz.prog 101 #[.agg #[.int .u64 a, .int .u64 b], .agg #[.int .u64 c, .int .u64 d]] w fun e w'=>e= .returned (.bool v)∧Below w.heap.size w w':=by
 have h:=rMeet_ok ⟨a,b⟩ ⟨c,d⟩ w hx hy
 rwa [hv.out] at h
set_option maxRecDepth 100000 in
set_option maxHeartbeats 4000000 in
theorem rMemCheck_ok (c:Cfg) (A1 A2 A3 A4 A5:Option Addr) (c1 c2 c3 c4 c5:Nat) (w:World) (hR:CfgR w w.heap.size c A1 A2 A3 A4 A5 c1 c2 c3 c4 c5) (hs:c.small) (hok:c.ok):Calls Tryz.prog 46 #[cfgV c.frame A1 A2 A3 A4 A5 c.parts.length c.wins.length c.regs.length c.ports.length c.chans.length c1 c2 c3 c4 c5] w fun e w'=>e= .returned (.tuple #[.int .i64 (memBad c).1, .int .i64 (memBad c).2])∧Below w.heap.size w w':=by
 have hbd:=hs.bd
 have ST0:=Lib.hid (St.start hR 29)
 have br:=hbd.r
 have HOK:=Lib.hid hok
 clear hR hbd hok
 go_enter Tryz.func46,Tryz.ntmps46
 go_wp2
 go_loopw [4] (fun i wr=> ∃k:Nat,k≤c.regs.length∧i= .int .i64 k∧Hid (regBad c=bad k ((c.regs.map (regCode c)).drop k))∧Hid (St w (wr) c A1 A2 A3 A4 A5 c1 c2 c3 c4 c5)) (fun i _=>c.regs.length -(intOf i).toNat)
 case atStart=>exact ⟨0,Nat.zero_le _,rfl,Lib.hid rfl,ST0⟩
 case round=>
  obtain ⟨k,hk,rfl,hrest,ST⟩:=hrel
  obtain ⟨x0,x1,x2,x3,x4,x5,hz⟩:=ST.out.cells
  by_cases hlt:k <c.regs.length
  ·obtain ⟨x,hx⟩:=get_lt hlt
   have HRO:=Lib.hid (HOK.out.regs x (List.mem_of_getElem? hx))
   obtain ⟨bb,o,rfl,hbb,g0,g1,g2,g3,g4⟩:=reg_at ST.out.R.regs hx
   have HX:=Lib.hid (show (c.regs.map (regCode c))[k]? =some (regCode c x) by simp [hx])
   clear hx
   have n0:(0:Int)≤(k:Int):=by omega
   have n1:(k:Int) <(c.regs.length:Int):=by omega
   go_upto_region 5 with (fail)
   obtain ⟨W4,hW4,rb,hb4⟩:=RgBox.new wr x 41
   rw [hW4]
   have ST4:=Lib.hid (ST.out.up hb4)
   have HRB:=Lib.hid rb
   clear hW4 hb4 rb g0 g1 g2 g3 g4 hbb x0 x1 x2 x3 x4 x5 hz
   obtain ⟨x0,x1,x2,x3,x4,x5,hz⟩:=ST4.out.cells
   obtain ⟨p0,p1,p2,p3,p4,hg⟩:=HRB.out
   obtain ⟨v,hv⟩: ∃v,idx (fun y=>y.id==x.part) c.parts=v:=⟨_,rfl⟩
   have HV:=Lib.hid hv
   by_cases hi:v <0
   ·have HC:=Lib.hid (show regCode c x=19 by unfold regCode;rw [hv,if_pos hi])
    clear hv
    go_wp2_with fail
    refine (rPartition_valM c _ _ _ _ _ _ _ _ _ _ _ ST4.out.R hs x.part v HV).mono ?_
    rintro e w5 ⟨rfl,hb5⟩
    have HZ:=Lib.hid (ST4.out.up hb5).bel
    clear hb5 x0 x1 x2 x3 x4 x5 hz p0 p1 p2 p3 p4 hg
    go_wp2
    go_ret2
    refine ⟨ret_pairM (p:=(19,(k:Int))) ?_,HZ.out⟩
    have hb:=bad_hit hrest.out HX.out (by rw [HC.out];decide)
    unfold memBad
    rw [if_neg (show ¬(regBad c).1=0 by rw [hb,HC.out];simp),hb,HC.out]
   ·obtain ⟨vb,hvb⟩: ∃vb,validB x.base x.size=vb:=⟨_,rfl⟩
    have HVB:=Lib.hid hvb
    have HC:=Lib.hid (show regCode c x=if vb then 0 else 24 by unfold regCode;rw [hv,if_neg hi,hvb])
    have hi2:decide (v <0)=false:=decide_eq_false hi
    clear hv hvb
    go_wp2_with fail
    refine (rPartition_valM c _ _ _ _ _ _ _ _ _ _ _ ST4.out.R hs x.part v HV).mono ?_
    rintro e w5 ⟨rfl,hb5⟩
    have ST5:=Lib.hid (ST4.out.up hb5)
    have HRB5:=Lib.hid (HRB.out.up hb5)
    clear hb5 x0 x1 x2 x3 x4 x5 hz p0 p1 p2 p3 p4 hg
    obtain ⟨p0,p1,p2,p3,p4,hg⟩:=HRB5.out
    go_wp2_with fail
    refine (rSpan_ok x w5).mono ?_
    rintro e w6 ⟨rfl,hb6⟩
    have ST6:=Lib.hid (ST5.out.up hb6)
    clear hb6 p0 p1 p2 p3 p4 hg
    go_wp2_with fail
    refine (rValid_ok x.base x.size w6 HRO.out.base HRO.out.size).mono ?_
    rw [HVB.out]
    rintro e w7 ⟨rfl,hb7⟩
    have ST7:=Lib.hid (ST6.out.up hb7)
    clear hb7
    cases vb
    ·go_wp2
     go_ret2
     refine ⟨ret_pairM (p:=(24,(k:Int))) ?_,ST7.out.bel⟩
     have hb:=bad_hit hrest.out HX.out (by rw [HC.out];decide)
     unfold memBad
     rw [if_neg (show ¬(regBad c).1=0 by rw [hb,HC.out];simp),hb,HC.out]
     rfl
    ·go_wp2
     go_roundw
     case rel=>exact ⟨k+1,by omega,by go_num,Lib.hid (bad_miss hrest.out (by rw [HX.out,HC.out];rfl)),ST7⟩
     case measure=>simp [intOf];omega
  ·obtain rfl:k=c.regs.length:=by omega
   have hrb:regBad c=(0,0):=bad_end (l:=c.regs.map (regCode c)) (by simpa using hrest.out)
   have HMB:=Lib.hid (show memBad c=clashBad c.regs by unfold memBad;rw [hrb];rfl)
   have HSP:=Lib.hid (regBad_ok HOK.out (by rw [hrb]))
   clear hrb hrest
   generalize hwo:wr=wo at ST x0 x1 x2 x3 x4 x5 hz ⊢
   clear hwo
   go_wp2
   clear x0 x1 x2 x3 x4 x5 hz
   go_loopw [6] (fun j wr=> ∃n:Nat,n≤c.regs.length∧j= .int .i64 n∧Hid (clashBad c.regs=bad n (((List.range c.regs.length).map (clashAt c.regs)).drop n))∧Hid (St w (wr) c A1 A2 A3 A4 A5 c1 c2 c3 c4 c5)) (fun j _=>c.regs.length -(intOf j).toNat)
   case atStart=>exact ⟨0,Nat.zero_le _,rfl,Lib.hid rfl,ST⟩
   case round=>
    obtain ⟨n,hn,rfl,hrest,STn⟩:=hrel
    obtain ⟨x0,x1,x2,x3,x4,x5,hz⟩:=STn.out.cells
    by_cases hlt:n <c.regs.length
    ·obtain ⟨y,hy⟩:=get_lt hlt
     have HY:=Lib.hid hy
     have HCL:=Lib.hid (clash_list hlt)
     have n0:(0:Int)≤(n:Int):=by omega
     have n1:(n:Int) <(c.regs.length:Int):=by omega
     clear hy
     generalize hwo:wr=wp at STn x0 x1 x2 x3 x4 x5 hz ⊢
     clear hwo
     go_wp2
     clear x0 x1 x2 x3 x4 x5 hz
     go_loopw [7] (fun i wr=> ∃m:Nat,m≤n∧i= .int .i64 m∧Hid ((c.regs.take m).any (fun x=>overR x y)=false)∧Hid (St w (wr) c A1 A2 A3 A4 A5 c1 c2 c3 c4 c5)) (fun i _=>n -(intOf i).toNat)
     case atStart=>exact ⟨0,Nat.zero_le _,rfl,Lib.hid rfl,STn⟩
     case round=>
      obtain ⟨m,hm,rfl,HM,STm⟩:=hrel
      by_cases hml:m <n
      ·obtain ⟨x,hx⟩:=get_lt (show m <c.regs.length by omega)
       have HX:=Lib.hid hx
       have hox:=HSP.out x (List.mem_of_getElem? hx)
       have hoy:=HSP.out y (List.mem_of_getElem? HY.out)
       obtain ⟨bb,o,rfl,hbb,g0,g1,g2,g3,g4⟩:=reg_at STm.out.R.regs hx
       obtain ⟨b2,o2,e2,hbb2,k0,k1,k2,k3,k4⟩:=reg_at STm.out.R.regs HY.out
       obtain ⟨rfl,rfl⟩:bb=b2∧o=o2:=by simpa using e2
       have m0:(0:Int)≤(m:Int):=by omega
       have m1:(m:Int) <(c.regs.length:Int):=by omega
       obtain ⟨x0,x1,x2,x3,x4,x5,hz⟩:=STm.out.cells
       obtain ⟨vm,hvm⟩: ∃v,meetS (spnOf x) (spnOf y)=v:=⟨_,rfl⟩
       have HVM:=Lib.hid hvm
       clear hx e2
       cases vm
       ·have HO:=Lib.hid (show overR x y=false by unfold overR;rw [HVM.out];simp [regAl,regNe])
        have hsy:(⟨y.base,y.size⟩:Spn)=spnOf y:=by unfold spnOf;rfl
        have hoy2:okSp y.base y.size:=by have h:=hoy;exact h
        have HM2:=Lib.hid (show meetS ⟨x.base,x.size⟩ ⟨y.base,y.size⟩=false from (congrArg (meetS (spnOf x)) hsy).trans HVM.out)
        clear hsy
        go_wp2_with fail
        refine wp_region_ext (by kernel_rfl) (by kernel_rfl) ?_
        repeat (go_big_quiet_step (fail))
        go_big_quiet_step ((go_at_call 42;exact Calls.quiet_ext (rSpan_ok ⟨x.base,x.size,x.part,x.rights,x.shared⟩ _)))
        repeat (go_big_quiet_step (fail))
        go_big_quiet_step ((go_at_call 42;exact Calls.quiet_ext (rSpan_ok ⟨y.base,y.size,y.part,y.rights,y.shared⟩ _)))
        repeat (go_big_quiet_step (fail))
        go_big_quiet_step ((go_at_call 101;exact Calls.quiet_ext (meet_val _ _ _ _ _ _ hox hoy2 HM2)))
        repeat (go_big_quiet_step (fail))
        refine wpQuiet_nil ?_
        intro xq
        go_wp2
        go_roundw
        case rel=>exact ⟨m+1,by omega,by go_num,Lib.hid (over_miss HX.out HM.out HO.out),Lib.hid (STm.out.ext xq)⟩
        case measure=>simp [intOf];omega
       ·rcases bool_cases x.shared with hs1 |hs1
        rotate_left
        ·rw [hs1] at g4
         have HO:=Lib.hid (show overR x y=true by unfold overR;rw [HVM.out];simp [regAl,regNe,hs1])
         have hsy:(⟨y.base,y.size⟩:Spn)=spnOf y:=by unfold spnOf;rfl
         have hoy2:okSp y.base y.size:=by have h:=hoy;exact h
         have HM2:=Lib.hid (show meetS ⟨x.base,x.size⟩ ⟨y.base,y.size⟩=true from (congrArg (meetS (spnOf x)) hsy).trans HVM.out)
         clear hsy
         go_wp2_with fail
         refine wp_region_ext (by kernel_rfl) (by kernel_rfl) ?_
         repeat (go_big_quiet_step (fail))
         go_big_quiet_step ((go_at_call 42;exact Calls.quiet_ext (rSpan_ok ⟨x.base,x.size,x.part,x.rights,false⟩ _)))
         repeat (go_big_quiet_step (fail))
         go_big_quiet_step ((go_at_call 42;exact Calls.quiet_ext (rSpan_ok ⟨y.base,y.size,y.part,y.rights,y.shared⟩ _)))
         repeat (go_big_quiet_step (fail))
         go_big_quiet_step ((go_at_call 101;exact Calls.quiet_ext (meet_val _ _ _ _ _ _ hox hoy2 HM2)))
         repeat (go_big_quiet_step (fail))
         refine wpQuiet_nil ?_
         intro xq
         go_wp2
         go_ret2
         refine ⟨ret_pairM (p:=(21,(n:Int))) ?_,(STm.out.ext xq).bel⟩
         have hc:=over_hit HY.out HX.out hml HO.out
         rw [HMB.out,bad_hit hrest.out HCL.out (by rw [hc];decide),hc]
        rw [hs1] at g4
        rcases bool_cases y.shared with hs2 |hs2
        rotate_left
        ·rw [hs2] at k4
         have HO:=Lib.hid (show overR x y=true by unfold overR;rw [HVM.out];simp [regAl,regNe,hs1,hs2])
         have hsy:(⟨y.base,y.size⟩:Spn)=spnOf y:=by unfold spnOf;rfl
         have hoy2:okSp y.base y.size:=by have h:=hoy;exact h
         have HM2:=Lib.hid (show meetS ⟨x.base,x.size⟩ ⟨y.base,y.size⟩=true from (congrArg (meetS (spnOf x)) hsy).trans HVM.out)
         clear hsy
         go_wp2_with fail
         refine wp_region_ext (by kernel_rfl) (by kernel_rfl) ?_
         repeat (go_big_quiet_step (fail))
         go_big_quiet_step ((go_at_call 42;exact Calls.quiet_ext (rSpan_ok ⟨x.base,x.size,x.part,x.rights,true⟩ _)))
         repeat (go_big_quiet_step (fail))
         go_big_quiet_step ((go_at_call 42;exact Calls.quiet_ext (rSpan_ok ⟨y.base,y.size,y.part,y.rights,false⟩ _)))
         repeat (go_big_quiet_step (fail))
         go_big_quiet_step ((go_at_call 101;exact Calls.quiet_ext (meet_val _ _ _ _ _ _ hox hoy2 HM2)))
         repeat (go_big_quiet_step (fail))
         refine wpQuiet_nil ?_
         intro xq
         go_wp2
         go_ret2
         refine ⟨ret_pairM (p:=(21,(n:Int))) ?_,(STm.out.ext xq).bel⟩
         have hc:=over_hit HY.out HX.out hml HO.out
         rw [HMB.out,bad_hit hrest.out HCL.out (by rw [hc];decide),hc]
        rw [hs2] at k4
        rcases Decidable.em (x.base=y.base) with q0 |q0
        rotate_left
        ·have HO:=Lib.hid (show overR x y=false by unfold overR;rw [HVM.out];simp [regAl,regNe,hs1,hs2,q0])
         have hsy:(⟨y.base,y.size⟩:Spn)=spnOf y:=by unfold spnOf;rfl
         have hoy2:okSp y.base y.size:=by have h:=hoy;exact h
         have HM2:=Lib.hid (show meetS ⟨x.base,x.size⟩ ⟨y.base,y.size⟩=true from (congrArg (meetS (spnOf x)) hsy).trans HVM.out)
         clear hsy
         go_wp2_with fail
         refine wp_region_ext (by kernel_rfl) (by kernel_rfl) ?_
         repeat (go_big_quiet_step (fail))
         go_big_quiet_step ((go_at_call 42;exact Calls.quiet_ext (rSpan_ok ⟨x.base,x.size,x.part,x.rights,true⟩ _)))
         repeat (go_big_quiet_step (fail))
         go_big_quiet_step ((go_at_call 42;exact Calls.quiet_ext (rSpan_ok ⟨y.base,y.size,y.part,y.rights,true⟩ _)))
         repeat (go_big_quiet_step (fail))
         go_big_quiet_step ((go_at_call 101;exact Calls.quiet_ext (meet_val _ _ _ _ _ _ hox hoy2 HM2)))
         repeat (go_big_quiet_step (fail))
         refine wpQuiet_nil ?_
         intro xq
         go_wp2
         go_roundw
         case rel=>exact ⟨m+1,by omega,by go_num,Lib.hid (over_miss HX.out HM.out HO.out),Lib.hid (STm.out.ext xq)⟩
         case measure=>simp [intOf];omega
        rw [←q0] at k0
        rcases Decidable.em (x.size=y.size) with q1 |q1
        rotate_left
        ·have HO:=Lib.hid (show overR x y=false by unfold overR;rw [HVM.out];simp [regAl,regNe,hs1,hs2,q0,q1])
         have hsy:(⟨x.base,y.size⟩:Spn)=spnOf y:=by unfold spnOf;rw [q0]
         have hoy2:okSp x.base y.size:=by have h:=hoy;rw [←q0] at h;exact h
         have HM2:=Lib.hid (show meetS ⟨x.base,x.size⟩ ⟨x.base,y.size⟩=true from (congrArg (meetS (spnOf x)) hsy).trans HVM.out)
         clear hsy q0
         go_wp2_with fail
         refine wp_region_ext (by kernel_rfl) (by kernel_rfl) ?_
         repeat (go_big_quiet_step (fail))
         go_big_quiet_step ((go_at_call 42;exact Calls.quiet_ext (rSpan_ok ⟨x.base,x.size,x.part,x.rights,true⟩ _)))
         repeat (go_big_quiet_step (fail))
         go_big_quiet_step ((go_at_call 42;exact Calls.quiet_ext (rSpan_ok ⟨x.base,y.size,y.part,y.rights,true⟩ _)))
         repeat (go_big_quiet_step (fail))
         go_big_quiet_step ((go_at_call 101;exact Calls.quiet_ext (meet_val _ _ _ _ _ _ hox hoy2 HM2)))
         repeat (go_big_quiet_step (fail))
         refine wpQuiet_nil ?_
         intro xq
         go_wp2
         go_roundw
         case rel=>exact ⟨m+1,by omega,by go_num,Lib.hid (over_miss HX.out HM.out HO.out),Lib.hid (STm.out.ext xq)⟩
         case measure=>simp [intOf];omega
        rw [←q1] at k1
        rcases Decidable.em (x.part=y.part) with q2 |q2
        rotate_left
        ·have HO:=Lib.hid (show overR x y=false by unfold overR;rw [HVM.out];simp [regAl,regNe,hs1,hs2,q0,q1,q2])
         have hsy:(⟨x.base,x.size⟩:Spn)=spnOf y:=by unfold spnOf;rw [q0,q1]
         have hoy2:okSp x.base x.size:=by have h:=hoy;rw [←q0, ←q1] at h;exact h
         have HM2:=Lib.hid (show meetS ⟨x.base,x.size⟩ ⟨x.base,x.size⟩=true from (congrArg (meetS (spnOf x)) hsy).trans HVM.out)
         clear hsy q0 q1
         go_wp2_with fail
         refine wp_region_ext (by kernel_rfl) (by kernel_rfl) ?_
         repeat (go_big_quiet_step (fail))
         go_big_quiet_step ((go_at_call 42;exact Calls.quiet_ext (rSpan_ok ⟨x.base,x.size,x.part,x.rights,true⟩ _)))
         repeat (go_big_quiet_step (fail))
         go_big_quiet_step ((go_at_call 42;exact Calls.quiet_ext (rSpan_ok ⟨x.base,x.size,y.part,y.rights,true⟩ _)))
         repeat (go_big_quiet_step (fail))
         go_big_quiet_step ((go_at_call 101;exact Calls.quiet_ext (meet_val _ _ _ _ _ _ hox hoy2 HM2)))
         repeat (go_big_quiet_step (fail))
         refine wpQuiet_nil ?_
         intro xq
         go_wp2
         go_roundw
         case rel=>exact ⟨m+1,by omega,by go_num,Lib.hid (over_miss HX.out HM.out HO.out),Lib.hid (STm.out.ext xq)⟩
         case measure=>simp [intOf];omega
        rw [←q2] at k2
        rcases Decidable.em (x.rights=y.rights) with q3 |q3
        rotate_left
        ·have HO:=Lib.hid (show overR x y=false by unfold overR;rw [HVM.out];simp [regAl,regNe,hs1,hs2,q0,q1,q2,q3])
         have hsy:(⟨x.base,x.size⟩:Spn)=spnOf y:=by unfold spnOf;rw [q0,q1]
         have hoy2:okSp x.base x.size:=by have h:=hoy;rw [←q0, ←q1] at h;exact h
         have HM2:=Lib.hid (show meetS ⟨x.base,x.size⟩ ⟨x.base,x.size⟩=true from (congrArg (meetS (spnOf x)) hsy).trans HVM.out)
         clear hsy q0 q1 q2
         go_wp2_with fail
         refine wp_region_ext (by kernel_rfl) (by kernel_rfl) ?_
         repeat (go_big_quiet_step (fail))
         go_big_quiet_step ((go_at_call 42;exact Calls.quiet_ext (rSpan_ok ⟨x.base,x.size,x.part,x.rights,true⟩ _)))
         repeat (go_big_quiet_step (fail))
         go_big_quiet_step ((go_at_call 42;exact Calls.quiet_ext (rSpan_ok ⟨x.base,x.size,x.part,y.rights,true⟩ _)))
         repeat (go_big_quiet_step (fail))
         go_big_quiet_step ((go_at_call 101;exact Calls.quiet_ext (meet_val _ _ _ _ _ _ hox hoy2 HM2)))
         repeat (go_big_quiet_step (fail))
         refine wpQuiet_nil ?_
         intro xq
         go_wp2
         go_roundw
         case rel=>exact ⟨m+1,by omega,by go_num,Lib.hid (over_miss HX.out HM.out HO.out),Lib.hid (STm.out.ext xq)⟩
         case measure=>simp [intOf];omega
        rw [←q3] at k3
        have HO:=Lib.hid (show overR x y=true by unfold overR;rw [HVM.out];simp [regAl,regNe,hs1,hs2,q0,q1,q2,q3])
        have hsy:(⟨x.base,x.size⟩:Spn)=spnOf y:=by unfold spnOf;rw [q0,q1]
        have hoy2:okSp x.base x.size:=by have h:=hoy;rw [←q0, ←q1] at h;exact h
        have HM2:=Lib.hid (show meetS ⟨x.base,x.size⟩ ⟨x.base,x.size⟩=true from (congrArg (meetS (spnOf x)) hsy).trans HVM.out)
        clear hsy q0 q1 q2 q3
        go_wp2_with fail
        refine wp_region_ext (by kernel_rfl) (by kernel_rfl) ?_
        repeat (go_big_quiet_step (fail))
        go_big_quiet_step ((go_at_call 42;exact Calls.quiet_ext (rSpan_ok ⟨x.base,x.size,x.part,x.rights,true⟩ _)))
        repeat (go_big_quiet_step (fail))
        go_big_quiet_step ((go_at_call 42;exact Calls.quiet_ext (rSpan_ok ⟨x.base,x.size,x.part,x.rights,true⟩ _)))
        repeat (go_big_quiet_step (fail))
        go_big_quiet_step ((go_at_call 101;exact Calls.quiet_ext (meet_val _ _ _ _ _ _ hox hoy2 HM2)))
        repeat (go_big_quiet_step (fail))
        refine wpQuiet_nil ?_
        intro xq
        go_wp2
        go_ret2
        refine ⟨ret_pairM (p:=(21,(n:Int))) ?_,(STm.out.ext xq).bel⟩
        have hc:=over_hit HY.out HX.out hml HO.out
        rw [HMB.out,bad_hit hrest.out HCL.out (by rw [hc];decide),hc]
      ·obtain rfl:m=n:=by omega
       have HC:=Lib.hid (over_end HY.out HM.out)
       obtain ⟨x0,x1,x2,x3,x4,x5,hz⟩:=STm.out.cells
       go_wp2
       go_roundw
       case rel=>exact ⟨m+1,by omega,by go_num,Lib.hid (bad_miss hrest.out (by rw [HCL.out,HC.out])),STm⟩
       case measure=>simp [intOf];omega
    ·obtain rfl:n=c.regs.length:=by omega
     have hcb:clashBad c.regs=(0,0):=bad_end (l:=(List.range c.regs.length).map (clashAt c.regs)) (by simpa using hrest.out)
     have HE:=Lib.hid (HMB.out.trans hcb)
     clear hcb
     go_wp2
     go_ret2
     exact ⟨ret_pairM (p:=(0,0)) HE.out.symm,STn.out.bel⟩
end Go.Proofs.YtdmgpdanlfmadaaGreat
