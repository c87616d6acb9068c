/-
  The law OwnerFree, walked.
-/
import Derived.BigQuiet
import Derived.Deep.RegionHeld3
import Derived.Test.YtdmgpdanlfmadaaGreatAlive22
import Derived.Test.YtdmgpdanlfmadaaGreatRefV
import Derived.Test.YtdmgpdanlfmadaaGreatOwnF
namespace Go.Proofs.YtdmgpdanlfmadaaGreat
open Go.RowKit Go.Lib
attribute [local go_sem] ext_cell
theorem regOneF (l:List Reg): ∀u ∈ l.flatMap Reg.cells,u.oneCell'=true:=by
 intro u hu
 obtain ⟨r,_,hx⟩:=List.mem_flatMap.1 hu
 simp [Reg.cells] at hx
 rcases hx with rfl |rfl |rfl |rfl |rfl<;>rfl
theorem drew_heapF (w:World):w.drew.heap=w.heap:=rfl
attribute [local simp] drew_heapF
theorem own_drewF {w:World} {base:Nat} {e:TypeId} {size n:Nat} {v:Value} {xs:List Value} (h:w.ownsRow base e size v n xs):w.drew.ownsRow base e size v n xs:=own_below h (below_drew w)
theorem own_litF (w:World) (base:Nat) (E:TypeId) (sz:Nat) (l:List Value) (b n:Nat) (hb:base≤w.heap.size) (hbk:w.heap.size=b) (hl:n≤maxLen) (hn:l.length=n*sz) (cs:Array Value) (hc:cs=l.toArray):
  (w.alloc (.cells cs E)).ownsRow base E sz (.slice (some ⟨b,0,none⟩) n n) n l:=by
 subst hbk hc
 exact ⟨hn, .inr ⟨w.heap.size,n,l.toArray,rfl,hb,heap_alloc_new w _,Nat.le_refl _,hl,by simp [hn],by rw [List.take_of_length_le (by simp [hn])]⟩⟩
theorem step_appT {P:Program} (V:World) {w:World} {o:Oper} {a:Act} {K:Act→World→Prop} {Q:Exit→Act→World→Prop} {ys:Nat→Option Bool} (T E:TypeId) (sz:Nat) (i:TypeInfo) (z:Value) (bytes:Nat) (hT:P.underlying T=some (.slice E)) (hi:P.info? E=some i) (hz0:i.zero=some z) (hz1:i.size=sz) (hz2:i.bytes=bytes) (hzs:z.cells.size=sz) (hsz:0 <sz)
  (hwt:Region.wanted o ys=true) (s x:Operand) (ho:o.op= .call {callee:= .builtin .append,args:= #[s,x],argTypes:= #[T,T]})
  (n:Nat) (xs:List Value) (hown:w.ownsRow V.heap.size E sz (a.eval s) n xs)
  (B:Nat) (A:Option Addr) (m c:Nat) (news:List Value) (hx:a.eval x= .slice A m c) (hr:Rd w B sz A m news) (h1: ∀u ∈ news,u.oneCell'=true)
  (hlen:(n+m)*bytes≤140737488355328) (hlen2:n+m≤maxLen) (hB:Below V.heap.size V w)
  (h: ∀v' w',w'.ownsRow V.heap.size E sz v' (n+m) (xs++news)→w.grownBy w' (a.eval s).ownBlock→Below V.heap.size V w'→K (a.put o.dst v') w'):
  if Region.wanted o ys=true then Oper.wp P o a w K Q else K (a.put o.dst undef) w:=by
 rw [if_pos hwt]
 obtain ⟨v',w',hrun,h2,h3⟩:=run_append_rd (P:=P) w V.heap.size T o.type E i z sz bytes hT hi hz0 hz1 hz2 hzs hsz (a.eval s) n _ hown B A m c _ hr h1 hlen2 hlen hB.size
 unfold Oper.wp execOp
 simp only [ho,resolve,invoke,builtin,Sem.run_bind,Sem.run_pure,Result.andThen_ok,List.map_toArray,List.map_cons,List.map_nil,hx,hrun]
 exact h _ _ h2 h3 (below_own hB h3 hown hB.size)
theorem step_appU {P:Program} (V:World) {w:World} {o:Oper} {a:Act} {K:Act→World→Prop} {Q:Exit→Act→World→Prop} {ys:Nat→Option Bool} (T E:TypeId) (sz:Nat) (i:TypeInfo) (z:Value) (bytes:Nat) (hT:P.underlying T=some (.slice E)) (hi:P.info? E=some i) (hz0:i.zero=some z) (hz1:i.size=sz) (hz2:i.bytes=bytes) (hzs:z.cells.size=sz) (hsz:0 <sz)
  (hwt:Region.wanted o ys=true) (s x:Operand) (ho:o.op= .call {callee:= .builtin .append,args:= #[s,x],argTypes:= #[T,T]})
  (n:Nat) (xs:List Value) (hown:w.ownsRow V.heap.size E sz (a.eval s) n xs)
  (m:Nat) (news:List Value) (hr:w.ownsRow V.heap.size E sz (a.eval x) m news) (h1: ∀u ∈ news,u.oneCell'=true)
  (hlen:(n+m)*bytes≤140737488355328) (hlen2:n+m≤maxLen) (hB:Below V.heap.size V w)
  (h: ∀v' w',w'.ownsRow V.heap.size E sz v' (n+m) (xs++news)→w.grownBy w' (a.eval s).ownBlock→Below V.heap.size V w'→K (a.put o.dst v') w'):
  if Region.wanted o ys=true then Oper.wp P o a w K Q else K (a.put o.dst undef) w:=by
 obtain ⟨A,c,hx,_,_,hrd⟩:=own_form hr
 exact step_appT V T E sz i z bytes hT hi hz0 hz1 hz2 hzs hsz hwt s x ho n xs hown w.heap.size A m c news hx hrd h1 hlen hlen2 hB h
theorem u64_wf {x:Int} (h0:0≤x) (h1:x≤18446744073709551615):wU64 x:=by
 unfold wU64
 simp [Lit.wf,IntKind.min,IntKind.max,IntKind.signed,IntKind.bits]
 omega
theorem free_right {c:Cfg} (hok:c.ok) (h:rightM c=true) {l:List Reg} (hl:normK keyReg c.regs=l) (hso:SegsOk l (mapL l)) {p:Par} (hp:c.parts[0]? =some p) {size al v:Int} (hz:wU64 size) (ha:0≤al) (hf:freeV (mapL l) size al=(v,true)):
  rightM (c.regsAs (c.regs++ [⟨v,size,p.id,0,false⟩]))=true∧(c.regsAs (c.regs++ [⟨v,size,p.id,0,false⟩])).ok:=by
 obtain ⟨z0,z1⟩:=Go.bounds_u64 hz
 have hz0:0 <size:=by
  rcases Int.lt_or_le 0 size with h0 |h0
  ·exact h0
  ·have:size=0:=by omega
   unfold freeV at hf
   rw [if_pos this] at hf
   injection hf with _ hf
   cases hf
 obtain ⟨h1,h2,h3⟩:=hso.free ha hf hz0
 have ht:topA=18446744073709551615:=rfl
 have hfr: ∀a,v≤a→a≤v+size -1→ ∀x ∈ c.regs,covR x a=false:=fun a ha1 ha2 x hx=>h3 a ha1 ha2 x (by rw [←hl];exact ((normK_perm (key:=keyReg) c.regs).mem_iff).2 hx)
 refine ⟨right_more hok h hp (r:=⟨v,size,p.id,0,false⟩) ⟨h1,by show (1:Int)≤size;omega,by show v+size≤18446744073709551616;omega⟩ rfl hfr, ?_⟩
 obtain ⟨o0,o1,o2,o3,o4,o5⟩:=hok
 refine ⟨o0,o1,o2,fun r hr=> ?_,o4,o5⟩
 have hr:r ∈ c.regs++ [⟨v,size,p.id,0,false⟩]:=hr
 rcases List.mem_append.1 hr with hr |hr
 ·exact o3 r hr
 ·rw [List.mem_singleton] at hr
  subst hr
  exact ⟨u64_wf h1 (by show v≤18446744073709551615;omega),hz,(o1 p (List.mem_of_getElem? hp)).id,by show wU8 0;unfold wU8;decide⟩
theorem few_le120 {c:Cfg} (h:few c=true):c.total≤120:=by
 unfold few at h
 simp only [Bool.and_eq_true,decide_eq_true_eq] at h
 exact h.2
theorem small_more {c:Cfg} (hs:c.small) (h:few c=true) (r:Reg):(c.regsAs (c.regs++ [r])).small:=by
 have ht:=few_le120 h
 obtain ⟨h1,h2,h3⟩:=hs
 refine ⟨?_,h2,h3⟩
 unfold Cfg.total Cfg.regsAs at*
 unfold BIG
 simp only [List.length_append,List.length_singleton]
 omega
theorem memCheck_more (c:Cfg) (A1 A2 A4 A5:Option Addr) (c1 c2 c4 c5:Nat) (w:World) (r:Reg) (hs2:(c.regsAs (c.regs++ [r])).small) (hok2:(c.regsAs (c.regs++ [r])).ok) (hv:rightM (c.regsAs (c.regs++ [r]))=true) (B3:Option Addr) (n d3:Nat) (hn:n=c.regs.length+1) (hR':CfgR w w.heap.size (c.regsAs (c.regs++ [r])) A1 A2 B3 A4 A5 c1 c2 d3 c4 c5):
  Calls Tryz.prog 10 #[cfgV c.frame A1 A2 B3 A4 A5 c.parts.length c.wins.length n c.ports.length c.chans.length c1 c2 d3 c4 c5] w fun e w'=>e= .returned (.agg #[.int .i64 0, .int .i64 0, .int .i64 0])∧Below w.heap.size w w':=by
 have h:=memCheck_ok (c.regsAs (c.regs++ [r])) A1 A2 B3 A4 A5 c1 c2 d3 c4 c5 w hR' hs2 hok2
 have e:memFlt (c.regsAs (c.regs++ [r]))=noFlt:=by
  unfold rightM at hv
  have h2:=of_decide_eq_true hv
  unfold memFlt
  rw [if_pos h2]
 rw [e,show (c.regsAs (c.regs++ [r])).regs.length=n by rw [hn];exact List.length_append] at h
 exact h
theorem cNew_more (c:Cfg) (A1 A2 A4 A5:Option Addr) (c1 c2 c4 c5:Nat) (w:World) (r:Reg) (hs2:(c.regsAs (c.regs++ [r])).small) (hok2:(c.regsAs (c.regs++ [r])).ok) (hv:rightM (c.regsAs (c.regs++ [r]))=true) (B3:Option Addr) (n d3:Nat) (hn:n=c.regs.length+1) (hR':CfgR w w.heap.size (c.regsAs (c.regs++ [r])) A1 A2 B3 A4 A5 c1 c2 d3 c4 c5):
  Calls Tryz.prog 7 #[cfgV c.frame A1 A2 B3 A4 A5 c.parts.length c.wins.length n c.ports.length c.chans.length c1 c2 d3 c4 c5] w fun e w'=>(∃mb,e= .returned (.pointer (some ⟨mb,0,none⟩)))∧Below w.heap.size w w':=by
 have h:=cNew_ok (c.regsAs (c.regs++ [r])) A1 A2 B3 A4 A5 c1 c2 d3 c4 c5 w hR' hs2 hok2 true (Lib.hid hv)
 rw [show (c.regsAs (c.regs++ [r])).regs.length=n by rw [hn];exact List.length_append] at h
 refine h.mono ?_
 rintro e w' ⟨hb,⟨h,_⟩ |⟨_,mb,rfl,_⟩⟩
 ·cases h
 ·exact ⟨⟨mb,rfl⟩,hb⟩
set_option maxRecDepth 100000 in
set_option maxHeartbeats 16000000 in
theorem ownerFree_ok (c:Cfg) (A1 A2 A3 A4 A5:Option Addr) (c1 c2 c3 c4 c5:Nat) (w:World) (hR:CfgR w w.heap.size c A1 A2 A3 A4 A5 c1 c2 c3 c4 c5) (hs:c.small) (hok:c.ok) (size al:Int) (hz:wU64 size) (ha:wU64 al):Calls Tryz.prog 3 #[cfgV c.frame A1 A2 A3 A4 A5 c.parts.length c.wins.length c.regs.length c.ports.length c.chans.length c1 c2 c3 c4 c5, .int .u64 size, .int .u64 al] w fun e w'=>e= .returned (.bool true)∧Below w.heap.size w w':=by
 obtain ⟨i0,hi,hz0,hz1,hz2⟩:=info_parts infoRegion
 obtain ⟨W0,hW,st⟩:=St.start_any hR 29
 have HW:=Lib.hid hW
 have ST0:=Lib.hid st
 obtain ⟨x0,x1,x2,x3,x4,x5,hz5⟩:=st.cells
 have HOK:=Lib.hid hok
 have HWZ:=Lib.hid hz
 obtain ⟨s0,s1⟩:=Go.bounds_u64 hz
 obtain ⟨a0,a1⟩:=Go.bounds_u64 ha
 clear hR hW st hok hz ha
 rcases bool_cases (goodO c) with h1 |h1
 ·have H1:=Lib.hid h1
  have HV:=Lib.hid (goodO_right h1)
  have HSP:=Lib.hid (rightM_sp HOK.out (goodO_right h1))
  have HLC:=Lib.hid (rightM_okR HOK.out (goodO_right h1))
  have HFW:=Lib.hid (show few c=true by unfold goodO at h1;simp only [Bool.and_eq_true] at h1;exact h1.1)
  clear h1
  go_enter Tryz.func3,Tryz.ntmps3
  go_upto_region 1 with (fail)
  rw [HW.out]
  go_wp2_with fail
  refine (goodO_ok c _ _ _ _ _ _ _ _ _ _ _ ST0.out.R hs HOK.out true H1).mono ?_
  rintro e w1 ⟨rfl,hb1⟩
  have ST1:=Lib.hid (ST0.out.up hb1)
  clear hb1 x0 x1 x2 x3 x4 x5 hz5
  obtain ⟨x0,x1,x2,x3,x4,x5,hz5⟩:=ST1.out.cells
  go_wp2_with fail
  refine (cNew_ok c _ _ _ _ _ _ _ _ _ _ _ ST1.out.R hs HOK.out true HV).mono ?_
  rintro e w2 ⟨hb2,⟨h,_⟩ |⟨_,mb,rfl,hm⟩⟩
  ·cases h
  have ST2:=Lib.hid (ST1.out.up hb2)
  have HLK:=Lib.hid hm.ok
  have HSO:=Lib.hid (show SegsOk (normK keyReg c.regs) (mapL (normK keyReg c.regs)) from by
   obtain ⟨L,_,h2⟩:=hm.ex
   rw [←h2.eq_ hm.ok]
   exact h2)
  have HM:=Lib.hid hm
  obtain ⟨v,ok,hfv⟩: ∃v ok,freeV (mapL (normK keyReg c.regs)) size al=(v,ok):=⟨_,_,rfl⟩
  have HFV:=Lib.hid hfv
  clear hb2 hm hfv x0 x1 x2 x3 x4 x5 hz5
  go_wp2_with fail
  refine (cFree_ok HM.out size al s0 s1 a0 a1 v ok HFV).mono ?_
  rintro e w3 ⟨rfl,hb3⟩
  have ST3:=Lib.hid (ST2.out.up hb3)
  clear hb3
  obtain ⟨x0,x1,x2,x3,x4,x5,hz5⟩:=ST3.out.cells
  go_wp2_with fail
  refine (rFree_ok c _ _ _ _ _ _ _ _ _ _ _ ST3.out.R hs HOK.out HLC.out HSP.out HSO.out HLK.out size al s0 s1 a0 a1 v ok HFV).mono ?_
  rintro e w4 ⟨rfl,hb4⟩
  have ST4:=Lib.hid (ST3.out.up hb4)
  clear hb4 x0 x1 x2 x3 x4 x5 hz5
  obtain ⟨x0,x1,x2,x3,x4,x5,hz5⟩:=ST4.out.cells
  cases ok
  ·clear x0 x1 x2 x3 x4 x5 hz5
   go_wp2_with fail
   refine (alive_ok w4).mono ?_
   rintro e w5 ⟨rfl,hb5⟩
   have HZ:=Lib.hid (ST4.out.up hb5).bel
   clear hb5
   go_wp2
   go_ret
   exact ⟨rfl,HZ.out⟩
  ·obtain ⟨np,hnp⟩: ∃np,c.parts.length=np:=⟨_,rfl⟩
   have HNP:=Lib.hid hnp
   by_cases hp:np=0
   ·have hq1:((c.parts.length:Nat):Int)=0:=by omega
    clear hnp
    go_wp2_with fail
    refine (alive_ok w4).mono ?_
    rintro e w5 ⟨rfl,hb5⟩
    have HZ:=Lib.hid (ST4.out.up hb5).bel
    clear hb5 x0 x1 x2 x3 x4 x5 hz5
    go_wp2
    go_ret
    exact ⟨rfl,HZ.out⟩
   ·obtain ⟨p,hpp⟩:=get_lt (l:=c.parts) (k:=0) (by omega)
    obtain ⟨pb,po,rfl,hpb,pc0,_⟩:=par_at ST4.out.R.parts hpp
    rw [Nat.zero_mul,Nat.add_zero] at pc0
    have HPP:=Lib.hid hpp
    have hal:=below_one w4 (.cells #[.int .u64 c.frame, .slice (some ⟨pb,po,none⟩) c.parts.length c1, .slice A2 c.wins.length c2, .slice A3 c.regs.length c3, .slice A4 c.ports.length c4, .slice A5 c.chans.length c5] 29)
    have bx:=Blk.new w4 29 #[.int .u64 c.frame, .slice (some ⟨pb,po,none⟩) c.parts.length c1, .slice A2 c.wins.length c2, .slice A3 c.regs.length c3, .slice A4 c.ports.length c4, .slice A5 c.chans.length c5]
    have hq1:((c.parts.length:Nat):Int)≠0:=by omega
    have hq2:(0:Int) <((c.parts.length:Nat):Int):=by omega
    have hq3:0 <c.parts.length:=by omega
    have hq4: ¬c.parts.length=0:=by omega
    clear hnp hpp
    go_upto_region 13 with (fail)
    generalize World.alloc w4 _=wz at hal bx ⊢
    have HAL:=Lib.hid hal
    have ST5:=Lib.hid (ST4.out.up hal)
    have hgz:w.heap.size <w4.heap.size:=ST4.out.z
    have pc1:=(hal.cell (p:=⟨pb,po,none⟩) hpb).trans pc0
    clear x0 x1 x2 x3 x4 x5 hz5 hal
    obtain ⟨x0,x1,x2,x3,x4,x5,hz5⟩:=ST5.out.cells
    generalize hgx:w4.heap.size=gx at*
    have BX:=Lib.hid bx
    have hgl:=bx.lt
    have HRG:=Lib.hid ST5.out.R.regs
    have hbd:=hs.bd.r
    have HBW:=Lib.hid (Below.refl wz.heap.size wz)
    have HKP:=Lib.hid (show ∀U,Below gx w4 U→(fun w'=>w'.cell? ⟨w.heap.size,1,none⟩=some (.slice (some ⟨pb,po,none⟩) c.parts.length c1)∧w'.cell? ⟨w.heap.size,3,none⟩=some (.slice A3 c.regs.length c3)∧w'.cell? ⟨pb,po,none⟩=some (.int .u16 p.id)) U from fun U hU=>by
     obtain ⟨_,y1,_,y3,_⟩:=(ST4.out.up (by rw [hgx];exact hU)).cells
     exact ⟨y1,y3,(hU.cell (p:=⟨pb,po,none⟩) hpb).trans pc0⟩)
    clear bx
    go_region_held3 (fun w'=>w'.cell? ⟨w.heap.size,1,none⟩=some (.slice (some ⟨pb,po,none⟩) c.parts.length c1)∧w'.cell? ⟨w.heap.size,3,none⟩=some (.slice A3 c.regs.length c3)∧w'.cell? ⟨pb,po,none⟩=some (.int .u16 p.id))
     (first |(refine HKP.out _ ?_;refine HAL.out.trans (Below.mono ?_ (Nat.le_of_lt hgl));(repeat (first |with_reducible exact HBW.out |with_reducible exact Below.refl _ _ |with_reducible refine Below.drew ?_ |(with_reducible refine Below.alloc ?_ (by first |(simp;done) |(have hq:=HBW.out.size;simp at hq ⊢;omega)) _) |(with_reducible refine Below.setCell ?_ (by first |(simp;done) |(have hq:=HBW.out.size;simp at hq ⊢;omega)) _)));done) |(refine HKP.out _ ?_;refine Below.setCell ?_ (Nat.le_refl gx) _;refine HAL.out.trans (Below.mono ?_ (Nat.le_of_lt hgl));(repeat (first |with_reducible exact HBW.out |with_reducible exact Below.refl _ _ |with_reducible refine Below.drew ?_ |(with_reducible refine Below.alloc ?_ (by first |(simp;done) |(have hq:=HBW.out.size;simp at hq ⊢;omega)) _) |(with_reducible refine Below.setCell ?_ (by first |(simp;done) |(have hq:=HBW.out.size;simp at hq ⊢;omega)) _)));done) |go_keep)
     (first
     |(refine step_appT wz 25 41 5 i0 (.agg #[.int .u64 0, .int .u64 0, .int .u16 0, .int .u8 0, .bool false]) 24 Tryz.underlying25 hi hz0 hz1 hz2 rfl (by decide) (by rfl) (.tmp 53) (.tmp 55) (by rfl) 0 [] ?_ wz.heap.size A3 c.regs.length c3 (c.regs.flatMap Reg.cells) (by rfl) ?_ ?_ ?_ ?_ ?_ ?_;(focus ((repeat (first |(with_reducible refine own_drewF ?_) |(exact hq1) |(refine World.ownsRow.kept ?_ hg1 (Or.inr ?_);rotate_left;(intro e;have e2:=Option.some.inj e;first |(exfalso;dsimp only at e2;omega) |(exfalso;have hy:=HBW.out.size;simp at hy e2;omega))) |(refine own_litF _ _ _ 5 [] _ 0 ?_ ?_ ?_ ?_ _ ?_;(focus (first |(simp;done) |(have hq:=HBW.out.size;simp at hq ⊢;omega) |omega;done));(focus (simp;done));(focus (simp [maxLen];done));(focus (exact rfl));(focus (exact rfl))) |(with_reducible refine World.ownsRow.alloc ?_ _)));done));(focus (exact HRG.out.below (by (repeat (first |with_reducible exact HBW.out |with_reducible exact Below.refl _ _ |with_reducible refine Below.drew ?_ |(with_reducible refine Below.alloc ?_ (by first |(simp;done) |(have hq:=HBW.out.size;simp at hq ⊢;omega)) _) |(with_reducible refine Below.setCell ?_ (by first |(simp;done) |(have hq:=HBW.out.size;simp at hq ⊢;omega)) _))))));(focus (exact regOneF _));(focus (omega));(focus (unfold maxLen;omega));(focus ((repeat (first |with_reducible exact HBW.out |with_reducible exact Below.refl _ _ |with_reducible refine Below.drew ?_ |(with_reducible refine Below.alloc ?_ (by first |(simp;done) |(have hq:=HBW.out.size;simp at hq ⊢;omega)) _) |(with_reducible refine Below.setCell ?_ (by first |(simp;done) |(have hq:=HBW.out.size;simp at hq ⊢;omega)) _)));done));intro v1 w1 hq1 hg1 hbb;have HBW:=Lib.hid hbb)
     |(refine step_appU wz 25 41 5 i0 (.agg #[.int .u64 0, .int .u64 0, .int .u16 0, .int .u8 0, .bool false]) 24 Tryz.underlying25 hi hz0 hz1 hz2 rfl (by decide) (by rfl) (.tmp 56) (.tmp 65) (by rfl) (0+c.regs.length) ([]++c.regs.flatMap Reg.cells) ?_ 1 [.int .u64 v, .int .u64 size, .int .u16 p.id, .int .u8 0, .bool false] ?_ ?_ ?_ ?_ ?_ ?_;(focus ((repeat (first |(with_reducible refine own_drewF ?_) |(exact hq1) |(refine World.ownsRow.kept ?_ hg1 (Or.inr ?_);rotate_left;(intro e;have e2:=Option.some.inj e;first |(exfalso;dsimp only at e2;omega) |(exfalso;have hy:=HBW.out.size;simp at hy e2;omega))) |(refine own_litF _ _ _ 5 [] _ 0 ?_ ?_ ?_ ?_ _ ?_;(focus (first |(simp;done) |(have hq:=HBW.out.size;simp at hq ⊢;omega) |omega;done));(focus (simp;done));(focus (simp [maxLen];done));(focus (exact rfl));(focus (exact rfl))) |(with_reducible refine World.ownsRow.alloc ?_ _)));done));(focus ((repeat (first |(with_reducible refine own_drewF ?_) |(exact hq1) |(refine World.ownsRow.kept ?_ hg1 (Or.inr ?_);rotate_left;(intro e;have e2:=Option.some.inj e;first |(exfalso;dsimp only at e2;omega) |(exfalso;have hy:=HBW.out.size;simp at hy e2;omega))) |(refine own_litF _ _ _ 5 [.int .u64 v, .int .u64 size, .int .u16 p.id, .int .u8 0, .bool false] _ 1 ?_ ?_ ?_ ?_ _ ?_;(focus (first |(simp;done) |(have hq:=HBW.out.size;simp at hq ⊢;omega) |omega;done));(focus (simp;done));(focus (simp [maxLen];done));(focus (exact rfl));(focus (exact rfl))) |(with_reducible refine World.ownsRow.alloc ?_ _)));done));(focus (exact regOneF [⟨v,size,p.id,0,false⟩]));(focus (omega));(focus (unfold maxLen;omega));(focus ((repeat (first |with_reducible exact HBW.out |with_reducible exact Below.refl _ _ |with_reducible refine Below.drew ?_ |(with_reducible refine Below.alloc ?_ (by first |(simp;done) |(have hq:=HBW.out.size;simp at hq ⊢;omega)) _) |(with_reducible refine Below.setCell ?_ (by first |(simp;done) |(have hq:=HBW.out.size;simp at hq ⊢;omega)) _)));done));intro v2 w2 hq2 hg2 hbb;have HBW:=Lib.hid hbb;have hbu:=BX.out.below hbb hgl;have c3q:=hbu.cell 3;have f3q:=hbu.frozen 3;have l3q:=hbu.lt;simp at c3q;obtain ⟨D,d,rfl,hd1,hd2,hrd⟩:=own_form hq2)
     |fail)
    all_goals
     rw [Nat.zero_add] at hq2 hd1
     generalize hnn:c.regs.length+1=n2 at*
     have HN2:=Lib.hid (show n2=c.regs.length+1 by omega)
     have hb6:Below gx w4 (w2.setCell ⟨gx,3,none⟩ (.slice D n2 d)):=(HAL.out.trans (hbb.mono (Nat.le_of_lt hgl))).setCell (p:=⟨gx,3,none⟩) (Nat.le_refl gx) _
     have bx6:=(BX.out.below hbb hgl).set_ 3 (.slice D n2 d)
     have ho6:=own_set hq2 (p:=⟨gx,3,none⟩) hgl (.slice D n2 d)
     clear hrd hbb HKP c3q f3q l3q hg2 hq2 hq1 hg1 x0 x1 x2 x3 x4 x5 hz5
     generalize World.setCell w2 _ _=w5 at hb6 bx6 ho6 ⊢
     simp at bx6
     have ST6:=Lib.hid (ST4.out.up (by rw [hgx];exact hb6))
     have HFR:=Lib.hid (free_right HOK.out HV.out rfl HSO.out HPP.out HWZ.out a0 HFV.out)
     have HSM:=Lib.hid (small_more hs HFW.out ⟨v,size,p.id,0,false⟩)
     have HCR:=Lib.hid (show CfgR w5 w5.heap.size (c.regsAs (c.regs++ [⟨v,size,p.id,0,false⟩])) (some ⟨pb,po,none⟩) A2 D A4 A5 c1 c2 d c4 c5 from by
      have h:=ST6.out.R
      have e1:(c.regs++ [(⟨v,size,p.id,0,false⟩:Reg)]).length=n2:=by rw [HN2.out];exact List.length_append
      have hr:=(own_slice ho6).2
      refine ⟨h.parts,h.wins, ?_,h.ports,h.chans,h.cap1,h.cap2,⟨?_,hd2⟩,h.cap4,h.cap5⟩
      ·show Rd w5 w5.heap.size 5 D (c.regs++ [_]).length ((c.regs++ [_]).flatMap Reg.cells)
       rw [e1,List.flatMap_append]
       exact hr
      ·show (c.regs++ [_]).length≤d
       rw [e1];exact hd1)
     have BX6:=Lib.hid bx6
     have q0:=bx6.cell 0
     have q1:=bx6.cell 1
     have q2:=bx6.cell 2
     have q3:=bx6.cell 3
     have q4:=bx6.cell 4
     have q5:=bx6.cell 5
     have qz:=bx6.lt
     simp at q0 q1 q2 q3 q4 q5
     clear hb6 bx6 ho6 hnn q0 q1 q2 q3 q4 q5 qz
     go_wp2_with fail
     refine (alive_ok w5).mono ?_
     rintro e w6 ⟨rfl,hb7⟩
     have HB7:=Lib.hid hb7
     have BX7:=Lib.hid (BX6.out.below hb7 BX6.out.lt)
     have q0:=BX7.out.cell 0
     have q1:=BX7.out.cell 1
     have q2:=BX7.out.cell 2
     have q3:=BX7.out.cell 3
     have q4:=BX7.out.cell 4
     have q5:=BX7.out.cell 5
     have qz:=BX7.out.lt
     simp at q0 q1 q2 q3 q4 q5
     clear hb7
     go_wp2_with fail
     refine (memCheck_more c _ A2 A4 A5 c1 c2 c4 c5 w6 _ HSM.out HFR.out.2 HFR.out.1 D n2 d HN2.out (HCR.out.up HB7.out)).mono ?_
     rintro e w7 ⟨rfl,hb8⟩
     have HB8:=Lib.hid (Below.then_ HB7.out hb8)
     have BX8:=Lib.hid (BX7.out.below hb8 BX7.out.lt)
     clear hb8 q0 q1 q2 q3 q4 q5 qz
     have q0:=BX8.out.cell 0
     have q1:=BX8.out.cell 1
     have q2:=BX8.out.cell 2
     have q3:=BX8.out.cell 3
     have q4:=BX8.out.cell 4
     have q5:=BX8.out.cell 5
     have qz:=BX8.out.lt
     simp at q0 q1 q2 q3 q4 q5
     go_wp2_with fail
     refine (cNew_more c _ A2 A4 A5 c1 c2 c4 c5 w7 _ HSM.out HFR.out.2 HFR.out.1 D n2 d HN2.out (HCR.out.up HB8.out)).mono ?_
     rintro e w8 ⟨⟨mb2,rfl⟩,hb9⟩
     have HZ:=Lib.hid (ST6.out.up (Below.then_ HB8.out hb9)).bel
     clear hb9 q0 q1 q2 q3 q4 q5 qz
     go_wp2
     go_ret
     exact ⟨rfl,HZ.out⟩
 ·have H1:=Lib.hid h1
  clear h1
  go_enter Tryz.func3,Tryz.ntmps3
  go_upto_region 1 with (fail)
  rw [HW.out]
  go_wp2_with fail
  refine (goodO_ok c _ _ _ _ _ _ _ _ _ _ _ ST0.out.R hs HOK.out false H1).mono ?_
  rintro e w1 ⟨rfl,hb1⟩
  have ST1:=Lib.hid (ST0.out.up hb1)
  clear hb1 x0 x1 x2 x3 x4 x5 hz5
  go_wp2_with fail
  refine (alive_ok w1).mono ?_
  rintro e w2 ⟨rfl,hb2⟩
  have HZ:=Lib.hid (ST1.out.up hb2).bel
  clear hb2
  go_wp2
  go_ret
  exact ⟨rfl,HZ.out⟩
end Go.Proofs.YtdmgpdanlfmadaaGreat
