/-
  pack.Twice, walked: the first record that occurs twice.
-/
import Derived.BigQuiet
import Derived.Test.YteelncofiodflaaGreatRepZ
import Derived.Test.YteelncofiodflaaGreatBoxC
import Derived.Test.YteelncofiodflaaGreatInvX
namespace Go.Proofs.YteelncofiodflaaGreat
open Go.RowKit
theorem lnk_next {l:List Chn} {k:Nat} {x:Chn} (hx:l[k]? =some x):lnkTwc (l.drop k) (sumDests (l.take k))=if 0≤adjI (fun d=> [d]) x.dests then ((sumDests (l.take k):Nat):Int)+adjI (fun d=> [d]) x.dests else lnkTwc (l.drop (k+1)) (sumDests (l.take (k+1))):=by
 rw [drop_cons hx,sumDests_next hx]
 rfl
theorem lnk_end (l:List Chn):lnkTwc (l.drop l.length) (sumDests (l.take l.length))= -1:=by
 rw [List.drop_length]
 rfl
theorem firstTwc_1 {n:Cfg} (h:0 <adjI keyPar n.parts):firstTwc n=⟨18,1,adjI keyPar n.parts⟩:=by unfold firstTwc;rw [if_pos h]
theorem firstTwc_2 {n:Cfg} (h1: ¬0 <adjI keyPar n.parts) (h:0 <adjI keyWin n.wins):firstTwc n=⟨18,2,adjI keyWin n.wins⟩:=by unfold firstTwc;rw [if_neg h1,if_pos h]
theorem firstTwc_3 {n:Cfg} (h1: ¬0 <adjI keyPar n.parts) (h2: ¬0 <adjI keyWin n.wins) (h:0 <adjI keyReg n.regs):firstTwc n=⟨18,3,adjI keyReg n.regs⟩:=by unfold firstTwc;rw [if_neg h1,if_neg h2,if_pos h]
theorem firstTwc_4 {n:Cfg} (h1: ¬0 <adjI keyPar n.parts) (h2: ¬0 <adjI keyWin n.wins) (h3: ¬0 <adjI keyReg n.regs) (h:0 <adjI keyPrt n.ports):firstTwc n=⟨18,4,adjI keyPrt n.ports⟩:=by unfold firstTwc;rw [if_neg h1,if_neg h2,if_neg h3,if_pos h]
theorem firstTwc_5 {n:Cfg} (h1: ¬0 <adjI keyPar n.parts) (h2: ¬0 <adjI keyWin n.wins) (h3: ¬0 <adjI keyReg n.regs) (h4: ¬0 <adjI keyPrt n.ports) (h:0 <adjI keyChn n.chans):firstTwc n=⟨18,5,adjI keyChn n.chans⟩:=by unfold firstTwc;rw [if_neg h1,if_neg h2,if_neg h3,if_neg h4,if_pos h]
theorem firstTwc_6 {n:Cfg} (h1: ¬0 <adjI keyPar n.parts) (h2: ¬0 <adjI keyWin n.wins) (h3: ¬0 <adjI keyReg n.regs) (h4: ¬0 <adjI keyPrt n.ports) (h5: ¬0 <adjI keyChn n.chans):firstTwc n=if 0≤lnkTwc n.chans 0 then ⟨18,6,lnkTwc n.chans 0⟩ else noFlt:=by unfold firstTwc;rw [if_neg h1,if_neg h2,if_neg h3,if_neg h4,if_neg h5]
set_option maxRecDepth 100000 in
set_option maxHeartbeats 16000000 in
theorem pckTwice_ok (c:Cfg) (A1 A2 A3 A4 A5:Option Addr) (c1 c2 c3 c4 c5:Nat) (w:World) (hR:CfgR w w.heap.size c A1 A2 A3 A4 A5 c1 c2 c3 c4 c5) (ht:c.total≤4194304) (r1 r2 r3:Int) (hv:Hid (twcF c=⟨r1,r2,r3⟩)):Calls Tryz.prog 16 #[cfgV c.frame A1 A2 A3 A4 A5 c.parts.length c.wins.length c.regs.length c.ports.length c.chans.length c1 c2 c3 c4 c5] w fun e w'=>e= .returned (.agg #[.int .i64 r1, .int .i64 r2, .int .i64 r3])∧Below w.heap.size w w':=by
 obtain ⟨W0,hW,st⟩:=St.start_any hR 29
 have HW:=Lib.hid hW
 have e0:W0.heap.size=w.heap.size+1:=by rw [←hW];simp
 have hres:=Blk.new W0 44 #[.int .i64 0, .int .i64 0, .int .i64 0]
 have hb1:=below_one W0 (.cells #[.int .i64 0, .int .i64 0, .int .i64 0] 44)
 obtain ⟨W1,hW1⟩: ∃W1,W0.alloc (.cells #[.int .i64 0, .int .i64 0, .int .i64 0] 44)=W1:=⟨_,rfl⟩
 rw [hW1] at hres hb1
 rw [e0] at hres
 have HW1:=Lib.hid hW1
 have HRES:=Lib.hid hres
 have ST1:=Lib.hid (st.up hb1)
 obtain ⟨d,hd⟩: ∃d,c.norm=d:=⟨_,rfl⟩
 have HD:=Lib.hid hd
 have hdt:d.total≤4194304:=by rw [←hd,norm_total];exact ht
 have HDT:=Lib.hid hdt
 have HTW:=Lib.hid (show firstTwc d=⟨r1,r2,r3⟩ by rw [←hd];exact hv.out)
 have hsd:sumDests d.chans≤4194304:=by unfold Cfg.total at hdt;omega
 have b1:d.parts.length≤4194304:=by unfold Cfg.total at hdt;omega
 have b2:d.wins.length≤4194304:=by unfold Cfg.total at hdt;omega
 have b3:d.regs.length≤4194304:=by unfold Cfg.total at hdt;omega
 have b4:d.ports.length≤4194304:=by unfold Cfg.total at hdt;omega
 have b5:d.chans.length≤4194304:=by unfold Cfg.total at hdt;omega
 have HSD:=Lib.hid hsd
 have HBB:=Lib.hid (And.intro b1 (And.intro b2 (And.intro b3 b4)))
 clear hR hW st hres hb1 hW1 e0 hd hdt hsd b1 b2 b3 b4
 go_enter Tryz.func16,Tryz.ntmps16
 go_upto_region 1 with (fail)
 rw [HW.out,HW1.out]
 obtain ⟨x0,x1,x2,x3,x4,x5,hz⟩:=ST1.out.cells
 go_wp2_with fail
 refine (normalD_ok c d HD _ _ _ _ _ _ _ _ _ _ _ ST1.out.R ht).mono ?_
 rintro e w2 ⟨B1,B2,B3,B4,B5,d1,d2,d3,d4,d5,rfl,hP,hb2⟩
 obtain ⟨W3,hW3,hbx,hb3⟩:=CBx.new hP 29
 have HW3:=Lib.hid hW3
 have CB:=Lib.hid hbx
 have HR3:=Lib.hid ((HRES.out.below hb2 HRES.out.lt).below hb3 (by have:=HRES.out.lt;have:=hb2.size;omega))
 have HBL:=Lib.hid (ST1.out.up (Below.then_ hb2 hb3)).bel
 clear x0 x1 x2 x3 x4 x5 hz hP hb2 hb3 hbx hW3 HW HW1
 obtain ⟨a1,ha1⟩: ∃a,adjI keyPar d.parts=a:=⟨_,rfl⟩
 obtain ⟨a2,ha2⟩: ∃a,adjI keyWin d.wins=a:=⟨_,rfl⟩
 obtain ⟨a3,ha3⟩: ∃a,adjI keyReg d.regs=a:=⟨_,rfl⟩
 obtain ⟨a4,ha4⟩: ∃a,adjI keyPrt d.ports=a:=⟨_,rfl⟩
 obtain ⟨a5,ha5⟩: ∃a,adjI keyChn d.chans=a:=⟨_,rfl⟩
 have HA1:=Lib.hid ha1
 have HA2:=Lib.hid ha2
 have HA3:=Lib.hid ha3
 have HA4:=Lib.hid ha4
 have HA5:=Lib.hid ha5
 clear ha1 ha2 ha3 ha4 ha5
 go_upto_region 3 with (fail)
 rw [HW3.out]
 clear HW3
 generalize w2.heap.size=g at*
 refine wp_region_CA 13 19 rfl (by kernel_rfl) (by kernel_rfl) (by kernel_rfl) (by kernel_rfl) (Nat.le_of_ble_eq_true (by kernel_rfl))
  [.pointer (some ⟨g,1,none⟩), .slice B1 d.parts.length d1, .int .i64 a1, .pointer (some ⟨g,2,none⟩), .slice B2 d.wins.length d2, .int .i64 a2, .pointer (some ⟨g,3,none⟩), .slice B3 d.regs.length d3, .int .i64 a3, .pointer (some ⟨g,4,none⟩), .slice B4 d.ports.length d4, .int .i64 a4, .pointer (some ⟨g,5,none⟩), .slice B5 d.chans.length d5, .func (.func 47) #[] #[], .int .i64 a5,undef, .int .i64 6, .int .i64 0]
  (fun i=>i==16) (fun _ v U=> ∃q,v= .slice (some ⟨q,0,none⟩) 6 6∧Blk U q 3 #[.int .i64 0, .int .i64 a1, .int .i64 a2, .int .i64 a3, .int .i64 a4, .int .i64 a5]) (fun U=>Below W3.heap.size W3 U)
  ((Below.refl _ _).drew) (fun U V hU hb=>Below.then_ hU hb) (fun _ v U V _ hv hb=>by obtain ⟨q,e,h⟩:=hv;exact ⟨q,e,h.below hb h.lt⟩) ?hop ?hend
 case hop=>
  intro n o ho hn U hE ρ r0 rf r1 r2
  obtain ⟨x0,x1,x2,x3,x4,x5⟩:=(CB.out.up hE).cells
  match n,ho with
  |0,ho=>
   cases ho
   have q3:=r1 3 (by decide)
   refine RunsTo.val _ (V:=U) ?_ ⟨Below.refl _ _,SC.ofV rfl⟩
   simp only [execOp]
   go_simp
  |1,ho=>
   cases ho
   have q13:ρ (.tmp (13+0))=_:=(r2 {on:=0,ground:= .data} (by simp) rfl).val rfl
   refine RunsTo.val _ (V:=U) ?_ ⟨Below.refl _ _,SC.ofV rfl⟩
   simp only [execOp]
   go_simp
  |2,ho=>
   cases ho
   have q14:ρ (.tmp (13+1))=_:=(r2 {on:=1,ground:= .data} (by simp) rfl).val rfl
   refine RunsTo.call (V:=U) 49 #[.slice B1 d.parts.length d1, .func (.func 50) #[] #[]] ?_ ?_
   ·simp only [execOp]
    go_simp
   ·refine (repPar_ok d.parts B1 d1 U (by have:=HBB.out;omega) (CB.out.up hE).R.parts).mono ?_
    rintro e V ⟨rfl,hb⟩
    exact ⟨_,rfl,hb,by rw [HA1.out];exact SC.ofV rfl⟩
  |3,ho=>
   cases ho
   have q3:=r1 3 (by decide)
   refine RunsTo.val _ (V:=U) ?_ ⟨Below.refl _ _,SC.ofV rfl⟩
   simp only [execOp]
   go_simp
  |4,ho=>
   cases ho
   have q16:ρ (.tmp (13+3))=_:=(r2 {on:=3,ground:= .data} (by simp) rfl).val rfl
   refine RunsTo.val _ (V:=U) ?_ ⟨Below.refl _ _,SC.ofV rfl⟩
   simp only [execOp]
   go_simp
  |5,ho=>
   cases ho
   have q17:ρ (.tmp (13+4))=_:=(r2 {on:=4,ground:= .data} (by simp) rfl).val rfl
   refine RunsTo.call (V:=U) 51 #[.slice B2 d.wins.length d2, .func (.func 52) #[] #[]] ?_ ?_
   ·simp only [execOp]
    go_simp
   ·refine (repWin_ok d.wins B2 d2 U (by have:=HBB.out;omega) (CB.out.up hE).R.wins).mono ?_
    rintro e V ⟨rfl,hb⟩
    exact ⟨_,rfl,hb,by rw [HA2.out];exact SC.ofV rfl⟩
  |6,ho=>
   cases ho
   have q3:=r1 3 (by decide)
   refine RunsTo.val _ (V:=U) ?_ ⟨Below.refl _ _,SC.ofV rfl⟩
   simp only [execOp]
   go_simp
  |7,ho=>
   cases ho
   have q19:ρ (.tmp (13+6))=_:=(r2 {on:=6,ground:= .data} (by simp) rfl).val rfl
   refine RunsTo.val _ (V:=U) ?_ ⟨Below.refl _ _,SC.ofV rfl⟩
   simp only [execOp]
   go_simp
  |8,ho=>
   cases ho
   have q20:ρ (.tmp (13+7))=_:=(r2 {on:=7,ground:= .data} (by simp) rfl).val rfl
   refine RunsTo.call (V:=U) 53 #[.slice B3 d.regs.length d3, .func (.func 54) #[] #[]] ?_ ?_
   ·simp only [execOp]
    go_simp
   ·refine (repReg_ok d.regs B3 d3 U (by have:=HBB.out;omega) (CB.out.up hE).R.regs).mono ?_
    rintro e V ⟨rfl,hb⟩
    exact ⟨_,rfl,hb,by rw [HA3.out];exact SC.ofV rfl⟩
  |9,ho=>
   cases ho
   have q3:=r1 3 (by decide)
   refine RunsTo.val _ (V:=U) ?_ ⟨Below.refl _ _,SC.ofV rfl⟩
   simp only [execOp]
   go_simp
  |10,ho=>
   cases ho
   have q22:ρ (.tmp (13+9))=_:=(r2 {on:=9,ground:= .data} (by simp) rfl).val rfl
   refine RunsTo.val _ (V:=U) ?_ ⟨Below.refl _ _,SC.ofV rfl⟩
   simp only [execOp]
   go_simp
  |11,ho=>
   cases ho
   have q23:ρ (.tmp (13+10))=_:=(r2 {on:=10,ground:= .data} (by simp) rfl).val rfl
   refine RunsTo.call (V:=U) 55 #[.slice B4 d.ports.length d4, .func (.func 56) #[] #[]] ?_ ?_
   ·simp only [execOp]
    go_simp
   ·refine (repPrt_ok d.ports B4 d4 U (by have:=HBB.out;omega) (CB.out.up hE).R.ports).mono ?_
    rintro e V ⟨rfl,hb⟩
    exact ⟨_,rfl,hb,by rw [HA4.out];exact SC.ofV rfl⟩
  |12,ho=>
   cases ho
   have q3:=r1 3 (by decide)
   refine RunsTo.val _ (V:=U) ?_ ⟨Below.refl _ _,SC.ofV rfl⟩
   simp only [execOp]
   go_simp
  |13,ho=>
   cases ho
   have q25:ρ (.tmp (13+12))=_:=(r2 {on:=12,ground:= .data} (by simp) rfl).val rfl
   refine RunsTo.val _ (V:=U) ?_ ⟨Below.refl _ _,SC.ofV rfl⟩
   simp only [execOp]
   go_simp
  |14,ho=>
   cases ho
   have q4:=r1 4 (by decide)
   refine RunsTo.val _ (V:=U) ?_ ⟨Below.refl _ _,SC.ofV rfl⟩
   simp only [execOp]
   go_simp
  |15,ho=>
   cases ho
   have q26:ρ (.tmp (13+13))=_:=(r2 {on:=13,ground:= .data} (by simp) rfl).val rfl
   have q27:ρ (.tmp (13+14))=_:=(r2 {on:=14,ground:= .data} (by simp) rfl).val rfl
   obtain ⟨cs,hcs,hrs⟩:=(CB.out.up hE).R.chans
   refine RunsTo.call (V:=U) 57 #[.slice B5 d.chans.length d5, .func (.func 47) #[] #[]] ?_ ?_
   ·simp only [execOp]
    go_simp
   ·refine (repChn_ok d.chans cs B5 d5 U b5 (dests_le HDT.out) hcs hrs).mono ?_
    rintro e V ⟨rfl,hb⟩
    exact ⟨_,rfl,hb,by rw [HA5.out];exact SC.ofV rfl⟩
  |16,ho=>
   cases ho
   have q15:ρ (.tmp (13+2))=_:=(r2 {on:=2,ground:= .data} (by simp) rfl).val rfl
   have q18:ρ (.tmp (13+5))=_:=(r2 {on:=5,ground:= .data} (by simp) rfl).val rfl
   have q21:ρ (.tmp (13+8))=_:=(r2 {on:=8,ground:= .data} (by simp) rfl).val rfl
   have q24:ρ (.tmp (13+11))=_:=(r2 {on:=11,ground:= .data} (by simp) rfl).val rfl
   have q28:ρ (.tmp (13+15))=_:=(r2 {on:=15,ground:= .data} (by simp) rfl).val rfl
   refine RunsTo.val (.slice (some ⟨U.heap.size,0,none⟩) 6 6) (V:=U.alloc (.cells #[.int .i64 0, .int .i64 a1, .int .i64 a2, .int .i64 a3, .int .i64 a4, .int .i64 a5] 3)) ?_ ⟨below_one _ _,SC.ofP rfl ⟨_,rfl,Blk.new _ _ _⟩⟩
   simp only [execOp]
   go_simp
  |17,ho=>
   cases ho
   obtain ⟨q,hq,_⟩:=(r2 {on:=16,ground:= .data} (by simp) rfl).got rfl
   have q29:ρ (.tmp (13+16))=_:=hq
   refine RunsTo.val _ (V:=U) ?_ ⟨Below.refl _ _,SC.ofV rfl⟩
   simp only [execOp]
   go_simp
  |18,ho=>
   cases ho
   refine RunsTo.val _ (V:=U) ?_ ⟨Below.refl _ _,SC.ofV rfl⟩
   simp only [execOp]
   go_simp
  |k+19,ho=>omega
 case hend=>
  intro u U hE hS
  have s16:=(hS 16 (by decide)).got rfl
  have s17:u 17= .int .i64 6:=(hS 17 (by decide)).val rfl
  have s18:u 18= .int .i64 0:=(hS 18 (by decide)).val rfl
  obtain ⟨q,s16,hlit⟩:=s16
  have HLT:=Lib.hid hlit
  have CU:=Lib.hid (CB.out.up hE)
  have HRU:=Lib.hid (HR3.out.below hE HR3.out.lt)
  have HBU:=Lib.hid (Below.then_ HBL.out hE)
  clear hS hE hlit CB HR3 HBL
  simp only [mkAt,List.take_succ_cons,List.take_zero,List.drop_succ_cons,List.drop_zero,List.range,List.range.loop,List.map_cons,List.map_nil,List.cons_append,List.nil_append]
  rw [s16,s17,s18]
  clear s16 s17 s18
  have hbq:=HLT.out.lt
  go_wp2
  go_loopw [31] (fun i wr=> ∃k:Nat,k≤6∧i= .int .i64 k∧Hid ((1 <k→ ¬0 <a1)∧(2 <k→ ¬0 <a2)∧(3 <k→ ¬0 <a3)∧(4 <k→ ¬0 <a4)∧(5 <k→ ¬0 <a5))∧wr=U) (fun i _=>6 -(intOf i).toNat)
  case atStart=>exact ⟨0,by omega,rfl,Lib.hid ⟨fun h=>absurd h (by omega),fun h=>absurd h (by omega),fun h=>absurd h (by omega),fun h=>absurd h (by omega),fun h=>absurd h (by omega)⟩,rfl⟩
  case round=>
   obtain ⟨k,hk,rfl,HG,rfl⟩:=hrel
   obtain rfl |rfl |rfl |rfl |rfl |rfl |rfl:k=0∨k=1∨k=2∨k=3∨k=4∨k=5∨k=6:=by omega
   ·have y0:=HLT.out.cell 0
    have yz:=HLT.out.lt
    simp at y0
    go_wp2
    go_roundw
    case rel=>exact ⟨1,by omega,by go_num,Lib.hid ⟨fun h=>absurd h (by omega),fun h=>absurd h (by omega),fun h=>absurd h (by omega),fun h=>absurd h (by omega),fun h=>absurd h (by omega)⟩,by first |rfl |trivial⟩
    case measure=>simp [intOf]
   ·have y1:=HLT.out.cell 1
    have yz:=HLT.out.lt
    simp at y1
    by_cases h1:0 <a1
    ·have e9:=HTW.out
     rw [firstTwc_1 (by rw [HA1.out];exact h1),HA1.out] at e9
     have z1:(18:Int)=r1:=congrArg Flt.code e9
     have z2:(1:Int)=r2:=congrArg Flt.part e9
     have z3:a1=r3:=congrArg Flt.at_ e9
     subst z1 z2 z3
     have r0:=HRU.out.cell 0
     have r1:=HRU.out.cell 1
     have r2:=HRU.out.cell 2
     simp at r0 r1 r2
     have hfr:=HRU.out.frozen
     have hrl:=HRU.out.lt
     clear e9
     go_wp2
     refine bodyPost_ret (v:= .agg #[.int .i64 18, .int .i64 1, .int .i64 a1]) (by simp [results,Tryz.results16,go_sem,r0,r1,r2]) rfl ⟨rfl, ?_⟩
     exact Below.setCell (Below.setCell (Below.setCell HBU.out (by simp) _) (by simp) _) (by simp) _
    ·go_wp2
     go_roundw
     case rel=>exact ⟨2,by omega,by go_num,Lib.hid ⟨fun _=>h1,fun h=>absurd h (by omega),fun h=>absurd h (by omega),fun h=>absurd h (by omega),fun h=>absurd h (by omega)⟩,by first |rfl |trivial⟩
     case measure=>simp [intOf]
   ·have y2:=HLT.out.cell 2
    have yz:=HLT.out.lt
    simp at y2
    by_cases h2:0 <a2
    ·have e9:=HTW.out
     rw [firstTwc_2 (by rw [HA1.out];exact HG.out.1 (by omega)) (by rw [HA2.out];exact h2),HA2.out] at e9
     have z1:(18:Int)=r1:=congrArg Flt.code e9
     have z2:(2:Int)=r2:=congrArg Flt.part e9
     have z3:a2=r3:=congrArg Flt.at_ e9
     subst z1 z2 z3
     have r0:=HRU.out.cell 0
     have r1:=HRU.out.cell 1
     have r2:=HRU.out.cell 2
     simp at r0 r1 r2
     have hfr:=HRU.out.frozen
     have hrl:=HRU.out.lt
     clear e9
     go_wp2
     refine bodyPost_ret (v:= .agg #[.int .i64 18, .int .i64 2, .int .i64 a2]) (by simp [results,Tryz.results16,go_sem,r0,r1,r2]) rfl ⟨rfl, ?_⟩
     exact Below.setCell (Below.setCell (Below.setCell HBU.out (by simp) _) (by simp) _) (by simp) _
    ·go_wp2
     go_roundw
     case rel=>exact ⟨3,by omega,by go_num,Lib.hid ⟨fun _=>HG.out.1 (by omega),fun _=>h2,fun h=>absurd h (by omega),fun h=>absurd h (by omega),fun h=>absurd h (by omega)⟩,by first |rfl |trivial⟩
     case measure=>simp [intOf]
   ·have y3:=HLT.out.cell 3
    have yz:=HLT.out.lt
    simp at y3
    by_cases h3:0 <a3
    ·have e9:=HTW.out
     rw [firstTwc_3 (by rw [HA1.out];exact HG.out.1 (by omega)) (by rw [HA2.out];exact HG.out.2.1 (by omega)) (by rw [HA3.out];exact h3),HA3.out] at e9
     have z1:(18:Int)=r1:=congrArg Flt.code e9
     have z2:(3:Int)=r2:=congrArg Flt.part e9
     have z3:a3=r3:=congrArg Flt.at_ e9
     subst z1 z2 z3
     have r0:=HRU.out.cell 0
     have r1:=HRU.out.cell 1
     have r2:=HRU.out.cell 2
     simp at r0 r1 r2
     have hfr:=HRU.out.frozen
     have hrl:=HRU.out.lt
     clear e9
     go_wp2
     refine bodyPost_ret (v:= .agg #[.int .i64 18, .int .i64 3, .int .i64 a3]) (by simp [results,Tryz.results16,go_sem,r0,r1,r2]) rfl ⟨rfl, ?_⟩
     exact Below.setCell (Below.setCell (Below.setCell HBU.out (by simp) _) (by simp) _) (by simp) _
    ·go_wp2
     go_roundw
     case rel=>exact ⟨4,by omega,by go_num,Lib.hid ⟨fun _=>HG.out.1 (by omega),fun _=>HG.out.2.1 (by omega),fun _=>h3,fun h=>absurd h (by omega),fun h=>absurd h (by omega)⟩,by first |rfl |trivial⟩
     case measure=>simp [intOf]
   ·have y4:=HLT.out.cell 4
    have yz:=HLT.out.lt
    simp at y4
    by_cases h4:0 <a4
    ·have e9:=HTW.out
     rw [firstTwc_4 (by rw [HA1.out];exact HG.out.1 (by omega)) (by rw [HA2.out];exact HG.out.2.1 (by omega)) (by rw [HA3.out];exact HG.out.2.2.1 (by omega)) (by rw [HA4.out];exact h4),HA4.out] at e9
     have z1:(18:Int)=r1:=congrArg Flt.code e9
     have z2:(4:Int)=r2:=congrArg Flt.part e9
     have z3:a4=r3:=congrArg Flt.at_ e9
     subst z1 z2 z3
     have r0:=HRU.out.cell 0
     have r1:=HRU.out.cell 1
     have r2:=HRU.out.cell 2
     simp at r0 r1 r2
     have hfr:=HRU.out.frozen
     have hrl:=HRU.out.lt
     clear e9
     go_wp2
     refine bodyPost_ret (v:= .agg #[.int .i64 18, .int .i64 4, .int .i64 a4]) (by simp [results,Tryz.results16,go_sem,r0,r1,r2]) rfl ⟨rfl, ?_⟩
     exact Below.setCell (Below.setCell (Below.setCell HBU.out (by simp) _) (by simp) _) (by simp) _
    ·go_wp2
     go_roundw
     case rel=>exact ⟨5,by omega,by go_num,Lib.hid ⟨fun _=>HG.out.1 (by omega),fun _=>HG.out.2.1 (by omega),fun _=>HG.out.2.2.1 (by omega),fun _=>h4,fun h=>absurd h (by omega)⟩,by first |rfl |trivial⟩
     case measure=>simp [intOf]
   ·have y5:=HLT.out.cell 5
    have yz:=HLT.out.lt
    simp at y5
    by_cases h5:0 <a5
    ·have e9:=HTW.out
     rw [firstTwc_5 (by rw [HA1.out];exact HG.out.1 (by omega)) (by rw [HA2.out];exact HG.out.2.1 (by omega)) (by rw [HA3.out];exact HG.out.2.2.1 (by omega)) (by rw [HA4.out];exact HG.out.2.2.2.1 (by omega)) (by rw [HA5.out];exact h5),HA5.out] at e9
     have z1:(18:Int)=r1:=congrArg Flt.code e9
     have z2:(5:Int)=r2:=congrArg Flt.part e9
     have z3:a5=r3:=congrArg Flt.at_ e9
     subst z1 z2 z3
     have r0:=HRU.out.cell 0
     have r1:=HRU.out.cell 1
     have r2:=HRU.out.cell 2
     simp at r0 r1 r2
     have hfr:=HRU.out.frozen
     have hrl:=HRU.out.lt
     clear e9
     go_wp2
     refine bodyPost_ret (v:= .agg #[.int .i64 18, .int .i64 5, .int .i64 a5]) (by simp [results,Tryz.results16,go_sem,r0,r1,r2]) rfl ⟨rfl, ?_⟩
     exact Below.setCell (Below.setCell (Below.setCell HBU.out (by simp) _) (by simp) _) (by simp) _
    ·go_wp2
     go_roundw
     case rel=>exact ⟨6,by omega,by go_num,Lib.hid ⟨fun _=>HG.out.1 (by omega),fun _=>HG.out.2.1 (by omega),fun _=>HG.out.2.2.1 (by omega),fun _=>HG.out.2.2.2.1 (by omega),fun _=>h5⟩,by first |rfl |trivial⟩
     case measure=>simp [intOf]
   ·have e9:=HTW.out
    rw [firstTwc_6 (by rw [HA1.out];exact HG.out.1 (by omega)) (by rw [HA2.out];exact HG.out.2.1 (by omega)) (by rw [HA3.out];exact HG.out.2.2.1 (by omega)) (by rw [HA4.out];exact HG.out.2.2.2.1 (by omega)) (by rw [HA5.out];exact HG.out.2.2.2.2 (by omega))] at e9
    have HE9:=Lib.hid e9
    clear e9
    obtain ⟨x0,x1,x2,x3,x4,x5⟩:=CU.out.cells
    have xz:=CU.out.z
    generalize wr=U at*
    go_wp2
    clear x0 x1 x2 x3 x4 x5 xz
    obtain ⟨cs,hcs,hrs⟩:=CU.out.R.chans
    have HCS:=Lib.hid hcs
    have HRS:=Lib.hid hrs
    have HDX:=Lib.hid (dests_le HDT.out)
    clear hcs hrs
    go_loopw [7,45] (fun v i wr=> ∃k:Nat,k≤d.chans.length∧i= .int .i64 k∧v= .int .i64 (sumDests (d.chans.take k):Nat)∧Hid (lnkTwc d.chans 0=lnkTwc (d.chans.drop k) (sumDests (d.chans.take k)))∧Hid (Below U.heap.size U wr)) (fun _ i _=>d.chans.length -(intOf i).toNat)
    case atStart=>exact ⟨0,Nat.zero_le _,rfl,rfl,Lib.hid rfl,Lib.hid (Below.refl _ _)⟩
    case round=>
     obtain ⟨k,hk,rfl,rfl,HG,HB⟩:=hrel
     have HRW:=Lib.hid (HRU.out.below HB.out HRU.out.lt)
     by_cases hlt:k <d.chans.length
     ·obtain ⟨x,hx⟩:=get_lt hlt
      obtain ⟨b,o,rfl,hb,g0,g1,D,dd,g2,hd1,hd2,hdr⟩:=chn_at0 HCS.out (HRS.out.up HB.out) hx
      have k0:(0:Int)≤(k:Int):=by omega
      have k1:(k:Int) <(d.chans.length:Int):=by omega
      have hn:=HDX.out x (List.mem_of_getElem? hx)
      have HX:=Lib.hid (lnk_next hx)
      have HSX:=Lib.hid (sumDests_next hx)
      have hsm:sumDests (d.chans.take (k+1))≤4194304:=Nat.le_trans (sumDests_take _ _) HSD.out
      generalize hsk:sumDests (d.chans.take k)=sk at*
      obtain ⟨sn,hsn⟩: ∃sn,sumDests (d.chans.take (k+1))=sn:=⟨_,rfl⟩
      rw [hsn] at hsm HX HSX
      have hss:sn=sk+x.dests.length:=HSX.out
      have HSN:=Lib.hid hsn
      clear hsk hsn hx
      obtain ⟨av,hav⟩: ∃a,adjI (fun d=> [d]) x.dests=a:=⟨_,rfl⟩
      have HAV:=Lib.hid hav
      rw [hav] at HX
      have hab: -1≤av∧av≤4194304:=by
       rcases adj_cases (fun d=> [d]) x.dests with ⟨h1,_⟩ |⟨j,_,h1,h2,_⟩<;>rw [←hav]<;>omega
      clear hav
      have bk:=Blk.new wr 57 #[.int .u16 x.id, .int .u16 x.source, .slice D x.dests.length dd]
      have HW4:=Lib.hid (below_one wr (.cells #[.int .u16 x.id, .int .u16 x.source, .slice D x.dests.length dd] 57))
      go_upto_region 13 with (fail)
      generalize World.alloc wr _=W4 at bk HW4 ⊢
      have HB4:=Lib.hid (Below.then_ HB.out HW4.out)
      have HDR:=Lib.hid ((hdr.up HB.out).up HW4.out)
      have q2:=bk.cell 2
      have qz:=bk.lt
      simp at q2
      generalize wr.heap.size=gx at*
      clear g0 g1 g2 hb
      go_wp2_with fail
      refine (repN_ok x.dests D dd W4 hn HDR.out).mono ?_
      rintro e w5 ⟨rfl,hb5⟩
      rw [HAV.out]
      have HB5:=Lib.hid (Below.then_ HB4.out hb5)
      have HK5:=Lib.hid (bk.below hb5 bk.lt)
      have HR5:=Lib.hid (HRU.out.below HB5.out HRU.out.lt)
      have c2:=HK5.out.cell 2
      have cz:=HK5.out.lt
      simp at c2
      clear hb5 q2 qz bk HW4
      by_cases h0:0≤av
      ·have e9:=HE9.out
       rw [HG.out,HX.out,if_pos h0,if_pos (by omega)] at e9
       have z1:(18:Int)=r1:=congrArg Flt.code e9
       have z2:(6:Int)=r2:=congrArg Flt.part e9
       have z3:(sk:Int)+av=r3:=congrArg Flt.at_ e9
       have HZ3:=Lib.hid z3
       have hw:IntKind.i64.wrap ((sk:Int)+av)=(sk:Int)+av:=by rw [IntKind.wrap_i64];omega
       subst z1 z2
       have r0:=HR5.out.cell 0
       have r1:=HR5.out.cell 1
       have r2:=HR5.out.cell 2
       simp at r0 r1 r2
       have hfr:=HR5.out.frozen
       have hrl:=HR5.out.lt
       clear e9 z3
       go_wp2
       refine bodyPost_ret (v:= .agg #[.int .i64 18, .int .i64 6, .int .i64 ((sk:Int)+av)]) (by simp [results,Tryz.results16,go_sem,r0,r1,r2]) rfl ⟨by rw [←HZ3.out], ?_⟩
       exact Below.setCell (Below.setCell (Below.setCell (Below.then_ HBU.out HB5.out) (by simp) _) (by simp) _) (by simp) _
      ·have hw:IntKind.i64.wrap ((sk:Int)+(x.dests.length:Int))=(sn:Int):=by rw [IntKind.wrap_i64];omega
       have HXN:=Lib.hid (show lnkTwc d.chans 0=lnkTwc (d.chans.drop (k+1)) sn by rw [HG.out,HX.out,if_neg h0])
       go_wp2
       go_roundw
       case rel=>exact ⟨k+1,by omega,by go_num,by rw [HSN.out];congr 1;omega,Lib.hid (by rw [HSN.out];exact HXN.out),HB5⟩
       case measure=>simp [intOf];omega
     ·obtain rfl:k=d.chans.length:=by omega
      have e9:=HE9.out
      rw [HG.out,lnk_end,if_neg (by omega)] at e9
      have z1:(0:Int)=r1:=congrArg Flt.code e9
      have z2:(0:Int)=r2:=congrArg Flt.part e9
      have z3:(0:Int)=r3:=congrArg Flt.at_ e9
      subst z1 z2 z3
      have r0:=HRW.out.cell 0
      have r1:=HRW.out.cell 1
      have r2:=HRW.out.cell 2
      simp at r0 r1 r2
      have hfr:=HRW.out.frozen
      have hrl:=HRW.out.lt
      clear e9
      go_wp2
      refine bodyPost_ret (v:= .agg #[.int .i64 0, .int .i64 0, .int .i64 0]) (by simp [results,Tryz.results16,go_sem,r0,r1,r2]) rfl ⟨rfl, ?_⟩
      exact Below.setCell (Below.setCell (Below.setCell (Below.then_ HBU.out HB.out) (by simp) _) (by simp) _) (by simp) _
end Go.Proofs.YteelncofiodflaaGreat
