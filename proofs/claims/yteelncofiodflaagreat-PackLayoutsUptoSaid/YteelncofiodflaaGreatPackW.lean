/-
  pack.Pack, walked: the image of a configuration, or its fault.
-/
import Derived.BigQuiet
import Derived.Test.YteelncofiodflaaGreatPckL
import Derived.Test.YteelncofiodflaaGreatLnkW
import Derived.Test.YteelncofiodflaaGreatTwcW
import Derived.Test.YteelncofiodflaaGreatConA
import Derived.Test.YteelncofiodflaaGreatCrcA
namespace Go.Proofs.YteelncofiodflaaGreat
open Go.RowKit
theorem offT_lim {n:Nat→Nat} (hl: ∀s,1≤s→s≤6→n s≤limN s): ∀k,k≤6→offT n k≤80+k*57400
 |0,_=>Nat.le_refl _
 |k+1,h=>by
  have h1:=offT_lim hl k (by omega)
  have h2:=(alnN_le (offT n k+n (k+1)*secSz (k+1))).2
  have h3:=hl (k+1) (by omega) h
  have h4:n (k+1)*secSz (k+1)≤limN (k+1)*secSz (k+1):=Nat.mul_le_mul_right _ h3
  have h5:limN (k+1)*secSz (k+1)≤57344:=by
   match k,h with
   |0,_=>decide
   |1,_=>decide
   |2,_=>decide
   |3,_=>decide
   |4,_=>decide
   |5,_=>decide
   |_+6,h=>omega
  show alnN (offT n k+n (k+1)*secSz (k+1))≤_
  omega
theorem lim_cnt {c:Cfg} (h:(limF c).code=0): ∀s,1≤s→s≤6→cntOf c s≤limN s:=by
 intro s h1 h6
 have hn:limBad c=none:=by
  rcases hb:limBad c with _ |k
  ·rfl
  ·exfalso
   have h2:(chkBad c).1=0:=h
   unfold chkBad at h2
   rw [hb] at h2
   exact absurd h2 (show ¬(7:Int)=0 by decide)
 unfold limBad at hn
 have h3:=List.find?_eq_none.1 hn s (by have h9:s=1∨s=2∨s=3∨s=4∨s=5∨s=6:=(by omega);simpa using h9)
 unfold overC at h3
 have h4: ¬limOf s <cntOf c s:=by simpa using h3
 have h5:limOf s=limN s:=by
  have:s=1∨s=2∨s=3∨s=4∨s=5∨s=6:=by omega
  rcases this with rfl |rfl |rfl |rfl |rfl |rfl<;>rfl
 omega
theorem norm_cnt (c:Cfg) (s:Nat):cntOf c.norm s=cntOf c s:=by
 unfold cntOf
 rw [norm_len1,norm_len2,norm_len3,norm_len4,norm_len5]
 have:sumDests c.norm.chans=sumDests c.chans:=by
  have h:=(normK_perm keyChn (c.chans.map sortD))
  rw [←sumDests_sort c.chans]
  exact sumDests_perm h
 rw [this]
theorem sortD_okP {x:Chn} (h:x.ok):(sortD x).ok:=⟨h.id,h.source,fun d hd=>h.dests d (by
 have:d ∈ x.dests.mergeSort (fun a b=>decide (a≤b)):=hd
 exact (List.mergeSort_perm _ _).mem_iff.1 this)⟩
theorem norm_okP {c:Cfg} (h:c.ok):c.norm.ok:=⟨h.frame,fun p hp=>h.parts p ((normK_perm keyPar c.parts).mem_iff.1 hp),fun p hp=>h.wins p ((normK_perm keyWin c.wins).mem_iff.1 hp),fun p hp=>h.regs p ((normK_perm keyReg c.regs).mem_iff.1 hp),fun p hp=>h.ports p ((normK_perm keyPrt c.ports).mem_iff.1 hp),fun p hp=>by
 obtain ⟨y,hy,rfl⟩:=List.mem_map.1 ((normK_perm keyChn _).mem_iff.1 hp)
 exact sortD_okP (h.chans y hy)⟩
theorem hdB_hdT (l:List Chn):(l.map hdT).flatMap hdB3=l.flatMap hdB:=by
 rw [List.flatMap_map]
 congr 1
theorem hdT_ok {l:List Chn} (h: ∀x ∈ l,x.ok): ∀t ∈ l.map hdT,hdOk t:=by
 intro t ht
 obtain ⟨x,hx,rfl⟩:=List.mem_map.1 ht
 exact ⟨(h x hx).id,(h x hx).source,by show wU16 (IntKind.u16.wrap _);unfold wU16;rw [IntKind.wrap_u16];simp [Lit.wf,IntKind.min,IntKind.max,IntKind.signed,IntKind.bits];omega⟩
theorem lk_ok {l:List Chn} (h: ∀x ∈ l,x.ok): ∀t ∈ lksOf l,lkOk t:=by
 intro t ht
 obtain ⟨x,hx,h2⟩:=List.mem_flatMap.1 ht
 obtain ⟨d,hd,rfl⟩:=List.mem_map.1 h2
 exact ⟨(h x hx).id,(h x hx).dests d hd⟩
theorem off_setRow {U:World} {g:Nat} {t:TypeId} {cs:Array Value} (h:Blk U g t cs) (T:Array Value):Off t U (U.setRow g T):=
 ⟨rfl,rfl,rfl,by simp [World.setRow],fun k _ hno=>setRow_other U g k T (fun e=>by subst e;exact hno _ _ h)⟩
theorem BufS.offT {W V:World} {g:Nat} {l:List Nat} {ty:TypeId} (h:BufS W g l) (ho:Off ty W V) (h1:156≠ty) (h2:5≠ty):BufS V g l:=by
 obtain ⟨v,k1,k2⟩:=h.ex
 exact ⟨v,k1.off ho h1,own_off k2 ho h2⟩
theorem cnt_le {c:Cfg} (hl: ∀s,1≤s→s≤6→cntOf c s≤limN s): ∀s,cntOf c s≤1048576:=fun s=>by
 match s with
 |0=>exact Nat.zero_le _
 |1=>exact Nat.le_trans (hl 1 (by decide) (by decide)) (by decide)
 |2=>exact Nat.le_trans (hl 2 (by decide) (by decide)) (by decide)
 |3=>exact Nat.le_trans (hl 3 (by decide) (by decide)) (by decide)
 |4=>exact Nat.le_trans (hl 4 (by decide) (by decide)) (by decide)
 |5=>exact Nat.le_trans (hl 5 (by decide) (by decide)) (by decide)
 |6=>exact Nat.le_trans (hl 6 (by decide) (by decide)) (by decide)
 |_+7=>exact Nat.zero_le _
theorem body_lim {d:Cfg} (hl: ∀s,1≤s→s≤6→cntOf d s≤limN s) (k:Nat) (hk:k≤6):(bodyB d k).length≤400000:=by
 have:=offT_lim hl k hk
 rw [bodyB_len]
 omega
theorem infoFlt3:(Tryz.prog.info? 44).map (·.size)=some 3:=by kernel_rfl
theorem flt_code {F:Flt} {a b d:Int} (h:F=⟨a,b,d⟩):F.code=a:=by rw [h]
set_option maxRecDepth 100000 in
set_option maxHeartbeats 16000000 in
theorem pckPack_ok (c:Cfg) (A1 A2 A3 A4 A5:Option Addr) (c1 c2 c3 c4 c5:Nat) (w:World) (hR:CfgR w w.heap.size c A1 A2 A3 A4 A5 c1 c2 c3 c4 c5) (hok:c.ok) (ht:c.total≤4194304) (F:Flt) (hF:Hid (packF c=F)):
  Calls Tryz.prog 9 #[cfgV c.frame A1 A2 A3 A4 A5 c.parts.length c.wins.length c.regs.length c.ports.length c.chans.length c1 c2 c3 c4 c5] w fun e w'=> ∃v,e= .returned (.tuple #[v,fltV F])∧w'.ownsRow w.heap.size 5 1 v (packB c).length (bytV (packB c))∧Below w.heap.size w w':=by
 obtain ⟨W0,hW,st⟩:=St.start_any hR 29
 have HW:=Lib.hid hW
 have e0:W0.heap.size=w.heap.size+1:=by rw [←hW];simp
 have hres:=Blk.new W0 44 #[.int .i64 0, .int .i64 0, .int .i64 0]
 have hb1:=below_one W0 (.cells #[.int .i64 0, .int .i64 0, .int .i64 0] 44)
 obtain ⟨W1,hW1⟩: ∃W1,W0.alloc (.cells #[.int .i64 0, .int .i64 0, .int .i64 0] 44)=W1:=⟨_,rfl⟩
 rw [hW1] at hres hb1
 rw [e0] at hres
 have HW1:=Lib.hid hW1
 have HRES:=Lib.hid hres
 have ST1:=Lib.hid (st.up hb1)
 have HOK:=Lib.hid hok
 have HT:=Lib.hid ht
 obtain ⟨ec,sc,ic,hchk⟩: ∃ec sc ic,chkBad c=(ec,sc,ic):=⟨_,_,_,rfl⟩
 have HCHK:=Lib.hid hchk
 have hlf:limF c=⟨ec,sc,ic⟩:=by unfold limF;rw [hchk]
 have HLF:=Lib.hid hlf
 clear hR hW st hres hb1 hW1 e0 hok ht hchk hlf
 go_enter Tryz.func9,Tryz.ntmps9
 go_upto_region 1 with (fail)
 rw [HW.out,HW1.out]
 obtain ⟨x0,x1,x2,x3,x4,x5,hz⟩:=ST1.out.cells
 go_wp2_with fail
 refine (confCheck_ok c _ _ _ _ _ _ _ _ _ _ _ ST1.out.R HT.out ec sc ic HCHK).mono ?_
 rintro e w2 ⟨rfl,hb2⟩
 obtain ⟨W3,hW3,hb3,hk3⟩: ∃W,w2.alloc (.cells #[.int .i64 ec, .int .i64 sc, .int .i64 ic] 44)=W∧Below w2.heap.size w2 W∧Blk W w2.heap.size 44 #[.int .i64 ec, .int .i64 sc, .int .i64 ic]:=⟨_,rfl,below_one _ _,Blk.new _ _ _⟩
 have HW3:=Lib.hid hW3
 have ST3:=Lib.hid ((ST1.out.up hb2).up hb3)
 have HR3:=Lib.hid ((HRES.out.below hb2 HRES.out.lt).below hb3 (by have:=HRES.out.lt;have:=hb2.size;omega))
 have HK3:=Lib.hid hk3
 have hfz:w.heap.size+1 <w2.heap.size:=Nat.lt_of_lt_of_le HRES.out.lt hb2.size
 clear x0 x1 x2 x3 x4 x5 hz hb2 hb3 hk3 hW3 HRES ST1 HW HW1
 go_upto_region 2 with (fail)
 rw [HW3.out]
 clear HW3
 generalize w2.heap.size=fb at*
 have p0:=HK3.out.cell 0
 have p1:=HK3.out.cell 1
 have p2:=HK3.out.cell 2
 have pz:=HK3.out.lt
 simp at p0 p1 p2
 by_cases hec:ec=0
 rotate_left
 ·
  have HFF:=Lib.hid (show F=⟨ec,sc,ic⟩ by rw [←hF.out];unfold packF;rw [if_neg (by rw [flt_code HLF.out];exact hec)];exact HLF.out)
  have HPB:=Lib.hid (show packB c= [] by unfold packB;rw [if_neg (by rw [hF.out,flt_code HFF.out];exact hec)])
  have hbe:(ec==0)=false:=beq_eq_false_iff_ne.2 hec
  have q0:=HR3.out.cell 0
  have q1:=HR3.out.cell 1
  have q2:=HR3.out.cell 2
  have qz:=HR3.out.lt
  have qf:=HR3.out.frozen
  simp at q0 q1 q2
  go_upto_region 5 with (fail)
  go_region
  all_goals
   go_wp2
   refine bodyPost_ret (v:= .tuple #[.slice none 0 0, .agg #[.int .i64 ec, .int .i64 sc, .int .i64 ic]]) (by simp [results,Tryz.results9,go_sem,q0,q1,q2]) rfl ⟨_,by rw [HFF.out], ?_, ?_⟩
   ·rw [HPB.out];exact World.ownsRow_nil _ _ _ _
   ·exact Below.setCell (Below.setCell (Below.setCell (below_drewN ST3.out.bel _) (by simp) _) (by simp) _) (by simp) _
 have hl0:limF c=noFlt:=lim_zero c (by rw [flt_code HLF.out];exact hec)
 have hz3:(⟨ec,sc,ic⟩:Flt)=noFlt:=by rw [←HLF.out];exact hl0
 have z1:ec=0:=congrArg Flt.code hz3
 have z2:sc=0:=congrArg Flt.part hz3
 have z3:ic=0:=congrArg Flt.at_ hz3
 clear hz3 hl0 hec
 subst z1 z2 z3
 obtain ⟨t1,t2,t3,htw⟩: ∃t1 t2 t3,twcF c=⟨t1,t2,t3⟩:=⟨_,_,_,rfl⟩
 have HTW:=Lib.hid htw
 have HFF:=Lib.hid (show F=⟨t1,t2,t3⟩ by rw [←hF.out];unfold packF;rw [if_pos (flt_code HLF.out)];exact htw)
 have HCN:=Lib.hid (lim_cnt (c:=c) (flt_code HLF.out))
 clear htw
 obtain ⟨x0,x1,x2,x3,x4,x5,hz⟩:=ST3.out.cells
 go_wp2_with fail
 refine (pckTwice_ok c _ _ _ _ _ _ _ _ _ _ _ ST3.out.R HT.out t1 t2 t3 HTW).mono ?_
 rintro e w4 ⟨rfl,hb4⟩
 have ST4:=Lib.hid (ST3.out.up hb4)
 have HR4:=Lib.hid (HR3.out.below hb4 HR3.out.lt)
 have HK4:=Lib.hid (HK3.out.below hb4 HK3.out.lt)
 clear x0 x1 x2 x3 x4 x5 hz hb4 p0 p1 p2 pz ST3 HR3 HK3
 have p0:=HK4.out.cell 0
 have p1:=HK4.out.cell 1
 have p2:=HK4.out.cell 2
 have pz:=HK4.out.lt
 have pf:=HK4.out.frozen
 simp at p0 p1 p2
 obtain ⟨W5,hW5⟩: ∃W5,((w4.setCell ⟨fb,0,none⟩ (.int .i64 t1)).setCell ⟨fb,1,none⟩ (.int .i64 t2)).setCell ⟨fb,2,none⟩ (.int .i64 t3)=W5:=⟨_,rfl⟩
 have ST5:=Lib.hid (show St w W5 c A1 A2 A3 A4 A5 c1 c2 c3 c4 c5 by rw [←hW5];exact ST4.out.keep ((((Below.refl (w.heap.size+1) w4).setCell (p:=⟨fb,0,none⟩) (show w.heap.size+1≤fb by omega) _).setCell (p:=⟨fb,1,none⟩) (show w.heap.size+1≤fb by omega) _).setCell (p:=⟨fb,2,none⟩) (show w.heap.size+1≤fb by omega) _))
 have HR5:=Lib.hid (show Blk W5 (w.heap.size+1) 44 #[.int .i64 0, .int .i64 0, .int .i64 0] by rw [←hW5];exact ((HR4.out.far (p:=⟨fb,0,none⟩) (show w.heap.size+1≠fb by omega) _).far (p:=⟨fb,1,none⟩) (show w.heap.size+1≠fb by omega) _).far (p:=⟨fb,2,none⟩) (show w.heap.size+1≠fb by omega) _)
 have HK5:=Lib.hid (show Blk W5 fb 44 #[.int .i64 t1, .int .i64 t2, .int .i64 t3] by rw [←hW5];have:=((HK4.out.set_ 0 (.int .i64 t1)).set_ 1 (.int .i64 t2)).set_ 2 (.int .i64 t3);simpa using this)
 have HW5:=Lib.hid hW5
 clear hW5
 go_upto_region 4 with (fail)
 rw [HW5.out]
 clear p0 p1 p2 pz pf ST4 HR4 HK4 HW5
 have p0:=HK5.out.cell 0
 have p1:=HK5.out.cell 1
 have p2:=HK5.out.cell 2
 have pz:=HK5.out.lt
 simp at p0 p1 p2
 by_cases htc:t1=0
 rotate_left
 ·have HPB:=Lib.hid (show packB c= [] by unfold packB;rw [if_neg (by rw [hF.out,flt_code HFF.out];exact htc)])
  have hbe:(t1==0)=false:=beq_eq_false_iff_ne.2 htc
  have q0:=HR5.out.cell 0
  have q1:=HR5.out.cell 1
  have q2:=HR5.out.cell 2
  have qz:=HR5.out.lt
  have qf:=HR5.out.frozen
  simp at q0 q1 q2
  go_upto_region 5 with (fail)
  go_region
  all_goals
   go_wp2
   refine bodyPost_ret (v:= .tuple #[.slice none 0 0, .agg #[.int .i64 t1, .int .i64 t2, .int .i64 t3]]) (by simp [results,Tryz.results9,go_sem,q0,q1,q2]) rfl ⟨_,by rw [HFF.out], ?_, ?_⟩
   ·rw [HPB.out];exact World.ownsRow_nil _ _ _ _
   ·exact Below.setCell (Below.setCell (Below.setCell (below_drewN ST5.out.bel _) (by simp) _) (by simp) _) (by simp) _
 have htz:twcF c=noFlt:=twc_zero _ (by show (twcF c).code=0;rw [flt_code HTW.out];exact htc)
 have hz3:(⟨t1,t2,t3⟩:Flt)=noFlt:=by rw [←HTW.out];exact htz
 have z1:t1=0:=congrArg Flt.code hz3
 have z2:t2=0:=congrArg Flt.part hz3
 have z3:t3=0:=congrArg Flt.at_ hz3
 clear hz3 htz htc
 subst z1 z2 z3
 obtain ⟨d,hd⟩: ∃d,c.norm=d:=⟨_,rfl⟩
 have HD:=Lib.hid hd
 have HDT:=Lib.hid (show d.total≤4194304 by rw [←hd,norm_total];exact HT.out)
 have HDO:=Lib.hid (show d.ok by rw [←hd];exact norm_okP HOK.out)
 have HDC:=Lib.hid (show ∀s,1≤s→s≤6→cntOf d s≤limN s by intro s h1 h6;rw [←hd,norm_cnt];exact HCN.out s h1 h6)
 have HPB:=Lib.hid (show packB c=imgB d by unfold packB;rw [if_pos (by rw [hF.out,flt_code HFF.out]),hd])
 clear hd
 obtain ⟨x0,x1,x2,x3,x4,x5,hz⟩:=ST5.out.cells
 go_wp2_with fail
 refine (normalD_ok c d HD _ _ _ _ _ _ _ _ _ _ _ ST5.out.R HT.out).mono ?_
 rintro e w6 ⟨B1,B2,B3,B4,B5,d1,d2,d3,d4,d5,rfl,hP,hb6⟩
 obtain ⟨W7,hW7,hbx,hb7⟩:=CBx.new hP 29
 have HW7:=Lib.hid hW7
 have CB7:=Lib.hid hbx
 have HR7:=Lib.hid ((HR5.out.below hb6 HR5.out.lt).below hb7 (by have:=HR5.out.lt;have:=hb6.size;omega))
 have HK7:=Lib.hid ((HK5.out.below hb6 HK5.out.lt).below hb7 (by have:=HK5.out.lt;have:=hb6.size;omega))
 have HB7:=Lib.hid (Below.then_ (Below.then_ ST5.out.bel hb6) hb7)
 clear x0 x1 x2 x3 x4 x5 hz hb6 hb7 hbx hW7 hP p0 p1 p2 pz ST5 HR5 HK5
 go_upto_region 7 with (fail)
 rw [HW7.out]
 clear HW7
 generalize w6.heap.size=g at*
 obtain ⟨T,hT⟩: ∃T,tabCl d.frame (cntOf d)=T:=⟨_,rfl⟩
 have HT2:=Lib.hid hT
 have hTs:T.size=16:=by rw [←hT];rfl
 have HT1:=Lib.hid (show T.all (·.oneCell')=true by rw [←hT];simp [tabCl,Value.oneCell'])
 have HTI:=Lib.hid (show (Tryz.prog.info? 34).map (·.size)=some T.size by rw [hTs];kernel_rfl)
 have HTZ:=Lib.hid (show tabZ.size=T.size by rw [hTs];rfl)
 have HLY:=Lib.hid (fun (U:World) (h:CfgR U U.heap.size d B1 B2 B3 B4 B5 d1 d2 d3 d4 d5)=>pckLayout_ok d _ _ _ _ _ _ _ _ _ _ _ h HDT.out HDO.out.frame HDC.out)
 rw [hT] at HLY
 clear hT hTs
 obtain ⟨x0,x1,x2,x3,x4,x5⟩:=CB7.out.cells
 have hz:=CB7.out.z
 go_wp2_with fail
 refine (HLY.out _ CB7.out.R).mono ?_
 rintro e w8 ⟨rfl,hb8⟩
 obtain ⟨W9,hW9⟩: ∃W9,(w8.alloc (.cells tabZ 34)).setRow w8.heap.size T=W9:=⟨_,rfl⟩
 have hb9:Below w8.heap.size w8 W9:=by rw [←hW9];exact below_setRow (below_one _ _) (Nat.le_refl _) _
 have HBN:=Lib.hid (Blk.new w8 34 tabZ)
 have HTB:=Lib.hid (show Blk W9 w8.heap.size 34 T by rw [←hW9];exact setRow_blk HBN.out T)
 have CB9:=Lib.hid ((CB7.out.up hb8).up hb9)
 have HR9:=Lib.hid ((HR7.out.below hb8 HR7.out.lt).below hb9 (by have:=HR7.out.lt;have:=hb8.size;omega))
 have HK9:=Lib.hid ((HK7.out.below hb8 HK7.out.lt).below hb9 (by have:=HK7.out.lt;have:=hb8.size;omega))
 have HB9:=Lib.hid (Below.then_ (Below.then_ HB7.out hb8) hb9)
 have HW9:=Lib.hid hW9
 clear x0 x1 x2 x3 x4 x5 hz hb8 hb9 hW9 CB7 HR7 HK7 HB7 HLY
 go_upto_region 8 with (refine wpList_store_row rfl 34 (.tmp 6) (.tmp 27) rfl w8.heap.size T rfl rfl _ _ HBN.out HTI.out HTZ.out HT1.out ?_;rw [HW9.out])
 clear HBN HW9
 generalize w8.heap.size=tb at*
 obtain ⟨cs,hcs,hrs⟩:=CB9.out.R.chans
 have HCS:=Lib.hid hcs
 have HRS:=Lib.hid hrs
 have hcl:d.chans.length≤4194304:=by have:=HDT.out;unfold Cfg.total at this;omega
 have hcd:sumDests d.chans≤4194304:=by have:=HDT.out;unfold Cfg.total at this;omega
 have HDD:=Lib.hid (dests_le HDT.out)
 clear hcs hrs
 obtain ⟨x0,x1,x2,x3,x4,x5⟩:=CB9.out.cells
 have hz:=CB9.out.z
 go_wp2_with fail
 refine (pLinks_ok d.chans cs B5 d5 W9 HCS.out HRS.out hcl hcd HDD.out).mono ?_
 rintro e w10 ⟨v1,v2,rfl,hv1,hv2,hb10⟩
 obtain ⟨D1,e1,rfl,_,_,hrd1⟩:=own_form hv1
 obtain ⟨D2,e2,rfl,_,_,hrd2⟩:=own_form hv2
 have HRD1:=Lib.hid hrd1
 have HRD2:=Lib.hid hrd2
 have CB10:=Lib.hid (CB9.out.up hb10)
 have HR10:=Lib.hid (HR9.out.below hb10 HR9.out.lt)
 have HK10:=Lib.hid (HK9.out.below hb10 HK9.out.lt)
 have HT10:=Lib.hid (HTB.out.below hb10 HTB.out.lt)
 have HB10:=Lib.hid (Below.then_ HB9.out hb10)
 clear x0 x1 x2 x3 x4 x5 hz hb10 hv1 hv2 hrd1 hrd2 CB9 HR9 HK9 HB9 HTB HCS HRS HDD
 go_wp2_with fail
 refine (bNew_ok w10).mono ?_
 rintro e w11 ⟨rfl,hs11,hb11⟩
 have HS:=Lib.hid hs11
 have HBV:=Lib.hid hb11
 have hgb:w.heap.size≤w10.heap.size:=HB10.out.size
 have hgz:=CB10.out.z
 have hfz:=HK10.out.lt
 have hrz:=HR10.out.lt
 have htz:=HT10.out.lt
 clear hs11 hb11
 obtain ⟨gb,hgb2⟩: ∃gb,w10.heap.size=gb:=⟨_,rfl⟩
 rw [hgb2] at HS HBV hgb hgz hfz hrz htz
 have HGB:=Lib.hid hgb2
 go_upto_region 10 with (fail)
 clear hgb2
 have HT11:=Lib.hid (HT10.out.below HBV.out htz)
 go_wp2_with (refine wpList_load_row rfl 34 (.tmp 6) rfl tb rfl _ _ _ _ HT11.out Tryz.underlying34 rfl HTI.out ?_)
 rw [←HT2.out]
 refine (tabPut_ok gb [] d.frame (cntOf d) HDO.out.frame (cnt_le HDC.out) w11 HS.out (by simp)).mono ?_
 rintro e v0 ⟨rfl,h5,h6⟩
 have HS:=Lib.hid (show BufS v0 gb (bodyB d 0) from h5)
 have HBV:=Lib.hid (HBV.out.trans h6.bel)
 clear h5 h6 HT11
 have x1:=(HBV.out.cell (p:=⟨g,1,none⟩) hgz).trans CB10.out.x1
 have xz:g <v0.heap.size:=by have:=HS.out.lt;omega
 go_wp2_with fail
 refine (pPutPar_ok gb (bodyB d 0) d.parts HDO.out.parts B1 d1 v0 HS.out (by have h:=CB10.out.R.parts;rw [HGB.out] at h;exact h.below HBV.out) (by have h1:=body_lim HDC.out 0 (by decide);have h2:=HDC.out 1 (by decide) (by decide);have h3:d.parts.length≤limN 1:=h2;have h4:limN 1≤1024:=(by decide);omega)).mono ?_
 rintro e v1 ⟨rfl,h5,h6⟩
 have HS:=Lib.hid (show BufS v1 gb (bodyB d 1) from h5)
 have HBV:=Lib.hid (HBV.out.trans h6.bel)
 clear h5 h6 x1 xz
 have x1:=(HBV.out.cell (p:=⟨g,2,none⟩) hgz).trans CB10.out.x2
 have xz:g <v1.heap.size:=by have:=HS.out.lt;omega
 go_wp2_with fail
 refine (pPutWin_ok gb (bodyB d 1) d.wins HDO.out.wins B2 d2 v1 HS.out (by have h:=CB10.out.R.wins;rw [HGB.out] at h;exact h.below HBV.out) (by have h1:=body_lim HDC.out 1 (by decide);have h2:=HDC.out 2 (by decide) (by decide);have h3:d.wins.length≤limN 2:=h2;have h4:limN 2≤1024:=(by decide);omega)).mono ?_
 rintro e v2 ⟨rfl,h5,h6⟩
 have HS:=Lib.hid (show BufS v2 gb (bodyB d 2) from h5)
 have HBV:=Lib.hid (HBV.out.trans h6.bel)
 clear h5 h6 x1 xz
 have x1:=(HBV.out.cell (p:=⟨g,3,none⟩) hgz).trans CB10.out.x3
 have xz:g <v2.heap.size:=by have:=HS.out.lt;omega
 go_wp2_with fail
 refine (pPutReg_ok gb (bodyB d 2) d.regs HDO.out.regs B3 d3 v2 HS.out (by have h:=CB10.out.R.regs;rw [HGB.out] at h;exact h.below HBV.out) (by have h1:=body_lim HDC.out 2 (by decide);have h2:=HDC.out 3 (by decide) (by decide);have h3:d.regs.length≤limN 3:=h2;have h4:limN 3≤1024:=(by decide);omega)).mono ?_
 rintro e v3 ⟨rfl,h5,h6⟩
 have HS:=Lib.hid (show BufS v3 gb (bodyB d 3) from h5)
 have HBV:=Lib.hid (HBV.out.trans h6.bel)
 clear h5 h6 x1 xz
 have x1:=(HBV.out.cell (p:=⟨g,4,none⟩) hgz).trans CB10.out.x4
 have xz:g <v3.heap.size:=by have:=HS.out.lt;omega
 go_wp2_with fail
 refine (pPutPrt_ok gb (bodyB d 3) d.ports HDO.out.ports B4 d4 v3 HS.out (by have h:=CB10.out.R.ports;rw [HGB.out] at h;exact h.below HBV.out) (by have h1:=body_lim HDC.out 3 (by decide);have h2:=HDC.out 4 (by decide) (by decide);have h3:d.ports.length≤limN 4:=h2;have h4:limN 4≤1024:=(by decide);omega)).mono ?_
 rintro e v4 ⟨rfl,h5,h6⟩
 have HS:=Lib.hid (show BufS v4 gb (bodyB d 4) from h5)
 have HBV:=Lib.hid (HBV.out.trans h6.bel)
 clear h5 h6 x1 xz
 have hph:=pPutHd_ok gb (bodyB d 4) (d.chans.map hdT) (hdT_ok HDO.out.chans) D1 e1 v4 HS.out (by have h:=HRD1.out;rw [HGB.out] at h;have h2:(d.chans.map hdT).length=d.chans.length:=List.length_map _;rw [h2];exact h.below HBV.out) (by rw [List.length_map];have h1:=body_lim HDC.out 4 (by decide);have h2:d.chans.length≤limN 5:=HDC.out 5 (by decide) (by decide);have h4:limN 5≤1024:=(by decide);omega)
 rw [show (d.chans.map hdT).length=d.chans.length from List.length_map _] at hph
 have HPH:=Lib.hid hph
 clear hph
 go_wp2_with fail
 refine HPH.out.mono ?_
 rintro e v5 ⟨rfl,h5,h6⟩
 have HS:=Lib.hid (show BufS v5 gb (bodyB d 5) by rw [hdB_hdT] at h5;exact h5)
 have HBV:=Lib.hid (HBV.out.trans h6.bel)
 clear h5 h6
 go_wp2_with fail
 refine (pPutLk_ok gb (bodyB d 5) (lksOf d.chans) (lk_ok HDO.out.chans) D2 e2 v5 HS.out (by have h:=HRD2.out;rw [HGB.out] at h;exact h.below HBV.out) (by rw [lksOf_len];have h1:=body_lim HDC.out 5 (by decide);have h2:sumDests d.chans≤limN 6:=HDC.out 6 (by decide) (by decide);have h4:limN 6≤1024:=(by decide);omega)).mono ?_
 rintro e v6 ⟨rfl,h5,h6⟩
 have HS:=Lib.hid (show BufS v6 gb (bodyB d 6) from h5)
 have HBV:=Lib.hid (HBV.out.trans h6.bel)
 clear h5 h6
 have HR6:=Lib.hid (HR10.out.below HBV.out hrz)
 have HK6:=Lib.hid (HK10.out.below HBV.out hfz)
 have HB6:=Lib.hid (HB10.out.trans (HBV.out.mono hgb))
 have HIM:=Lib.hid (show imgB d=sealN (bodyB d 6) from rfl)
 have HLB:=Lib.hid (body_lim HDC.out 6 (by decide))
 have HBB:=Lib.hid (bodyB_byte d 6)
 clear HBV HR10 HK10 HB10 HT10 CB10 HRD1 HRD2
 generalize bodyB d 6=L at*
 go_upto_region 17 with (fail)
 refine wp_region_M 61 4 2 4 5 _ _ rfl (.inl rfl) (.inr rfl) (by decide) rfl rfl rfl rfl (by decide) (by kernel_rfl) (by kernel_rfl) (by kernel_rfl) (by kernel_rfl) (Nat.le_of_ble_eq_true (by kernel_rfl))
  [.pointer (some ⟨gb,0,none⟩),undef,undef, .agg #[.int .i64 0, .int .i64 0, .int .i64 0],undef,undef]
  (fun i=>i==1||i==2||i==4) (fun i v U=>(i=1→U.ownsRow w.heap.size 5 1 v L.length (bytV L))∧(i≠1→U.ownsRow w.heap.size 5 1 v (sealN L).length (bytV (sealN L))))
  (fun U=>BufS U gb L∧Blk U fb 44 #[.int .i64 0, .int .i64 0, .int .i64 0]∧(∃cs,Blk U (w.heap.size+1) 44 cs∧cs.size=3)∧Below w.heap.size w U) (fun U=>Blk U (w.heap.size+1) 44 #[.int .i64 0, .int .i64 0, .int .i64 0]) (fun U V=>Off 44 U V)
  ⟨HS.out.up (Below.refl _ _).drew,HK6.out.below (Below.refl _ _).drew HK6.out.lt,⟨_,HR6.out.below (Below.refl _ _).drew HR6.out.lt,rfl⟩,HB6.out.drew⟩
  (fun U V ⟨h1,h2,⟨cs,h3,h4⟩,h5⟩ hb=>⟨h1.up hb,h2.below hb h2.lt,⟨cs,h3.below hb h3.lt,h4⟩,Below.then_ h5 hb⟩) (fun U V hk hb=>hk.below hb hk.lt)
  (fun _ v U V _ hv hb=>⟨fun e=>own_below (hv.1 e) hb,fun e=>own_below (hv.2 e) hb⟩) (fun _ v U V _ _ hv ho=>⟨fun e=>own_off (hv.1 e) ho (by decide),fun e=>own_off (hv.2 e) ho (by decide)⟩) ?hop ?hstore ?hend
 case hop=>
  rintro i o ho hne U ⟨hs,hk,hc,hbl⟩ ρ r0 rf r1 r2
  match i,ho with
  |0,ho=>
   cases ho
   have q10:=r1 10 (by decide) (by decide)
   refine RunsTo.val _ (V:=U) ?_ ⟨Below.refl _ _,SC.ofV rfl⟩
   simp only [execOp]
   go_simp
  |1,ho=>
   cases ho
   have q61:ρ (.tmp (61+0))=_:=(r2 {on:=0,ground:= .data} (by simp) rfl (by decide)).val rfl
   refine RunsTo.call (V:=U) 34 #[.pointer (some ⟨gb,0,none⟩)] ?_ ?_
   ·simp only [execOp]
    go_simp
   ·refine (bBytes_ok gb L U hs (by have:=HLB.out;omega)).mono ?_
    rintro e V ⟨v,rfl,hv,hb⟩
    exact ⟨_,rfl,hb,SC.ofP rfl ⟨fun _=>own_lessB hv hbl.size,fun e=>absurd rfl e⟩⟩
  |2,ho=>
   cases ho
   have q62:=((r2 {on:=1,ground:= .data} (by simp) rfl (by decide)).got rfl).1 rfl
   obtain ⟨D,dd,hq,_,_,hrd⟩:=own_form q62
   have q62:ρ (.tmp (61+1))=_:=hq
   refine RunsTo.call (V:=U) 33 #[.slice D L.length dd] ?_ ?_
   ·simp only [execOp]
    go_simp
   ·refine (crcSeal_ok L L.length rfl D dd U HBB.out (by have:=HLB.out;omega) hrd).mono ?_
    rintro e V ⟨v,rfl,hv,hb⟩
    exact ⟨_,rfl,hb,SC.ofP rfl ⟨(fun e=>by cases e),fun _=>own_lessB hv hbl.size⟩⟩
  |3,ho=>
   cases ho
   have q4:=r1 4 (by decide) (by decide)
   have p0:=hk.cell 0
   have p1:=hk.cell 1
   have p2:=hk.cell 2
   have pz:=hk.lt
   simp at p0 p1 p2
   refine RunsTo.val _ (V:=U) ?_ ⟨Below.refl _ _,SC.ofV rfl⟩
   simp only [execOp]
   go_simp
  |4,ho=>
   cases ho
   have q63:=((r2 {on:=2,ground:= .data} (by simp) rfl (by decide)).got rfl).2 (by decide)
   refine RunsTo.val (ρ (.tmp (61+2))) (V:=U) ?_ ⟨Below.refl _ _,SC.ofP rfl ⟨(fun e=>by cases e),fun _=>q63⟩⟩
   simp only [execOp]
   go_simp
  |5,ho=>exact absurd rfl hne
  |k+6,ho=>exact absurd ho (by simp)
 case hstore=>
  rintro os ho U ⟨hs,hk,⟨cs,hc,hcz⟩,hbl⟩ ρ r0 r1 r2
  cases ho
  have q3:ρ (.tmp 3)= .pointer (some ⟨w.heap.size+1,0,none⟩):=r1 3 (by decide) (by decide)
  have q64:ρ (.tmp (61+3))=_:=(r2 {on:=3,ground:= .data} (by simp) rfl (by decide)).val rfl
  have q64:ρ (.tmp 64)= .agg #[.int .i64 0, .int .i64 0, .int .i64 0]:=q64
  have hof:=off_setRow hc #[.int .i64 0, .int .i64 0, .int .i64 0]
  have hbn:=setRow_blk hc #[.int .i64 0, .int .i64 0, .int .i64 0]
  have hfk:Blk (U.setRow (w.heap.size+1) #[.int .i64 0, .int .i64 0, .int .i64 0]) fb 44 #[.int .i64 0, .int .i64 0, .int .i64 0]:=(setRow_other U (w.heap.size+1) fb _ (by omega)).trans hk
  refine ⟨U.setRow (w.heap.size+1) #[.int .i64 0, .int .i64 0, .int .i64 0], ?_,⟨hs.offT hof (by decide) (by decide),hfk,⟨_,hbn,rfl⟩,below_setRow hbl (Nat.le_succ _) _⟩,hof,hbn⟩
  simp only [List.getElem_toArray,List.getElem_cons_succ,List.getElem_cons_zero,execOp,q3,q64,Instr.storeAt,Instr.sureAddr,Sem.run_bind,Sem.run_pure,Result.andThen_ok,run_storeVar_row U (w.heap.size+1) _ 44 cs #[.int .i64 0, .int .i64 0, .int .i64 0] hc infoFlt3 hcz (by simp [Value.oneCell'])]
 case hend=>
  rintro u U ⟨_,_,_,hbl⟩ hk hS
  have e4:=((hS 4 (by decide) (by decide)).got rfl).2 (by decide)
  have HO4:=Lib.hid e4
  have HZ:=Lib.hid hbl
  have q0:=hk.cell 0
  have q1:=hk.cell 1
  have q2:=hk.cell 2
  have qz:=hk.lt
  simp at q0 q1 q2
  clear hS hbl hk e4
  simp only [mkM,mkL,mkAt,List.take_succ_cons,List.take_zero,List.drop_succ_cons,List.drop_nil,List.range,List.range.loop,List.map_cons,List.map_nil,List.cons_append,List.nil_append,List.append_nil,List.setIfInBounds_toArray,List.set_cons_succ,List.set_cons_zero,if_true]
  obtain ⟨D,dd,hq,_,_,_⟩:=own_form HO4.out
  rw [hq] at HO4 ⊢
  go_wp2
  refine bodyPost_ret (v:= .tuple #[.slice D (sealN L).length dd, .agg #[.int .i64 0, .int .i64 0, .int .i64 0]]) (by simp [results,Tryz.results9,go_sem,q0,q1,q2]) rfl ⟨_,by rw [HFF.out], ?_,HZ.out⟩
  rw [HPB.out,HIM.out]
  exact HO4.out
end Go.Proofs.YteelncofiodflaaGreat
