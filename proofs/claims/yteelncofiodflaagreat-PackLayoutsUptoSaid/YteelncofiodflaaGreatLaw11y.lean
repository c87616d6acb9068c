/-
  The law PackLayouts, walked.
-/
import Derived.BigQuiet
import Derived.Deep.WholeRow
import Derived.Test.YteelncofiodflaaGreatAlive11
import Derived.Test.YteelncofiodflaaGreatTabG
import Derived.Test.YteelncofiodflaaGreatRefL
import Derived.Test.YteelncofiodflaaGreatEqT
namespace Go.Proofs.YteelncofiodflaaGreat
open Go.RowKit Go.Lib
attribute [local go_sem] eq7_run
theorem few_totY {c:Cfg} (h:few c=true):c.total≤120:=by
 unfold few at h
 simp only [Bool.and_eq_true,decide_eq_true_eq] at h
 exact h.2
theorem cnt_few {c:Cfg} (h:c.total≤120): ∀s,cntOf c s≤120:=by
 unfold Cfg.total at h
 intro s
 match s with
 |0=>exact Nat.zero_le _
 |1=>show c.parts.length≤120;omega
 |2=>show c.wins.length≤120;omega
 |3=>show c.regs.length≤120;omega
 |4=>show c.ports.length≤120;omega
 |5=>show c.chans.length≤120;omega
 |6=>show sumDests c.chans≤120;omega
 |_+7=>exact Nat.zero_le _
def layS (q:Nat) (c:Cfg) (V0:Value) (T:Array Value) (b:Bool):Nat→(Nat→Value)→World→Prop
 |0,u,_=>u 0= .pointer (some ⟨q,0,none⟩)
 |1,u,_=>u 1= .int .u64 c.frame
 |2,u,_=>u 2=V0
 |3,u,_=>u 3= .agg (cntCl (cntOf c))
 |4,u,_=>u 4= .tuple #[.agg T, .bool b]
 |5,u,_=>u 5= .tuple #[.agg T, .bool b]
 |6,u,_=>u 6= .agg T
 |7,u,_=>u 7= .bool b
 |8,u,W=> ∃g,u 8= .pointer (some ⟨g,0,none⟩)∧q+1≤g∧ ∃cs,Blk W g 37 cs∧cs.size=16
 |9,u,W=> ∃g,u 8= .pointer (some ⟨g,0,none⟩)∧q+1≤g∧Blk W g 37 T
 |10,u,_=>u 10= .bool b
 |_,_,_=>True
def Tab16 (T:Array Value) (tt:Int):Prop:= ∃f o0 o1 o2 o3 o4 o5 o6 n0 n1 n2 n3 n4 n5 n6:Int,T= #[.int .u64 f, .int .i64 tt, .int .i64 o0, .int .i64 o1, .int .i64 o2, .int .i64 o3, .int .i64 o4, .int .i64 o5, .int .i64 o6, .int .i64 n0, .int .i64 n1, .int .i64 n2, .int .i64 n3, .int .i64 n4, .int .i64 n5, .int .i64 n6]
theorem lay_ex (c:Cfg) (hok:c.ok) (h:c.total≤120): ∃T b tt,Tab16 T tt∧(∀U,Calls Tryz.prog 10 #[.int .u64 c.frame, .agg (cntCl (cntOf c))] U fun e w'=>e= .returned (.tuple #[.agg T, .bool b])∧Below U.heap.size U w')
  ∧(∀U,Calls Tryz.prog 7 #[.int .u64 c.frame, .agg (cntCl (cntOf c))] U fun e w'=>e= .returned (.tuple #[.agg T, .bool b])∧Below U.heap.size U w')∧((packF c).code=0→((packB c).length:Int)=tt):=by
 have hc:=cnt_few h
 have hn: ∀s,cntOf c s≤1048576:=fun s=>Nat.le_trans (hc s) (by decide)
 have hl2: ∀s,2≤s→s≤6→cntOf c s≤limN s:=fun s h2 h6=>by
  have h9:120≤limN s:=by
   obtain rfl |rfl |rfl |rfl |rfl:s=2∨s=3∨s=4∨s=5∨s=6:=by omega
   all_goals decide
  exact Nat.le_trans (hc s) h9
 by_cases h1:cntOf c 1≤64
 ·have hl: ∀s,1≤s→s≤6→cntOf c s≤limN s:=fun s a b=>by
   by_cases hs:s=1
   ·subst hs;exact h1
   ·exact hl2 s (by omega) b
  refine ⟨tabCl c.frame (cntOf c),true,_,⟨_,_,_,_,_,_,_,_,_,_,_,_,_,_,_,rfl⟩,fun U=>tabFor_ok c.frame (cntOf c) hok.frame hn hl U,fun U=>rFor_ok c.frame (cntOf c) hn hl U,fun hp=> ?_⟩
  have:packB c=imgB c.norm:=if_pos hp
  rw [this,imgB_len,show cntOf c.norm=cntOf c from funext (norm_cnt c)]
 ·refine ⟨tabZ,false,0,⟨_,_,_,_,_,_,_,_,_,_,_,_,_,_,_,rfl⟩,fun U=>tabForBad_ok c.frame (cntOf c) hok.frame hn hl2 (by omega) U,fun U=>rForBad_ok c.frame (cntOf c) (hn 1) (by omega) U,fun hp=> ?_⟩
  exfalso
  have:=lim_cnt (c:=c) (by rw [(packF_zero c hp).2.1];rfl) 1 (by decide) (by decide)
  exact h1 this
set_option maxRecDepth 100000 in
set_option maxHeartbeats 16000000 in
theorem packLayouts_ok (c:Cfg) (A1 A2 A3 A4 A5:Option Addr) (c1 c2 c3 c4 c5:Nat) (w:World) (hR:CfgR w w.heap.size c A1 A2 A3 A4 A5 c1 c2 c3 c4 c5) (hs:c.small) (hok:c.ok):Calls Tryz.prog 3 #[cfgV c.frame A1 A2 A3 A4 A5 c.parts.length c.wins.length c.regs.length c.ports.length c.chans.length c1 c2 c3 c4 c5] w fun e w'=>e= .returned (.bool true)∧Below w.heap.size w w':=by
 obtain ⟨W0,hW,st⟩:=St.start_any hR 29
 have HW:=Lib.hid hW
 have ST0:=Lib.hid st
 have HOK:=Lib.hid hok
 have HSM:=Lib.hid hs
 have HTT:=Lib.hid hs.tot
 obtain ⟨x0,x1,x2,x3,x4,x5,hz⟩:=st.cells
 clear hR hW st hok
 rcases bool_cases (few c) with h1 |h1
 rotate_left
 ·have H1:=Lib.hid h1
  clear h1
  go_enter Tryz.func3,Tryz.ntmps3
  go_upto_region 1 with (fail)
  rw [HW.out]
  go_wp2_with fail
  refine (few_valB c _ _ _ _ _ _ _ _ _ _ _ ST0.out.R hs false H1).mono ?_
  rintro e w1 ⟨rfl,hb1⟩
  have HB1:=Lib.hid (ST0.out.up hb1).bel
  clear hb1 x0 x1 x2 x3 x4 x5 hz
  go_wp2_with fail
  refine (alive11_ok _).mono ?_
  rintro e w2 ⟨rfl,hb2⟩
  have HZ:=Lib.hid (Below.then_ HB1.out hb2)
  clear hb2
  go_wp2
  go_ret
  exact ⟨rfl,HZ.out⟩
 ·have H1:=Lib.hid h1
  obtain ⟨T,b,tt,hT16,hF1,hF2,hlen⟩:=lay_ex c HOK.out (few_totY h1)
  have HF1:=Lib.hid hF1
  have HFO:=Lib.hid hF2
  have HLEN:=Lib.hid hlen
  have H16:=Lib.hid hT16
  have HTS:=Lib.hid (show T.size=16 by obtain ⟨_,_,_,_,_,_,_,_,_,_,_,_,_,_,_,rfl⟩:=hT16;rfl)
  have HT1:=Lib.hid (show T.all (·.oneCell')=true by obtain ⟨_,_,_,_,_,_,_,_,_,_,_,_,_,_,_,rfl⟩:=hT16;simp [Value.oneCell'])
  have HTI:=Lib.hid (show (Tryz.prog.info? 37).map (·.size)=some T.size by rw [HTS.out];kernel_rfl)
  have HTJ:=Lib.hid (show (Tryz.prog.info? 34).map (·.size)=some T.size by rw [HTS.out];kernel_rfl)
  clear h1 hF1 hF2 hlen hT16
  obtain ⟨F,hF⟩: ∃F,packF c=F:=⟨_,rfl⟩
  have HF:=Lib.hid hF
  rw [hF] at HLEN
  clear hF
  go_enter Tryz.func3,Tryz.ntmps3
  go_upto_region 1 with (fail)
  rw [HW.out]
  go_wp2_with fail
  refine (few_valB c _ _ _ _ _ _ _ _ _ _ _ ST0.out.R hs true H1).mono ?_
  rintro e w1 ⟨rfl,hb1⟩
  have ST1:=Lib.hid (ST0.out.up hb1)
  clear hb1 x0 x1 x2 x3 x4 x5 hz
  obtain ⟨x0,x1,x2,x3,x4,x5,hz⟩:=ST1.out.cells
  go_wp2_with fail
  refine (pckLayout_gen c _ _ _ _ _ _ _ _ _ _ _ ST1.out.R HTT.out T b HTS.out HT1.out HF1.out).mono ?_
  rintro e w2 ⟨rfl,hb2⟩
  have ST2:=Lib.hid (ST1.out.up hb2)
  obtain ⟨W3,hW3⟩: ∃W,(w2.alloc (.cells tabZ 34)).setRow w2.heap.size T=W:=⟨_,rfl⟩
  have hb3:Below w2.heap.size w2 W3:=by rw [←hW3];exact below_setRow (below_one _ _) (Nat.le_refl _) _
  have HBN:=Lib.hid (Blk.new w2 34 tabZ)
  have hk:Blk W3 w2.heap.size 34 T:=by rw [←hW3];exact setRow_blk HBN.out T
  have ST3:=Lib.hid (ST2.out.up hb3)
  have HW3:=Lib.hid hW3
  have HK:=Lib.hid hk
  clear hW3 hb3 hk hb2 x0 x1 x2 x3 x4 x5 hz
  go_upto_region 4 with (refine wpList_store_row rfl 34 (.tmp 3) (.tmp 16) rfl w2.heap.size T rfl rfl _ _ HBN.out HTJ.out HTS.out.symm HT1.out ?_;rw [HW3.out])
  clear HW3 HBN
  generalize hg1:w2.heap.size=g1 at*
  clear hg1
  refine wp_region_SA (by kernel_rfl) (by kernel_rfl) (by kernel_rfl)
   (fun u=> {tmps:=(#[cfgV c.frame A1 A2 A3 A4 A5 c.parts.length c.wins.length c.regs.length c.ports.length c.chans.length c1 c2 c3 c4 c5, .pointer (some ⟨w.heap.size,0,none⟩), .bool false, .pointer (some ⟨g1,0,none⟩), .bool b,u 8,u 10,undef,undef,cfgV c.frame A1 A2 A3 A4 A5 c.parts.length c.wins.length c.regs.length c.ports.length c.chans.length c1 c2 c3 c4 c5, .bool true, .bool false,undef, .tuple #[.agg T, .bool b],cfgV c.frame A1 A2 A3 A4 A5 c.parts.length c.wins.length c.regs.length c.ports.length c.chans.length c1 c2 c3 c4 c5, .tuple #[.agg T, .bool b], .agg T, .bool b,u 5,u 0,u 1,u 2,u 3,u 4,u 6,u 7,undef,undef,undef,undef,undef,undef,undef,undef,undef,undef,undef,undef,undef,undef,undef,undef,undef,undef,undef,undef,undef,undef,undef,undef,undef,undef,undef,undef]:Array Value),defers:= []}) (fun _=>undef) ?ha ?hput
   (layS w.heap.size c (cfgV c.frame A1 A2 A3 A4 A5 c.parts.length c.wins.length c.regs.length c.ports.length c.chans.length c1 c2 c3 c4 c5) T b) (fun _ U=>St w (U) c A1 A2 A3 A4 A5 c1 c2 c3 c4 c5∧Blk U g1 34 T) (fun j u U U'=>if j=9 then ∃g,u 8= .pointer (some ⟨g,0,none⟩)∧w.heap.size+1≤g∧U'=U.setRow g T else Below U.heap.size U U')
   ⟨ST3.out.up (Below.refl _ _).drew,HK.out.below (Below.refl _ _).drew HK.out.lt⟩ ?hst ?hloc ?hop ?hend
  case ha=>rfl
  case hput=>
   intro i o ho u v
   have hi:i <11:=(Array.getElem?_eq_some_iff.1 ho).1
   obtain rfl |rfl |rfl |rfl |rfl |rfl |rfl |rfl |rfl |rfl |rfl:=(by omega:i=0∨i=1∨i=2∨i=3∨i=4∨i=5∨i=6∨i=7∨i=8∨i=9∨i=10)
   all_goals
    cases ho
    rfl
  case hst=>
   intro i j u U U' hij hE hS hle
   by_cases hj:j=9
   ·subst hj
    rw [if_pos rfl] at hle
    obtain ⟨g,hg,hq,rfl⟩:=hle
    match i,hS with
    |0,hS=>exact hS
    |1,hS=>exact hS
    |2,hS=>exact hS
    |3,hS=>exact hS
    |4,hS=>exact hS
    |5,hS=>exact hS
    |6,hS=>exact hS
    |7,hS=>exact hS
    |8,⟨g2,h2,hq2,cs,hb,hz⟩=>
     have:g2=g:=by rw [hg] at h2;injection h2 with h2;injection h2 with h2;injection h2 with h2;exact h2.symm
     subst this
     exact ⟨g2,h2,hq2,T,setRow_blk hb T,HTS.out⟩
    |9,_=>exact absurd rfl hij
    |10,hS=>exact hS
    |_+11,_=>trivial
   ·rw [if_neg hj] at hle
    match i,hS with
    |0,hS=>exact hS
    |1,hS=>exact hS
    |2,hS=>exact hS
    |3,hS=>exact hS
    |4,hS=>exact hS
    |5,hS=>exact hS
    |6,hS=>exact hS
    |7,hS=>exact hS
    |8,⟨g2,h2,hq2,cs,hb,hz⟩=>exact ⟨g2,h2,hq2,cs,hb.below hle hb.lt,hz⟩
    |9,⟨g2,h2,hq2,hb⟩=>exact ⟨g2,h2,hq2,hb.below hle hb.lt⟩
    |10,hS=>exact hS
    |_+11,_=>trivial
  case hloc=>
   intro i o ho j u v U hij hdep hS
   match i,hS with
   |0,hS=>show upd u j v 0=_;rw [upd_ne (Ne.symm hij)];exact hS
   |1,hS=>show upd u j v 1=_;rw [upd_ne (Ne.symm hij)];exact hS
   |2,hS=>show upd u j v 2=_;rw [upd_ne (Ne.symm hij)];exact hS
   |3,hS=>show upd u j v 3=_;rw [upd_ne (Ne.symm hij)];exact hS
   |4,hS=>show upd u j v 4=_;rw [upd_ne (Ne.symm hij)];exact hS
   |5,hS=>show upd u j v 5=_;rw [upd_ne (Ne.symm hij)];exact hS
   |6,hS=>show upd u j v 6=_;rw [upd_ne (Ne.symm hij)];exact hS
   |7,hS=>show upd u j v 7=_;rw [upd_ne (Ne.symm hij)];exact hS
   |8,⟨g2,h2,hq2,hb⟩=>exact ⟨g2,(show upd u j v 8=u 8 from upd_ne (Ne.symm hij) _ _).trans h2,hq2,hb⟩
   |9,⟨g2,h2,hq2,hb⟩=>
    cases ho
    have h8:8≠j:=hdep ⟨8, .data⟩ (by simp) rfl
    exact ⟨g2,(show upd u j v 8=u 8 from upd_ne h8 _ _).trans h2,hq2,hb⟩
   |10,hS=>show upd u j v 10=_;rw [upd_ne (Ne.symm hij)];exact hS
   |_+11,_=>trivial
  case hop=>
   intro i o ho u U hE hp Kk hK
   have hzz:=hE.1.z
   match i,ho with
   |0,ho=>
    cases ho
    refine RunsTo.wp (RunsTo.val (.pointer (some ⟨w.heap.size,0,none⟩)) (V:=U) ?_ (hK _ _ hE (Below.refl _ _) rfl))
    simp only [execOp]
    go_simp
   |1,ho=>
    cases ho
    obtain ⟨x0,x1,x2,x3,x4,x5,hz⟩:=hE.1.cells
    have q0:u 0= .pointer (some ⟨w.heap.size,0,none⟩):=hp ⟨0, .data⟩ (by simp) rfl
    refine RunsTo.wp (RunsTo.val (.int .u64 c.frame) (V:=U) ?_ (hK _ _ hE (Below.refl _ _) rfl))
    simp only [execOp]
    go_simp
   |2,ho=>
    cases ho
    obtain ⟨x0,x1,x2,x3,x4,x5,hz⟩:=hE.1.cells
    refine RunsTo.wp (RunsTo.val (cfgV c.frame A1 A2 A3 A4 A5 c.parts.length c.wins.length c.regs.length c.ports.length c.chans.length c1 c2 c3 c4 c5) (V:=U) ?_ (hK _ _ hE (Below.refl _ _) rfl))
    simp only [execOp]
    go_simp
   |3,ho=>
    cases ho
    have q2:u 2=cfgV c.frame A1 A2 A3 A4 A5 c.parts.length c.wins.length c.regs.length c.ports.length c.chans.length c1 c2 c3 c4 c5:=hp ⟨2, .data⟩ (by simp) rfl
    refine RunsTo.wp (RunsTo.call (V:=U) 8 #[cfgV c.frame A1 A2 A3 A4 A5 c.parts.length c.wins.length c.regs.length c.ports.length c.chans.length c1 c2 c3 c4 c5] ?_ ?_)
    ·simp only [execOp]
     go_simp
    ·refine (counts_ok c _ _ _ _ _ _ _ _ _ _ _ hE.1.R HSM.out).mono ?_
     rintro e V ⟨rfl,hb⟩
     exact ⟨_,rfl,hK _ _ ⟨hE.1.up hb,hE.2.below hb hE.2.lt⟩ hb rfl⟩
   |4,ho=>
    cases ho
    have q1:u 1= .int .u64 c.frame:=hp ⟨1, .data⟩ (by simp) rfl
    have q3:u 3= .agg (cntCl (cntOf c)):=hp ⟨3, .data⟩ (by simp) rfl
    refine RunsTo.wp (RunsTo.call (V:=U) 7 #[.int .u64 c.frame, .agg (cntCl (cntOf c))] ?_ ?_)
    ·simp only [execOp]
     go_simp
    ·refine (HFO.out U).mono ?_
     rintro e V ⟨rfl,hb⟩
     exact ⟨_,rfl,hK _ _ ⟨hE.1.up hb,hE.2.below hb hE.2.lt⟩ hb rfl⟩
   |5,ho=>
    cases ho
    have q4:u 4= .tuple #[.agg T, .bool b]:=hp ⟨4, .data⟩ (by simp) rfl
    refine RunsTo.wp (RunsTo.val (.tuple #[.agg T, .bool b]) (V:=U) ?_ (hK _ _ hE (Below.refl _ _) rfl))
    simp only [execOp]
    go_simp
   |6,ho=>
    cases ho
    have q5:u 5= .tuple #[.agg T, .bool b]:=hp ⟨5, .data⟩ (by simp) rfl
    refine RunsTo.wp (RunsTo.val (.agg T) (V:=U) ?_ (hK _ _ hE (Below.refl _ _) rfl))
    simp only [execOp]
    go_simp
   |7,ho=>
    cases ho
    have q5:u 5= .tuple #[.agg T, .bool b]:=hp ⟨5, .data⟩ (by simp) rfl
    refine RunsTo.wp (RunsTo.val ((.bool b)) (V:=U) ?_ (hK _ _ hE (Below.refl _ _) rfl))
    simp only [execOp]
    go_simp
   |8,ho=>
    cases ho
    refine RunsTo.wp (RunsTo.val (.pointer (some ⟨U.heap.size,0,none⟩)) (V:=U.alloc (.cells tabZ 37)) ?_ (hK _ _ ⟨hE.1.alloc _,hE.2.alloc _⟩ (below_one _ _) ⟨U.heap.size,rfl,hzz,tabZ,Blk.new U _ _,rfl⟩))
    simp only [execOp]
    go_simp
   |9,ho=>
    cases ho
    obtain ⟨g,hg,hq,cs,hb,hz⟩: ∃g,u 8= .pointer (some ⟨g,0,none⟩)∧w.heap.size+1≤g∧ ∃cs,Blk U g 37 cs∧cs.size=16:=hp ⟨8, .data⟩ (by simp) rfl
    have q6:u 6= .agg T:=hp ⟨6, .data⟩ (by simp) rfl
    have hne:g1≠g:=fun e=>by
     have h7:=hE.2
     rw [e] at h7
     have h8:(Obj.cells cs 37 (0,0))=Obj.cells T 34 (0,0):=Option.some.inj (hb.symm.trans h7)
     injection h8 with _ h9
     exact absurd h9 (by decide)
    have hbr:Below (w.heap.size+1) U (U.setRow g T):=below_setRow (Below.refl _ _) hq _
    have e0: ∀u':Nat→Value,u' 8=u 8→ ∃g',u' 8= .pointer (some ⟨g',0,none⟩)∧w.heap.size+1≤g'∧Blk (U.setRow g T) g' 37 T:=fun u' h'=>⟨g,h'.trans hg,hq,setRow_blk hb T⟩
    refine wp_skip (w':=U.setRow g T) ?_ (hK undef _ ⟨hE.1.keep hbr,(setRow_other U g g1 T hne).trans hE.2⟩ (by rw [if_pos rfl];exact ⟨g,hg,hq,rfl⟩) (e0 _ (upd_ne (show (8:Nat)≠9 by decide) _ _)))
    have hrun:=run_storeVar_row (P:=Tryz.prog) U g _ 37 cs T hb HTI.out (hz.trans HTS.out.symm) HT1.out
    generalize hρ:Act.eval _=ρ
    have e3:ρ (.tmp 5)= .pointer (some ⟨g,0,none⟩):=by rw [←hρ];exact hg
    have e20:ρ (.tmp 24)= .agg T:=by rw [←hρ];exact q6
    simp only [List.getElem_toArray,List.getElem_cons_succ,List.getElem_cons_zero,execOp,e3,e20,Instr.storeAt,Instr.sureAddr,Sem.run_bind,Sem.run_pure,Result.andThen_ok,hrun]
   |10,ho=>
    cases ho
    have q7:u 7=(.bool b):=hp ⟨7, .data⟩ (by simp) rfl
    refine RunsTo.wp (RunsTo.val ((.bool b)) (V:=U) ?_ (hK _ _ hE (Below.refl _ _) rfl))
    simp only [execOp]
    go_simp
   |k+11,ho=>exact absurd ho (by simp)
  case hend=>
   intro u w4 hE hS
   obtain ⟨g,hg,hqg,hbT⟩: ∃g,u 8= .pointer (some ⟨g,0,none⟩)∧w.heap.size+1≤g∧Blk w4 g 37 T:=hS 9 (by decide)
   have h10:u 10= .bool b:=hS 10 (by decide)
   have ST4:=Lib.hid hE.1
   have TA:=Lib.hid hE.2
   have TB:=Lib.hid hbT
   clear hS hE hqg hbT
   dsimp only
   rw [hg,h10]
   obtain ⟨x0,x1,x2,x3,x4,x5,hz⟩:=ST4.out.cells
   go_wp2_with fail
   refine (pckPack_ok c _ _ _ _ _ _ _ _ _ _ _ ST4.out.R HOK.out HTT.out F HF).mono ?_
   rintro e w5 ⟨v,rfl,ho,hb5⟩
   have ST5:=Lib.hid (ST4.out.up hb5)
   have TA5:=Lib.hid (TA.out.below hb5 TA.out.lt)
   have TB5:=Lib.hid (TB.out.below hb5 TB.out.lt)
   obtain ⟨D,d,rfl,_⟩:=own_form ho
   obtain ⟨fa,fb,fc⟩:=F
   obtain ⟨W6,hW6,hb6,hk6⟩: ∃W,w5.alloc (.cells #[.int .i64 fa, .int .i64 fb, .int .i64 fc] 44)=W∧Below w5.heap.size w5 W∧Blk W w5.heap.size 44 #[.int .i64 fa, .int .i64 fb, .int .i64 fc]:=⟨_,rfl,below_one _ _,Blk.new _ _ _⟩
   have HB6:=Lib.hid (ST5.out.up hb6).bel
   have TA6:=Lib.hid (TA5.out.below hb6 TA5.out.lt)
   have TB6:=Lib.hid (TB5.out.below hb6 TB5.out.lt)
   have HK6:=Lib.hid hk6
   have HW6:=Lib.hid hW6
   clear ho hb5 hb6 hk6 hW6 x0 x1 x2 x3 x4 x5 hz
   go_upto_region 6 with (fail)
   rw [HW6.out]
   clear HW6
   generalize w5.heap.size=g6 at*
   obtain ⟨n,hn⟩: ∃n,(packB c).length=n:=⟨_,rfl⟩
   rw [hn] at HLEN ⊢
   clear hn
   go_wp2_with fail
   refine (alive11_ok _).mono ?_
   rintro e w7 ⟨rfl,hb7⟩
   have TA7:=Lib.hid (TA6.out.below hb7 TA6.out.lt)
   have TB7:=Lib.hid (TB6.out.below hb7 TB6.out.lt)
   have HK7:=Lib.hid (HK6.out.below hb7 HK6.out.lt)
   have HZ:=Lib.hid (HB6.out.trans (hb7.mono HB6.out.size))
   clear hb7
   have q0:=HK7.out.cell 0
   have q1:=HK7.out.cell 1
   have q2:=HK7.out.cell 2
   have qz:=HK7.out.lt
   simp at q0 q1 q2
   obtain ⟨f,o0,o1,o2,o3,o4,o5,o6,n0,n1,n2,n3,n4,n5,n6,rfl⟩:=H16.out
   have r0:=TA7.out.cell 0
   have r1:=TA7.out.cell 1
   have r2:=TA7.out.cell 2
   have r3:=TA7.out.cell 3
   have r4:=TA7.out.cell 4
   have r5:=TA7.out.cell 5
   have r6:=TA7.out.cell 6
   have r7:=TA7.out.cell 7
   have r8:=TA7.out.cell 8
   have r9:=TA7.out.cell 9
   have r10:=TA7.out.cell 10
   have r11:=TA7.out.cell 11
   have r12:=TA7.out.cell 12
   have r13:=TA7.out.cell 13
   have r14:=TA7.out.cell 14
   have r15:=TA7.out.cell 15
   have s0:=TB7.out.cell 0
   have s1:=TB7.out.cell 1
   have s2:=TB7.out.cell 2
   have s3:=TB7.out.cell 3
   have s4:=TB7.out.cell 4
   have s5:=TB7.out.cell 5
   have s6:=TB7.out.cell 6
   have s7:=TB7.out.cell 7
   have s8:=TB7.out.cell 8
   have s9:=TB7.out.cell 9
   have s10:=TB7.out.cell 10
   have s11:=TB7.out.cell 11
   have s12:=TB7.out.cell 12
   have s13:=TB7.out.cell 13
   have s14:=TB7.out.cell 14
   have s15:=TB7.out.cell 15
   have rz:=TA7.out.lt
   simp at r0 s0 r1 s1 r2 s2 r3 s3 r4 s4 r5 s5 r6 s6 r7 s7 r8 s8 r9 s9 r10 s10 r11 s11 r12 s12 r13 s13 r14 s14 r15 s15
   have tz:=TB7.out.lt
   by_cases hc0:fa=0
   ·subst hc0
    have hF0:=(packF_zero c (by rw [HF.out])).1
    rw [HF.out] at hF0
    injection hF0 with _ h1 h2
    subst h1 h2
    have hl:=HLEN.out rfl
    subst hl
    go_wp2
    go_ret
    exact ⟨rfl,HZ.out⟩
   ·have hbe:(fa==0)=false:=beq_eq_false_iff_ne.2 hc0
    go_wp2
    go_ret
    exact ⟨rfl,HZ.out⟩
end Go.Proofs.YteelncofiodflaaGreat
