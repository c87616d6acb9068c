/-
  The reference's table of an image: align, Size, Limit, For, walked. Condition: as in the table of the program.
-/
import Derived.BigQuiet
import Derived.Deep.WholeRow
import Derived.Test.YteelncofiodflaaGreatPckL
import Derived.Test.YteelncofiodflaaGreatInvX
namespace Go.Proofs.YteelncofiodflaaGreat
open Go.RowKit
attribute [local go_sem] ext_cell
theorem rAlign10_ok (n:Nat) (hn:n≤4611686018427387000) (W:World):Calls Tryz.prog 13 #[.int .i64 n] W fun e w'=>e= .returned (.int .i64 (alnN n:Nat))∧w'=W:=by
 have ha:=alnN_le n
 have HA:=Lib.hid (show alnN n=(n+15)/16*16 from rfl)
 have ha1:n≤alnN n:=by rw [HA.out];omega
 generalize alnN n=a at*
 go_enter Tryz.func13,Tryz.ntmps13
 go_wp2
 go_loopw [0] (fun v wr=> ∃m:Nat,n≤m∧m≤a∧v= .int .i64 m∧wr=W) (fun v _=>a -(intOf v).toNat)
 case atStart=>exact ⟨n,Nat.le_refl _,ha1,rfl,rfl⟩
 case round=>
  obtain ⟨m,h1,h2,rfl,rfl⟩:=hrel
  have hr:(m:Int).tmod 16=((m%16:Nat):Int):=rfl
  by_cases h0:m%16=0
  ·have hm:m=a:=by have:=HA.out;omega
   go_wp2
   go_ret
   exact ⟨by rw [hm];rfl,rfl⟩
  ·have hp:0 <m%16:=by omega
   have hm:m <a:=by have:=HA.out;omega
   go_wp2
   go_roundw
   case rel=>exact ⟨m+1,by omega,by omega,by go_num,trivial⟩
   case measure=>simp [intOf];omega
theorem rSize09_ok (s:Nat) (h1:1≤s) (h6:s≤6) (si:Int) (hs:si=(s:Int)) (w:World):Calls Tryz.prog 14 #[.int .i64 si] w fun e w'=>e= .returned (.int .i64 (secSz s:Nat))∧w'=w:=by
 subst hs
 obtain rfl |rfl |rfl |rfl |rfl |rfl:s=1∨s=2∨s=3∨s=4∨s=5∨s=6:=by omega
 all_goals
  go_enter Tryz.func14,Tryz.ntmps14
  go_wp2
  go_ret
  exact ⟨rfl,rfl⟩
theorem rLimit05_ok (s:Nat) (h1:1≤s) (h6:s≤6) (si:Int) (hs:si=(s:Int)) (w:World):Calls Tryz.prog 12 #[.int .i64 si] w fun e w'=>e= .returned (.int .i64 (limN s:Nat))∧w'=w:=by
 subst hs
 obtain rfl |rfl |rfl |rfl |rfl |rfl:s=1∨s=2∨s=3∨s=4∨s=5∨s=6:=by omega
 all_goals
  go_enter Tryz.func12,Tryz.ntmps12
  go_wp2
  go_ret
  exact ⟨rfl,rfl⟩
theorem cntCl_at (n:Nat→Nat) (j:Nat) (h1:1≤j) (h6:j≤6):(cntCl n)[j]? =some (.int .i64 ((n j:Nat):Int)):=by
 obtain rfl |rfl |rfl |rfl |rfl |rfl:j=1∨j=2∨j=3∨j=4∨j=5∨j=6:=by omega
 all_goals rfl
set_option maxRecDepth 100000 in
set_option maxHeartbeats 4000000 in
theorem rFor_ok (f:Int) (n:Nat→Nat) (hn: ∀s,n s≤1048576) (hl: ∀s,1≤s→s≤6→n s≤limN s) (W:World):
  Calls Tryz.prog 7 #[.int .u64 f, .agg (cntCl n)] W fun e w'=>e= .returned (.tuple #[.agg (tabCl f n), .bool true])∧Below W.heap.size W w':=by
 have HLM:=Lib.hid hl
 have HI:=Lib.hid (show (Tryz.prog.info? 37).map (·.size)=some 16 from by kernel_rfl)
 obtain ⟨q,hq⟩: ∃q,W.heap.size=q:=⟨_,rfl⟩
 obtain ⟨w1,hw1⟩: ∃w1,W.alloc (.cells (cntCl n) 32)=w1:=⟨_,rfl⟩
 obtain ⟨w2,hw2⟩: ∃w2,w1.alloc (.cells tabZ 37)=w2:=⟨_,rfl⟩
 obtain ⟨w3,hw3⟩: ∃w3,w2.alloc (.cells (tabA f 0 (fun _=>0) (fun _=>0)) 37)=w3:=⟨_,rfl⟩
 have s1:w1.heap.size=q+1:=by rw [←hw1, ←hq];simp
 have s2:w2.heap.size=q+2:=by rw [←hw2];simp [s1]
 have s3:w3.heap.size=q+3:=by rw [←hw3];simp [s2]
 have b1:Below q W w1:=by rw [←hw1, ←hq];exact (Below.refl _ W).alloc (Nat.le_refl _) _
 have b3:Below q W w3:=by
  rw [←hw3];refine Below.alloc ?_ (by omega) _
  rw [←hw2];exact b1.alloc (by omega) _
 have k1:Blk w1 q 32 (cntCl n):=by rw [←hw1, ←hq];exact Blk.new W _ _
 have k2:Blk w2 (q+1) 37 tabZ:=by rw [←hw2, ←s1];exact Blk.new w1 _ _
 have m3:Blk w3 (q+2) 37 (tabA f 0 (fun _=>0) (fun _=>0)):=by rw [←hw3, ←s2];exact Blk.new w2 _ _
 have m2:Blk w3 (q+1) 37 tabZ:=by rw [←hw3];exact k2.alloc _
 have m1:Blk w3 q 32 (cntCl n):=by rw [←hw3];refine Blk.alloc ?_ _;rw [←hw2];exact k1.alloc _
 have HQ:=Lib.hid hq
 have HW1:=Lib.hid hw1
 have HW2:=Lib.hid hw2
 have HW3:=Lib.hid hw3
 have S2:=Lib.hid s2
 have B3:=Lib.hid b3
 have M1:=Lib.hid m1
 have M2:=Lib.hid m2
 have M3:=Lib.hid m3
 clear hw1 hw2 hw3 k1 k2 m1 m2 m3 b1 b3 s1 s2 s3 hl
 go_enter Tryz.func7,Tryz.ntmps7
 go_upto_region 1 with (fail)
 rw [HW1.out,HW2.out]
 have s2:=S2.out
 go_upto_region 2 with (fail)
 have hz:w2.alloc (.cells #[.int .u64 f, .int .i64 0, .int .i64 0, .int .i64 0, .int .i64 0, .int .i64 0, .int .i64 0, .int .i64 0, .int .i64 0, .int .i64 0, .int .i64 0, .int .i64 0, .int .i64 0, .int .i64 0, .int .i64 0, .int .i64 0] 37)=w3:=HW3.out
 rw [hz]
 clear hz s2
 go_wp2
 go_loopw [7,8] (fun a s wr=> ∃k:Nat,k≤6∧s= .int .i64 ((k+1:Nat):Int)∧a= .int .i64 ((ftab n (secL k)).at_:Nat)∧Hid (Blk wr q 32 (cntCl n))∧Hid (Blk wr (q+1) 37 tabZ)∧Hid (Blk wr (q+2) 37 (tabA f 0 (ftab n (secL k)).o (ftab n (secL k)).c))∧Hid (Below q W wr)) (fun _ s _=>8 -(intOf s).toNat)
 case atStart=>exact ⟨0,Nat.zero_le _,rfl,rfl,M1,M2,M3,B3⟩
 case round=>
  obtain ⟨k,hk,rfl,rfl,H1,H2,H3,HB⟩:=hrel
  by_cases hlt:k <6
  ·have hal:(ftab n (secL k)).at_≤352321706:=Nat.le_trans (fat_le hn (secL k)) (by rw [secL_len hk];omega)
   have hst:ftab n (secL (k+1))=⟨updN (ftab n (secL k)).o (k+1) (ftab n (secL k)).at_,updN (ftab n (secL k)).c (k+1) (n (k+1)),alnN ((ftab n (secL k)).at_+n (k+1)*secSz (k+1))⟩:=by rw [←secL_next k hlt,ftab_next];rfl
   have HST:=Lib.hid hst
   clear hst
   generalize ftab n (secL k)=F at*
   obtain ⟨o3,c3,a0⟩:=F
   simp only at hal H3
   obtain ⟨j,hj⟩: ∃j,k+1=j:=⟨_,rfl⟩
   have hj1:1≤j:=by omega
   have hj6:j≤6:=by omega
   have HJ:=Lib.hid hj
   rw [hj] at HST ⊢
   have hnj:=hn j
   have hlj:=HLM.out j hj1 hj6
   have hll:limN j≤1024:=by
    obtain rfl |rfl |rfl |rfl |rfl |rfl:j=1∨j=2∨j=3∨j=4∨j=5∨j=6:=by omega
    all_goals decide
   have HLI:=Lib.hid (fun U=>rLimit05_ok j hj1 hj6 (j:Int) rfl U)
   have HSI:=Lib.hid (fun U=>rSize09_ok j hj1 hj6 (j:Int) rfl U)
   have hsz:secSz j≤56:=by unfold secSz;split<;>omega
   have hmul:=Nat.mul_le_mul hnj hsz
   have e1:=(H1.out.cell j).trans (cntCl_at n j hj1 hj6)
   have g1:=H1.out.lt
   have g3:=H3.out.lt
   have f3:=H3.out.frozen
   have c2:=(H3.out.cell (2+j)).trans (tabA_off f 0 o3 c3 (i:=j) (by omega))
   have HE1:=Lib.hid e1
   have j0:(0:Int)≤(j:Int):=by omega
   have j7:(j:Int) <7:=by omega
   clear hn
   generalize limN j=lim at*
   generalize secSz j=z at*
   generalize hnn:n j=nj at*
   have HNN:=Lib.hid hnn
   clear hnn hj hlt
   have n0: ¬((nj:Nat):Int) <0:=by omega
   have n1:decide (((nj:Nat):Int) <0)=false:=decide_eq_false n0
   have n2: ¬(lim:Int) <(nj:Int):=by omega
   go_upto_region 6 with (fail)
   refine wp_region_ext (by kernel_rfl) (by kernel_rfl) ?_
   repeat (go_big_quiet_step ((go_at_call 12;exact Calls.quiet_ext ((HLI.out _).mono (fun e w' h=>⟨h.1,by rw [h.2];exact Below.refl _ _⟩)))))
   refine wpQuiet_nil ?_
   intro xq
   have hbx:=ext_below wr xq
   have H1:=Lib.hid (H1.out.below hbx H1.out.lt)
   have H2:=Lib.hid (H2.out.below hbx H2.out.lt)
   have H3:=Lib.hid (H3.out.below hbx H3.out.lt)
   have HB:=Lib.hid (HB.out.trans (hbx.mono (Nat.le_of_lt g1)))
   clear hbx e1 g1 g3 f3 c2 HE1
   generalize ext wr xq=V at*
   have g1:=H1.out.lt
   have e1:=(H1.out.cell j).trans (cntCl_at n j hj1 hj6)
   rw [HNN.out] at e1
   have g3:=H3.out.lt
   have f3:=H3.out.frozen
   have c2:=(H3.out.cell (2+j)).trans (tabA_off f 0 o3 c3 (i:=j) (by omega))
   have c9:=(H3.out.cell (9+j)).trans (tabA_cnt f 0 o3 c3 (i:=j) (by omega))
   go_upto_region 9 with (fail)
   obtain ⟨V1,hV1⟩: ∃V1,V.setCell ⟨q+2,2+j,none⟩ (.int .i64 ((a0:Nat):Int))=V1:=⟨_,rfl⟩
   have K3:=Lib.hid (show Blk V1 (q+2) 37 (tabA f 0 (updN o3 j a0) c3) by rw [←hV1, ←tabA_setO f 0 o3 c3 (i:=j) (v:=a0) (by omega)];exact H3.out.set_ (2+j) _)
   have K2:=Lib.hid (show Blk V1 (q+1) 37 tabZ by rw [←hV1];exact H2.out.far (p:=⟨q+2,2+j,none⟩) (show q+1≠q+2 by omega) _)
   have K1:=Lib.hid (show Blk V1 q 32 (cntCl n) by rw [←hV1];exact H1.out.far (p:=⟨q+2,2+j,none⟩) (show q≠q+2 by omega) _)
   have KB:=Lib.hid (show Below q W V1 by rw [←hV1];exact HB.out.setCell (p:=⟨q+2,2+j,none⟩) (show q≤q+2 by omega) _)
   rw [hV1]
   clear hV1 H1 H2 H3 HB g1 e1 g3 f3 c2 c9
   have g1:=K1.out.lt
   have e1:=(K1.out.cell j).trans (cntCl_at n j hj1 hj6)
   rw [HNN.out] at e1
   have g3:=K3.out.lt
   have f3:=K3.out.frozen
   have c9:=(K3.out.cell (9+j)).trans (tabA_cnt f 0 (updN o3 j a0) c3 (i:=j) (by omega))
   go_upto_region 10 with (fail)
   obtain ⟨V2,hV2⟩: ∃V2,V1.setCell ⟨q+2,9+j,none⟩ (.int .i64 ((nj:Nat):Int))=V2:=⟨_,rfl⟩
   have L3:=Lib.hid (show Blk V2 (q+2) 37 (tabA f 0 (updN o3 j a0) (updN c3 j nj)) by rw [←hV2, ←tabA_setC f 0 (updN o3 j a0) c3 (i:=j) (v:=nj) (by omega)];exact K3.out.set_ (9+j) _)
   have L2:=Lib.hid (show Blk V2 (q+1) 37 tabZ by rw [←hV2];exact K2.out.far (p:=⟨q+2,9+j,none⟩) (show q+1≠q+2 by omega) _)
   have L1:=Lib.hid (show Blk V2 q 32 (cntCl n) by rw [←hV2];exact K1.out.far (p:=⟨q+2,9+j,none⟩) (show q≠q+2 by omega) _)
   have LB:=Lib.hid (show Below q W V2 by rw [←hV2];exact KB.out.setCell (p:=⟨q+2,9+j,none⟩) (show q≤q+2 by omega) _)
   rw [hV2]
   clear hV2 K1 K2 K3 KB g1 e1 g3 f3 c9
   have g1:=L1.out.lt
   have e1:=(L1.out.cell j).trans (cntCl_at n j hj1 hj6)
   rw [HNN.out] at e1
   have HAL:=Lib.hid (fun U=>rAlign10_ok (a0+nj*z) (by omega) U)
   have m1:IntKind.i64.wrap ((nj:Int)*((z:Nat):Int))=((nj*z:Nat):Int):=by rw [←Int.natCast_mul,IntKind.wrap_i64];omega
   generalize nj*z=mz at*
   have m2:IntKind.i64.wrap ((a0:Int)+((mz:Nat):Int))=((a0+mz:Nat):Int):=by rw [IntKind.wrap_i64];omega
   refine wp_region_ext (by kernel_rfl) (by kernel_rfl) ?_
   repeat (go_big_quiet_step (first |(go_at_call 14;exact Calls.quiet_ext ((HSI.out _).mono (fun e w' h=>⟨h.1,by rw [h.2];exact Below.refl _ _⟩))) |(go_at_call 13;exact Calls.quiet_ext ((HAL.out _).mono (fun e w' h=>⟨h.1,by rw [h.2];exact Below.refl _ _⟩)))))
   refine wpQuiet_nil ?_
   intro xq2
   have hbx:=ext_below V2 xq2
   have N1:=Lib.hid (L1.out.below hbx L1.out.lt)
   have N2:=Lib.hid (L2.out.below hbx L2.out.lt)
   have N3:=Lib.hid (L3.out.below hbx L3.out.lt)
   have NB:=Lib.hid (LB.out.trans (hbx.mono (Nat.le_of_lt g1)))
   clear hbx e1 g1 L1 L2 L3 LB m1 m2
   generalize ext V2 xq2=V3 at*
   have HK:=Lib.hid hj6
   go_wp2
   go_roundw
   case rel=>
    refine ⟨k+1,by have:=HJ.out;have:=HK.out;omega, ?_, ?_,N1,N2, ?_,NB⟩
    ·rw [HJ.out];go_num
    ·rw [HJ.out,HST.out]
    ·rw [HJ.out,HST.out];exact N3
   case measure=>simp [intOf];omega
  ·obtain rfl:k=6:=by omega
   have hw6:=(ftab_whole f n).2
   obtain ⟨tt,htt⟩: ∃tt,offT n 6+4=tt:=⟨_,rfl⟩
   have hcl:tabA f tt (ftab n secs).o (ftab n secs).c=tabCl f n:=by rw [←htt];exact (ftab_whole f n).1
   have h3:=H3.out
   rw [secL_six] at h3
   rw [secL_six,hw6]
   obtain ⟨T,hT⟩: ∃T,tabCl f n=T:=⟨_,rfl⟩
   have hTi:(Tryz.prog.info? 37).map (·.size)=some T.size:=by rw [←hT];exact HI.out
   have hTo:16=T.size:=by rw [←hT];rfl
   have hT1:T.all (·.oneCell')=true:=by rw [←hT, ←hcl];exact tabA_one _ _ _ _
   rw [hT] at hcl
   have HTI:=Lib.hid hTi
   have HTO:=Lib.hid hTo
   have HT1:=Lib.hid hT1
   have HT:=Lib.hid hT
   clear hTi hTo hT1 hT hw6
   have hol:=offT_le hn 6
   generalize offT n 6=o6 at*
   have m1:IntKind.i64.wrap ((o6:Int)+4)=(tt:Int):=by rw [IntKind.wrap_i64];omega
   have z3:=h3.lt
   have e3:wr.cell? ⟨q+2,1,none⟩=some (.int .i64 0):=(h3.cell 1).trans rfl
   have f3:=h3.frozen 1
   obtain ⟨V2,hV2⟩: ∃V2,wr.setCell ⟨q+2,1,none⟩ (.int .i64 (tt:Int))=V2:=⟨_,rfl⟩
   have k3:Blk V2 (q+2) 37 T:=by
    rw [←hV2, ←hcl, ←tabA_setT f 0 (ftab n secs).o (ftab n secs).c tt]
    exact h3.set_ 1 _
   have k1:Blk V2 (q+1) 37 tabZ:=by rw [←hV2];exact H2.out.far (p:=⟨q+2,1,none⟩) (show q+1≠q+2 by omega) _
   have kb:Below q W V2:=by rw [←hV2];exact HB.out.setCell (p:=⟨q+2,1,none⟩) (show q≤q+2 by omega) _
   obtain ⟨V3,hV3⟩: ∃V3,V2.setRow (q+1) T=V3:=⟨_,rfl⟩
   have g1:Blk V3 (q+1) 37 T:=by rw [←hV3];exact setRow_heap V2 (q+1) _ _ _ _ k1
   have gb:Below q W V3:=by rw [←hV3];exact below_setRow kb (by omega) _
   have HV2:=Lib.hid hV2
   have HV3:=Lib.hid hV3
   have K3:=Lib.hid k3
   have K1:=Lib.hid k1
   have G1:=Lib.hid g1
   have GB:=Lib.hid gb
   clear h3 hV2 hV3 k1 k3 kb g1 gb hcl
   go_upto_region 12 with (fail)
   rw [HV2.out]
   clear z3 e3 f3
   go_wp2_with (first
    |(refine wpList_load_row rfl 37 (.tmp 6) rfl (q+2) rfl _ _ _ _ K3.out Tryz.underlying37 rfl HTI.out ?_)
    |(refine wpList_store_row rfl 37 (.tmp 4) (.tmp 50) rfl (q+1) T rfl rfl _ _ K1.out HTI.out HTO.out HT1.out ?_;rw [HV3.out]))
   have hrow:=run_loadVar_row (P:=Tryz.prog) V3 (q+1) _ 37 _ _ _ G1.out Tryz.underlying37 rfl HTI.out
   refine bodyPost_ret (v:= .tuple #[.agg T, .bool true]) (by simp [results,Tryz.results7,asAddr,hrow]) rfl ⟨by rw [HT.out],by rw [HQ.out];exact GB.out⟩
end Go.Proofs.YteelncofiodflaaGreat
