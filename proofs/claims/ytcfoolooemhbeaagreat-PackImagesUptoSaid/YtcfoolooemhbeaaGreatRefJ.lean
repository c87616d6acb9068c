/-
  Image of the reference of layer 11, walked: the bytes of a configuration that is in normal form and within limits.
-/
import Derived.ArgAppend
import Derived.Lib.SmallJoins
import Derived.Test.YtcfoolooemhbeaaGreatRefF
import Derived.Test.YtcfoolooemhbeaaGreatRefB
import Derived.BigQuiet
import Derived.Deep.WholeRow
import Derived.Test.YtcfoolooemhbeaaGreatRefI
import Derived.Test.YtcfoolooemhbeaaGreatRefR
import Derived.Test.YtcfoolooemhbeaaGreatRefH
import Derived.Test.YtcfoolooemhbeaaGreatPackW
namespace Go.Proofs.YtcfoolooemhbeaaGreat
open Go.RowKit
theorem tabCl_off (f:Int) (n:Nat→Nat) (k:Nat) (hk:k <6):(tabCl f n)[2+(k+1)]? =some (.int .i64 ((offT n k:Nat):Int)):=by
 obtain rfl |rfl |rfl |rfl |rfl |rfl:k=0∨k=1∨k=2∨k=3∨k=4∨k=5:=by omega
 all_goals rfl
theorem tabCl_cnt (f:Int) (n:Nat→Nat) (k:Nat) (hk:k <6):(tabCl f n)[9+(k+1)]? =some (.int .i64 ((n (k+1):Nat):Int)):=by
 obtain rfl |rfl |rfl |rfl |rfl |rfl:k=0∨k=1∨k=2∨k=3∨k=4∨k=5:=by omega
 all_goals rfl
theorem entB_next (n:Nat→Nat) (k:Nat) (hk:k <6):entB n (secL (k+1))=entB n (secL k)++leB (offT n k) 4++leB (n (k+1)) 4:=by
 rw [←secL_next k hk]
 unfold entB
 rw [List.flatMap_append,List.append_assoc]
 rfl
set_option maxRecDepth 100000 in
set_option maxHeartbeats 4000000 in
theorem rHeader_ok (f:Int) (n:Nat→Nat) (hf:wU64 f) (hn: ∀s,n s≤1048576) (W:World):
  Calls Tryz.prog 119 #[.agg (tabCl f n)] W fun e w'=> ∃v,e= .returned v∧w'.ownsRow W.heap.size 5 1 v 80 (bytV (hdrB f n))∧Below W.heap.size W w':=by
 have hfb:=Go.bounds_u64 hf
 have HTL:=Lib.hid hn
 obtain ⟨i0,hi,hz0,hz1,hz2⟩:=info_parts info_u8B
 obtain ⟨tt,htt⟩: ∃tt,offT n 6+4=tt:=⟨_,rfl⟩
 have htl:tt <4294967296:=by rw [←htt];have:=offT_le hn 6;omega
 have HTT:=Lib.hid htt
 obtain ⟨q,hq⟩: ∃q,W.heap.size=q:=⟨_,rfl⟩
 obtain ⟨w1,hw1⟩: ∃w1,W.alloc (.cells (tabCl f n) 62)=w1:=⟨_,rfl⟩
 obtain ⟨w2,hw2⟩: ∃w2,w1.alloc (.cells #[.int .u8 70, .int .u8 78, .int .u8 83, .int .u8 84] 5 (4,5))=w2:=⟨_,rfl⟩
 obtain ⟨w3,hw3⟩: ∃w3,w2.alloc (.cells #[.int .u8 1, .int .u8 0, .int .u8 80, .int .u8 0] 5)=w3:=⟨_,rfl⟩
 have s1:w1.heap.size=q+1:=by rw [←hw1, ←hq];simp
 have s2:w2.heap.size=q+2:=by rw [←hw2];simp [s1]
 have s3:w3.heap.size=q+3:=by rw [←hw3];simp [s2]
 have B1:=Lib.hid (show Below q W w1 by rw [←hw1, ←hq];exact (Below.refl _ W).alloc (Nat.le_refl _) _)
 have B3:=Lib.hid (show Below q W w3 by rw [←hw3];refine Below.alloc ?_ (by omega) _;rw [←hw2];exact B1.out.alloc (by omega) _)
 have K1:=Lib.hid (show Blk w1 q 62 (tabCl f n) by rw [←hw1, ←hq];exact Blk.new W _ _)
 have K3:=Lib.hid (show Blk w3 q 62 (tabCl f n) by rw [←hw3];refine Blk.alloc ?_ _;rw [←hw2];exact K1.out.alloc _)
 have C1:=Lib.hid (show ∀(j:Nat) u,[Value.int .u8 70, .int .u8 78, .int .u8 83, .int .u8 84][j]? =some u→w3.cell? ⟨q+1,0+j,none⟩=some u by
  intro j u hu
  have hj:j <4:=(List.getElem?_eq_some_iff.1 hu).1
  have hb:q+1 <w2.heap.size:=by omega
  have h2:w2.cell? ⟨q+1,0+j,none⟩=some u:=by
   rw [Nat.zero_add, ←hw2, ←s1,cell_of_row _ _ j _ _ _ (heap_alloc_new w1 _)]
   simpa using hu
  rw [←hw3]
  exact ((Below.refl w2.heap.size w2).alloc (Nat.le_refl _) _).cell (p:=⟨q+1,0+j,none⟩) hb |>.trans h2)
 have C2:=Lib.hid (show ∀(j:Nat) u,[Value.int .u8 1, .int .u8 0, .int .u8 80, .int .u8 0][j]? =some u→w3.cell? ((⟨q+2,0,none⟩:Addr).add j)=some u by
  intro j u hu
  have h2:w3.cell? ⟨q+2,j,none⟩=some u:=by
   rw [←hw3, ←s2,cell_of_row _ _ j _ _ _ (heap_alloc_new w2 _)]
   simpa using hu
  have e:(⟨q+2,0,none⟩:Addr).add j=⟨q+2,0+j,none⟩:=by unfold Addr.add;split<;>simp_all
  rw [e,Nat.zero_add]
  exact h2)
 have hcv:=Go.Joins.run_convert_bytes_const_at (P:=Tryz.prog) w1 32 5 #[.int .u8 70, .int .u8 78, .int .u8 83, .int .u8 84] 4 4 (q+1) s1.symm Tryz.underlying32 Tryz.underlying5
 simp only [List.size_toArray,List.length_cons,List.length_nil,Nat.reduceAdd] at hcv
 rw [hw2] at hcv
 have HW1:=Lib.hid hw1
 have HW2:=Lib.hid hw2
 have HW3:=Lib.hid hw3
 have HQ:=Lib.hid hq
 have S3:=Lib.hid s3
 clear hw1 hw2 hw3 hf hn htt
 go_enter Tryz.func119,Tryz.ntmps119
 go_upto_region 1 with (fail)
 rw [HW1.out]
 go_upto_region 2 with (rw [HW3.out];at_builtin;go_loud (refine wpList_append_arg _ rfl (.tmp 6) (.tmp 7) _ rfl 5 i0 (.int .u8 0) 1 1 Tryz.underlying32 hi hz0 hz1 hz2 rfl (by decide) (q+1) 0 4 4 [Value.int .u8 70, .int .u8 78, .int .u8 83, .int .u8 84] (by rfl) rfl C1.out ⟨q+2,0,none⟩ 4 4 [Value.int .u8 1, .int .u8 0, .int .u8 80, .int .u8 0] (by rfl) rfl C2.out (by intro u hu;simp at hu;rcases hu with rfl |rfl |rfl |rfl<;>rfl) (fun h=>absurd h (by decide)) (by unfold maxLen;omega) (by omega) (fun h=>absurd h (by decide)) ?_);intro _ v4 w4 ho4 hg4)
 obtain ⟨A4,d4,rfl,_⟩:=own_form ho4
 obtain ⟨l4,hl4⟩: ∃l,[70,78,83,84]++leB 1 2++leB 80 2=l:=⟨_,rfl⟩
 have R4:=Lib.hid (show Rd w4 w4.heap.size 1 A4 8 (bytV l4) by rw [←hl4];exact (own_slice ho4).2)
 have B4:=Lib.hid (below_own (e:=5) (size:=1) (v:= .slice none 0 0) B3.out hg4 (World.ownsRow_nil _ _ _ _) (by omega))
 have K4:=Lib.hid (K3.out.below (show Below w3.heap.size w3 w4 from below_own (e:=5) (size:=1) (v:= .slice none 0 0) (Below.refl _ _) hg4 (World.ownsRow_nil _ _ _ _) (Nat.le_refl _)) K3.out.lt)
 have HL4:=Lib.hid hl4
 clear ho4 hg4 hl4 HW1 HW2 HW3 hcv C1 C2 B3 K1 s1 s2 s3
 have c1:=tab_c1 K4.out HTT.out
 have z1:=K4.out.lt
 have hq4:q≤w4.heap.size:=by omega
 have htm:(tt:Int)%18446744073709551616=(tt:Int):=by omega
 go_wp2_with fail
 refine (rApp03_ok l4 8 A4 d4 (tt) _ (by first |rfl |omega) 4 4 rfl w4 (by omega) (by decide) (by decide) R4.out).mono ?_
 rintro e w5 ⟨v5,rfl,ho,hb⟩
 obtain ⟨A5,d5,rfl,_⟩:=own_form ho
 obtain ⟨l5,hl⟩: ∃l,l4++leB (tt) 4=l:=⟨_,rfl⟩
 have HL5:=Lib.hid hl
 rw [hl] at ho
 have R5:=Lib.hid (own_slice ho).2
 have hqs:=hb.size
 have O5:=Lib.hid (own_lessB ho hq4)
 have hq5:q≤w5.heap.size:=Nat.le_trans hq4 hqs
 have K5:=Lib.hid (K4.out.below hb K4.out.lt)
 have B5:=Lib.hid (B4.out.trans (hb.mono hq4))
 clear ho hb hl hqs hq4 R4 K4 B4
 clear c1 z1 htm
 go_wp2_with fail
 refine (rApp03_ok l5 12 A5 d5 (0) _ (rfl) 4 4 rfl w5 (by omega) (by decide) (by decide) R5.out).mono ?_
 rintro e w6 ⟨v6,rfl,ho,hb⟩
 obtain ⟨A6,d6,rfl,_⟩:=own_form ho
 obtain ⟨l6,hl⟩: ∃l,l5++leB (0) 4=l:=⟨_,rfl⟩
 have HL6:=Lib.hid hl
 rw [hl] at ho
 have R6:=Lib.hid (own_slice ho).2
 have hqs:=hb.size
 have O6:=Lib.hid (own_lessB ho hq5)
 have hq6:q≤w6.heap.size:=Nat.le_trans hq5 hqs
 have K6:=Lib.hid (K5.out.below hb K5.out.lt)
 have B6:=Lib.hid (B5.out.trans (hb.mono hq5))
 clear ho hb hl hqs hq5 R5 K5 B5
 have c0:=K6.out.cell 0
 have z1:=K6.out.lt
 simp at c0
 obtain ⟨fn,rfl⟩: ∃fn:Nat,f=(fn:Int):=⟨f.toNat,by omega⟩
 go_wp2_with fail
 refine (rApp03_ok l6 16 A6 d6 (fn) _ (rfl) 8 8 rfl w6 (by omega) (by decide) (by decide) R6.out).mono ?_
 rintro e w7 ⟨v7,rfl,ho,hb⟩
 obtain ⟨A7,d7,rfl,_⟩:=own_form ho
 obtain ⟨l7,hl⟩: ∃l,l6++leB (fn) 8=l:=⟨_,rfl⟩
 have HL7:=Lib.hid hl
 rw [hl] at ho
 have R7:=Lib.hid (own_slice ho).2
 have hqs:=hb.size
 have O7:=Lib.hid (own_lessB ho hq6)
 have hq7:q≤w7.heap.size:=Nat.le_trans hq6 hqs
 have K7:=Lib.hid (K6.out.below hb K6.out.lt)
 have B7:=Lib.hid (B6.out.trans (hb.mono hq6))
 clear ho hb hl hqs hq6 R6 K6 B6
 clear c0 z1
 go_wp2_with fail
 refine (rApp03_ok l7 24 A7 d7 (0) _ (rfl) 8 8 rfl w7 (by omega) (by decide) (by decide) R7.out).mono ?_
 rintro e w8 ⟨v8,rfl,ho,hb⟩
 obtain ⟨A8,d8,rfl,_⟩:=own_form ho
 obtain ⟨l8,hl⟩: ∃l,l7++leB (0) 8=l:=⟨_,rfl⟩
 have HL8:=Lib.hid hl
 rw [hl] at ho
 have R8:=Lib.hid (own_slice ho).2
 have hqs:=hb.size
 have O8:=Lib.hid (own_lessB ho hq7)
 have hq8:q≤w8.heap.size:=Nat.le_trans hq7 hqs
 have K8:=Lib.hid (K7.out.below hb K7.out.lt)
 have B8:=Lib.hid (B7.out.trans (hb.mono hq7))
 clear ho hb hl hqs hq7 R7 K7 B7
 have HH0:=Lib.hid (show hd0 (fn:Int) n=l8 by rw [←HL8.out, ←HL7.out, ←HL6.out, ←HL5.out, ←HL4.out, ←HTT.out];unfold hd0;simp)
 clear HL4 HL5 HL6 HL7 HL8 O5 O6 O7 HTT R8 hfb
 have hq:=HQ.out
 clear htl
 go_wp2
 go_loopw [3,4] (fun v s wr=> ∃k:Nat,k≤6∧s= .int .i64 ((k+1:Nat):Int)∧Hid (wr.ownsRow q 5 1 v (32+8*k) (bytV (l8++entB n (secL k))))∧Hid (Blk wr q 62 (tabCl fn n))∧Hid (Below q W wr)) (fun _ s _=>8 -(intOf s).toNat)
 case atStart=>exact ⟨0,Nat.zero_le _,rfl,Lib.hid (by simpa [entB,secL] using O8.out),K8,B8⟩
 case round=>
  obtain ⟨k,hk,rfl,HO,HK,HB⟩:=hrel
  obtain ⟨A1,d1,rfl,_⟩:=own_form HO.out
  by_cases hlt:k <6
  ·have HN:=Lib.hid (show l8++entB n (secL (k+1))=(l8++entB n (secL k))++leB (offT n k) 4++leB (n (k+1)) 4 by rw [entB_next n k hlt];simp only [List.append_assoc])
   have c2:=(HK.out.cell (2+(k+1))).trans (tabCl_off fn n k hlt)
   have c9:=(HK.out.cell (9+(k+1))).trans (tabCl_cnt fn n k hlt)
   have hol:=offT_le HTL.out k
   have hnl:=HTL.out (k+1)
   have g1:=HK.out.lt
   obtain ⟨j,hj⟩: ∃j,k+1=j:=⟨_,rfl⟩
   have hj1:1≤j:=by omega
   have hj6:j≤6:=by omega
   have HJ:=Lib.hid hj
   rw [hj] at HN c2 c9 hnl ⊢
   have C9:=Lib.hid c9
   generalize n j=nj at*
   generalize offT n k=ok at*
   generalize l8++entB n (secL k)=L at*
   have o1:(ok:Int)%18446744073709551616=(ok:Int):=by omega
   have o2:(nj:Int)%18446744073709551616=(nj:Int):=by omega
   have j0:(0:Int)≤(j:Int):=by omega
   have j7:(j:Int) <7:=by omega
   have hqr:q≤wr.heap.size:=Nat.le_of_lt g1
   clear hj c9
   go_wp2_with fail
   refine (rApp03_ok L (32+8*k) A1 d1 ok _ rfl 4 4 rfl wr (by omega) (by decide) (by omega) (own_slice HO.out).2).mono ?_
   rintro e wa ⟨va,rfl,ho,hb⟩
   obtain ⟨Aa,da,rfl,_⟩:=own_form ho
   have RA:=Lib.hid (own_slice ho).2
   have hqa:q≤wa.heap.size:=Nat.le_trans hqr hb.size
   have KA:=Lib.hid (HK.out.below hb HK.out.lt)
   have c9:=(hb.cell (p:=⟨q,9+j,none⟩) HK.out.lt).trans C9.out
   have BA:=Lib.hid (HB.out.trans (hb.mono hqr))
   clear ho hb HO HK HB g1 C9 c2
   have g1:=KA.out.lt
   go_wp2_with fail
   refine (rApp03_ok _ (32+8*k+4) Aa da nj _ rfl 4 4 rfl wa (by omega) (by decide) (by omega) RA.out).mono ?_
   rintro e wb ⟨vb,rfl,ho,hb⟩
   have OB:=Lib.hid (own_lessB ho hqa)
   have KB:=Lib.hid (KA.out.below hb KA.out.lt)
   have BB:=Lib.hid (BA.out.trans (hb.mono hqa))
   clear ho hb KA BA RA g1 c9
   have HJ6:=Lib.hid hj6
   go_wp2
   go_roundw
   case rel=>
    refine ⟨k+1,by have:=HJ.out;have:=HJ6.out;omega, ?_, ?_,KB,BB⟩
    ·rw [HJ.out];go_num
    ·rw [HJ.out,HN.out]
     have e:32+8*k+4+4=32+8*j:=by have:=HJ.out;omega
     rw [←e]
     exact OB
   case measure=>simp [intOf];omega
  ·obtain rfl:k=6:=by omega
   have HE:=Lib.hid (show bytV (l8++entB n (secL 6))=bytV (hdrB fn n) by rw [hdrB_ent,HH0.out,secL_six])
   go_wp2
   go_ret
   refine ⟨_,rfl, ?_,by rw [HQ.out];exact HB.out⟩
   rw [HQ.out, ←HE.out]
   exact HO.out
end Go.Proofs.YtcfoolooemhbeaaGreat
namespace Go.Proofs.YtcfoolooemhbeaaGreat
open Go.RowKit
theorem hd_at {w:World} {B k:Nat} {A:Option Addr} {l:List (Int × Int × Int)} {x:Int × Int × Int} (h:Rd w B 3 A l.length (l.flatMap hdC)) (hk:l[k]? =some x):
  ∃b o,A=some ⟨b,o,none⟩∧b <B∧w.cell? ⟨b,o+k*3,none⟩=some (.int .u16 x.1)∧w.cell? ⟨b,o+k*3+1,none⟩=some (.int .u16 x.2.1)∧w.cell? ⟨b,o+k*3+2,none⟩=some (.int .u16 x.2.2):=by
 obtain ⟨b,o,e,hb,hc⟩:=Rd.get (f:=hdC) (sz:=3) (fun _=>rfl) h hk
 exact ⟨b,o,e,hb,hc 0 _ rfl,hc 1 _ rfl,hc 2 _ rfl⟩
theorem lk_at {w:World} {B k:Nat} {A:Option Addr} {l:List (Int × Int)} {x:Int × Int} (h:Rd w B 2 A l.length (l.flatMap lkC)) (hk:l[k]? =some x):
  ∃b o,A=some ⟨b,o,none⟩∧b <B∧w.cell? ⟨b,o+k*2,none⟩=some (.int .u16 x.1)∧w.cell? ⟨b,o+k*2+1,none⟩=some (.int .u16 x.2):=by
 obtain ⟨b,o,e,hb,hc⟩:=Rd.get (f:=lkC) (sz:=2) (fun _=>rfl) h hk
 exact ⟨b,o,e,hb,hc 0 _ rfl,hc 1 _ rfl⟩
theorem cntS1 {c:Cfg} (h: ∀s,1≤s→s≤6→cntOf c s≤limN s):c.parts.length≤1024:=Nat.le_trans (h 1 (by decide) (by decide)) (by decide)
theorem cntS2 {c:Cfg} (h: ∀s,1≤s→s≤6→cntOf c s≤limN s):c.wins.length≤1024:=Nat.le_trans (h 2 (by decide) (by decide)) (by decide)
theorem cntS3 {c:Cfg} (h: ∀s,1≤s→s≤6→cntOf c s≤limN s):c.regs.length≤1024:=Nat.le_trans (h 3 (by decide) (by decide)) (by decide)
theorem cntS4 {c:Cfg} (h: ∀s,1≤s→s≤6→cntOf c s≤limN s):c.ports.length≤1024:=Nat.le_trans (h 4 (by decide) (by decide)) (by decide)
theorem cntS5 {c:Cfg} (h: ∀s,1≤s→s≤6→cntOf c s≤limN s):c.chans.length≤1024:=Nat.le_trans (h 5 (by decide) (by decide)) (by decide)
theorem cntS6 {c:Cfg} (h: ∀s,1≤s→s≤6→cntOf c s≤limN s):sumDests c.chans≤1024:=Nat.le_trans (h 6 (by decide) (by decide)) (by decide)
def imgS (q:Nat) (c:Cfg) (V0:Value) (T:Array Value):Nat→(Nat→Value)→World→Prop
 |0,u,_=>u 0= .pointer (some ⟨q,0,none⟩)
 |1,u,_=>u 1= .int .u64 c.frame
 |2,u,_=>u 2=V0
 |3,u,_=>u 3= .agg (cntCl (cntOf c))
 |4,u,_=>u 4= .tuple #[.agg T, .bool true]
 |5,u,_=>u 5= .tuple #[.agg T, .bool true]
 |6,u,_=>u 6= .agg T
 |7,u,_=>u 7= .bool true
 |8,u,W=> ∃g,u 8= .pointer (some ⟨g,0,none⟩)∧q+1≤g∧ ∃cs,Blk W g 62 cs∧cs.size=16
 |9,u,W=> ∃g,u 8= .pointer (some ⟨g,0,none⟩)∧q+1≤g∧Blk W g 62 T
 |10,u,_=>u 10= .bool true
 |_,_,_=>True
set_option maxRecDepth 100000 in
set_option maxHeartbeats 16000000 in
theorem rImage_ok (c:Cfg) (A1 A2 A3 A4 A5:Option Addr) (c1 c2 c3 c4 c5:Nat) (w:World) (hR:CfgR w w.heap.size c A1 A2 A3 A4 A5 c1 c2 c3 c4 c5) (hok:c.ok) (hs:c.small) (hl: ∀s,1≤s→s≤6→cntOf c s≤limN s)
  (hnm:(∀p ∈ c.parts,nameOk p.name=true)∧(∀p ∈ c.ports,nameOk p.name=true)):
  Calls Tryz.prog 51 #[cfgV c.frame A1 A2 A3 A4 A5 c.parts.length c.wins.length c.regs.length c.ports.length c.chans.length c1 c2 c3 c4 c5] w fun e w'=> ∃v,e= .returned v∧w'.ownsRow w.heap.size 5 1 v (imgB c).length (bytV (imgB c))∧Below w.heap.size w w':=by
 obtain ⟨W0,hW,st⟩:=St.start_any hR 29
 have HW:=Lib.hid hW
 have ST0:=Lib.hid st
 have HOK:=Lib.hid hok
 have HL:=Lib.hid hl
 have HNM:=Lib.hid hnm
 have HSM:=Lib.hid hs
 have HCN:=Lib.hid (cnt_le hl)
 obtain ⟨i0,hi,hz0,hz1,hz2⟩:=info_parts info_u8B
 obtain ⟨T,hT⟩: ∃T,tabCl c.frame (cntOf c)=T:=⟨_,rfl⟩
 have HFO:=Lib.hid (show ∀U,Calls Tryz.prog 18 #[.int .u64 c.frame, .agg (cntCl (cntOf c))] U fun e w'=>e= .returned (.tuple #[.agg T, .bool true])∧Below U.heap.size U w' from fun U=>by rw [←hT];exact rFor_ok c.frame (cntOf c) (cnt_le hl) hl U)
 have HTI:=Lib.hid (show (Tryz.prog.info? 62).map (·.size)=some T.size by rw [←hT];kernel_rfl)
 have HTS:=Lib.hid (show T.size=16 by rw [←hT];rfl)
 have HT1:=Lib.hid (show T.all (·.oneCell')=true by rw [←hT, ←(ftab_whole c.frame (cntOf c)).1];exact tabA_one _ _ _ _)
 have HT:=Lib.hid hT
 clear hR hW st hok hs hl hnm hT
 go_enter Tryz.func51,Tryz.ntmps51
 go_upto_region 1 with (fail)
 rw [HW.out]
 refine wp_region_SA (by kernel_rfl) (by kernel_rfl) (by kernel_rfl)
  (fun u=> {tmps:=(#[cfgV c.frame A1 A2 A3 A4 A5 c.parts.length c.wins.length c.regs.length c.ports.length c.chans.length c1 c2 c3 c4 c5, .pointer (some ⟨w.heap.size,0,none⟩), .slice none 0 0,u 8,u 10,undef,undef,undef,undef,undef,undef,undef,undef,undef,u 5,u 0,u 1,u 2,u 3,u 4,u 6,u 7,undef,undef,undef,undef,undef,undef,undef,undef,undef,undef,undef,undef,undef,undef,undef,undef,undef,undef,undef,undef,undef,undef,undef,undef,undef,undef,undef,undef,undef,undef,undef,undef,undef,undef,undef,undef,undef,undef,undef,undef,undef,undef,undef,undef,undef,undef,undef,undef,undef,undef,undef,undef,undef,undef,undef,undef,undef,undef,undef,undef,undef,undef,undef,undef,undef,undef,undef,undef,undef,undef,undef,undef,undef,undef,undef,undef,undef,undef,undef,undef,undef,undef,undef,undef,undef,undef,undef,undef,undef,undef,undef,undef,undef,undef,undef,undef,undef,undef,undef,undef,undef,undef,undef,undef,undef,undef,undef]),defers:= []}) (fun _=>undef) ?ha ?hput
  (imgS w.heap.size c (cfgV c.frame A1 A2 A3 A4 A5 c.parts.length c.wins.length c.regs.length c.ports.length c.chans.length c1 c2 c3 c4 c5) T) (fun _ U=>St w (U) c A1 A2 A3 A4 A5 c1 c2 c3 c4 c5) (fun j u U U'=>if j=9 then ∃g,u 8= .pointer (some ⟨g,0,none⟩)∧w.heap.size+1≤g∧U'=U.setRow g T else Below U.heap.size U U')
  (ST0.out.up (Below.refl _ _).drew) ?hst ?hloc ?hop ?hend
 case ha=>rfl
 case hput=>
  intro i o ho u v
  have hi:i <11:=(Array.getElem?_eq_some_iff.1 ho).1
  obtain rfl |rfl |rfl |rfl |rfl |rfl |rfl |rfl |rfl |rfl |rfl:=(by omega:i=0∨i=1∨i=2∨i=3∨i=4∨i=5∨i=6∨i=7∨i=8∨i=9∨i=10)
  all_goals
   cases ho
   rfl
 case hst=>
  intro i j u U U' hij hE hS hle
  by_cases hj:j=9
  ·subst hj
   rw [if_pos rfl] at hle
   obtain ⟨g,hg,hq,rfl⟩:=hle
   match i,hS with
   |0,hS=>exact hS
   |1,hS=>exact hS
   |2,hS=>exact hS
   |3,hS=>exact hS
   |4,hS=>exact hS
   |5,hS=>exact hS
   |6,hS=>exact hS
   |7,hS=>exact hS
   |8,⟨g2,h2,hq2,cs,hb,hz⟩=>
    have:g2=g:=by rw [hg] at h2;injection h2 with h2;injection h2 with h2;injection h2 with h2;exact h2.symm
    subst this
    exact ⟨g2,h2,hq2,T,setRow_blk hb T,HTS.out⟩
   |9,_=>exact absurd rfl hij
   |10,hS=>exact hS
   |_+11,_=>trivial
  ·rw [if_neg hj] at hle
   match i,hS with
   |0,hS=>exact hS
   |1,hS=>exact hS
   |2,hS=>exact hS
   |3,hS=>exact hS
   |4,hS=>exact hS
   |5,hS=>exact hS
   |6,hS=>exact hS
   |7,hS=>exact hS
   |8,⟨g2,h2,hq2,cs,hb,hz⟩=>exact ⟨g2,h2,hq2,cs,hb.below hle hb.lt,hz⟩
   |9,⟨g2,h2,hq2,hb⟩=>exact ⟨g2,h2,hq2,hb.below hle hb.lt⟩
   |10,hS=>exact hS
   |_+11,_=>trivial
 case hloc=>
  intro i o ho j u v U hij hdep hS
  match i,hS with
  |0,hS=>show upd u j v 0=_;rw [upd_ne (Ne.symm hij)];exact hS
  |1,hS=>show upd u j v 1=_;rw [upd_ne (Ne.symm hij)];exact hS
  |2,hS=>show upd u j v 2=_;rw [upd_ne (Ne.symm hij)];exact hS
  |3,hS=>show upd u j v 3=_;rw [upd_ne (Ne.symm hij)];exact hS
  |4,hS=>show upd u j v 4=_;rw [upd_ne (Ne.symm hij)];exact hS
  |5,hS=>show upd u j v 5=_;rw [upd_ne (Ne.symm hij)];exact hS
  |6,hS=>show upd u j v 6=_;rw [upd_ne (Ne.symm hij)];exact hS
  |7,hS=>show upd u j v 7=_;rw [upd_ne (Ne.symm hij)];exact hS
  |8,⟨g2,h2,hq2,hb⟩=>exact ⟨g2,(show upd u j v 8=u 8 from upd_ne (Ne.symm hij) _ _).trans h2,hq2,hb⟩
  |9,⟨g2,h2,hq2,hb⟩=>
   cases ho
   have h8:8≠j:=hdep ⟨8, .data⟩ (by simp) rfl
   exact ⟨g2,(show upd u j v 8=u 8 from upd_ne h8 _ _).trans h2,hq2,hb⟩
  |10,hS=>show upd u j v 10=_;rw [upd_ne (Ne.symm hij)];exact hS
  |_+11,_=>trivial
 case hop=>
  intro i o ho u U hE hp Kk hK
  have hzz:=hE.z
  match i,ho with
  |0,ho=>
   cases ho
   refine RunsTo.wp (RunsTo.val (.pointer (some ⟨w.heap.size,0,none⟩)) (V:=U) ?_ (hK _ _ hE (Below.refl _ _) rfl))
   simp only [execOp]
   go_simp
  |1,ho=>
   cases ho
   obtain ⟨x0,x1,x2,x3,x4,x5,hz⟩:=hE.cells
   have q0:u 0= .pointer (some ⟨w.heap.size,0,none⟩):=hp ⟨0, .data⟩ (by simp) rfl
   refine RunsTo.wp (RunsTo.val (.int .u64 c.frame) (V:=U) ?_ (hK _ _ hE (Below.refl _ _) rfl))
   simp only [execOp]
   go_simp
  |2,ho=>
   cases ho
   obtain ⟨x0,x1,x2,x3,x4,x5,hz⟩:=hE.cells
   refine RunsTo.wp (RunsTo.val (cfgV c.frame A1 A2 A3 A4 A5 c.parts.length c.wins.length c.regs.length c.ports.length c.chans.length c1 c2 c3 c4 c5) (V:=U) ?_ (hK _ _ hE (Below.refl _ _) rfl))
   simp only [execOp]
   go_simp
  |3,ho=>
   cases ho
   have q2:u 2=cfgV c.frame A1 A2 A3 A4 A5 c.parts.length c.wins.length c.regs.length c.ports.length c.chans.length c1 c2 c3 c4 c5:=hp ⟨2, .data⟩ (by simp) rfl
   refine RunsTo.wp (RunsTo.call (V:=U) 19 #[cfgV c.frame A1 A2 A3 A4 A5 c.parts.length c.wins.length c.regs.length c.ports.length c.chans.length c1 c2 c3 c4 c5] ?_ ?_)
   ·simp only [execOp]
    go_simp
   ·refine (counts_ok c _ _ _ _ _ _ _ _ _ _ _ hE.R HSM.out).mono ?_
    rintro e V ⟨rfl,hb⟩
    exact ⟨_,rfl,hK _ _ (hE.up hb) hb rfl⟩
  |4,ho=>
   cases ho
   have q1:u 1= .int .u64 c.frame:=hp ⟨1, .data⟩ (by simp) rfl
   have q3:u 3= .agg (cntCl (cntOf c)):=hp ⟨3, .data⟩ (by simp) rfl
   refine RunsTo.wp (RunsTo.call (V:=U) 18 #[.int .u64 c.frame, .agg (cntCl (cntOf c))] ?_ ?_)
   ·simp only [execOp]
    go_simp
   ·refine (HFO.out U).mono ?_
    rintro e V ⟨rfl,hb⟩
    exact ⟨_,rfl,hK _ _ (hE.up hb) hb rfl⟩
  |5,ho=>
   cases ho
   have q4:u 4= .tuple #[.agg T, .bool true]:=hp ⟨4, .data⟩ (by simp) rfl
   refine RunsTo.wp (RunsTo.val (.tuple #[.agg T, .bool true]) (V:=U) ?_ (hK _ _ hE (Below.refl _ _) rfl))
   simp only [execOp]
   go_simp
  |6,ho=>
   cases ho
   have q5:u 5= .tuple #[.agg T, .bool true]:=hp ⟨5, .data⟩ (by simp) rfl
   refine RunsTo.wp (RunsTo.val (.agg T) (V:=U) ?_ (hK _ _ hE (Below.refl _ _) rfl))
   simp only [execOp]
   go_simp
  |7,ho=>
   cases ho
   have q5:u 5= .tuple #[.agg T, .bool true]:=hp ⟨5, .data⟩ (by simp) rfl
   refine RunsTo.wp (RunsTo.val (.bool true) (V:=U) ?_ (hK _ _ hE (Below.refl _ _) rfl))
   simp only [execOp]
   go_simp
  |8,ho=>
   cases ho
   refine RunsTo.wp (RunsTo.val (.pointer (some ⟨U.heap.size,0,none⟩)) (V:=U.alloc (.cells tabZ 62)) ?_ (hK _ _ (hE.alloc _) (below_one _ _) ⟨U.heap.size,rfl,hzz,tabZ,Blk.new U _ _,rfl⟩))
   simp only [execOp]
   go_simp
  |9,ho=>
   cases ho
   obtain ⟨g,hg,hq,cs,hb,hz⟩: ∃g,u 8= .pointer (some ⟨g,0,none⟩)∧w.heap.size+1≤g∧ ∃cs,Blk U g 62 cs∧cs.size=16:=hp ⟨8, .data⟩ (by simp) rfl
   have q6:u 6= .agg T:=hp ⟨6, .data⟩ (by simp) rfl
   have hbr:Below (w.heap.size+1) U (U.setRow g T):=below_setRow (Below.refl _ _) hq _
   have e0: ∀u':Nat→Value,u' 8=u 8→ ∃g',u' 8= .pointer (some ⟨g',0,none⟩)∧w.heap.size+1≤g'∧Blk (U.setRow g T) g' 62 T:=fun u' h'=>⟨g,h'.trans hg,hq,setRow_blk hb T⟩
   refine wp_skip (w':=U.setRow g T) ?_ (hK undef _ (hE.keep hbr) (by rw [if_pos rfl];exact ⟨g,hg,hq,rfl⟩) (e0 _ (upd_ne (show (8:Nat)≠9 by decide) _ _)))
   have hrun:=run_storeVar_row (P:=Tryz.prog) U g _ 62 cs T hb HTI.out (hz.trans HTS.out.symm) HT1.out
   generalize hρ:Act.eval _=ρ
   have e3:ρ (.tmp 3)= .pointer (some ⟨g,0,none⟩):=by rw [←hρ];exact hg
   have e20:ρ (.tmp 20)= .agg T:=by rw [←hρ];exact q6
   simp only [List.getElem_toArray,List.getElem_cons_succ,List.getElem_cons_zero,execOp,e3,e20,Instr.storeAt,Instr.sureAddr,Sem.run_bind,Sem.run_pure,Result.andThen_ok,hrun]
  |10,ho=>
   cases ho
   have q7:u 7= .bool true:=hp ⟨7, .data⟩ (by simp) rfl
   refine RunsTo.wp (RunsTo.val (.bool true) (V:=U) ?_ (hK _ _ hE (Below.refl _ _) rfl))
   simp only [execOp]
   go_simp
  |k+11,ho=>exact absurd ho (by simp)
 case hend=>
 intro u w1 hE hS
 obtain ⟨g,hg,hqg,hbT⟩: ∃g,u 8= .pointer (some ⟨g,0,none⟩)∧w.heap.size+1≤g∧Blk w1 g 62 T:=hS 9 (by decide)
 have h10:u 10= .bool true:=hS 10 (by decide)
 have ST1:=Lib.hid hE
 have TB:=Lib.hid hbT
 clear hS hE hqg
 dsimp only
 rw [hg,h10]
 have HHD:=Lib.hid (show ∀U,Calls Tryz.prog 119 #[.agg T] U fun e w'=> ∃v,e= .returned v∧w'.ownsRow U.heap.size 5 1 v 80 (bytV (hdrB c.frame (cntOf c)))∧Below U.heap.size U w' from fun U=>by rw [←HT.out];exact rHeader_ok c.frame (cntOf c) HOK.out.frame HCN.out U)
 clear hbT
 go_wp2_with (refine wpList_load_row rfl 62 (.tmp 3) rfl g rfl _ _ _ _ TB.out Tryz.underlying62 rfl HTI.out ?_)
 refine (HHD.out w1).mono ?_
 rintro e w2 ⟨v2,rfl,ho2,hb2⟩
 have BB:=Lib.hid hb2
 have OB:=Lib.hid (show w2.ownsRow w1.heap.size 5 1 v2 (bodyB c 0).length (bytV (bodyB c 0)) by rw [show (bodyB c 0).length=80 from hdrB_len _ _];exact ho2)
 obtain ⟨b0,e0,rfl,_⟩:=own_form ho2
 clear ho2 hb2 hg h10 HHD TB HFO
 have HN1:=Lib.hid (body_lim HL.out 0 (by decide))
 have HX1:=Lib.hid (show bodyB c 1=algB (bodyB c 0++c.parts.flatMap parB) from rfl)
 have HZ1:=Lib.hid (show (bodyB c 1).length=alnN ((bodyB c 0).length+c.parts.length*56) by rw [bodyB_len,bodyB_len];rfl)
 generalize hP:bodyB c 0=P at*
 have HP1:=Lib.hid hP
 clear hP
 have hPL:=HN1.out
 have HPN:=Lib.hid (show P.length≤400000 from hPL)
 clear hPL
 have HLS:=Lib.hid (cntS1 HL.out)
 obtain ⟨N,hN⟩: ∃N,P.length=N:=⟨_,rfl⟩
 rw [hN] at OB HPN HZ1
 try rw [hN]
 have HNN:=Lib.hid hN
 clear hN
 go_wp2
 go_loopw [5,6] (fun v i wr=> ∃k:Nat,k≤c.parts.length∧i= .int .i64 k∧Hid (wr.ownsRow w1.heap.size 5 1 v (N+k*56) (bytV (P++(c.parts.take k).flatMap parB)))∧Hid (Below w1.heap.size w1 wr)) (fun _ i _=>c.parts.length -(intOf i).toNat)
 case atStart=>exact ⟨0,Nat.zero_le _,rfl,Lib.hid (by simpa using OB.out),BB⟩
 case round=>
  obtain ⟨k,hk,rfl,HO,HB⟩:=hrel
  have STr:=Lib.hid (ST1.out.up HB.out)
  obtain ⟨x0,x1,x2,x3,x4,x5,hz⟩:=STr.out.cells
  obtain ⟨vA,vc,rfl,_⟩:=own_form HO.out
  by_cases hlt:k <c.parts.length
  ·obtain ⟨x,hx⟩:=get_lt hlt
   obtain ⟨b,o,rfl,hb,g0,g1,g2,g3⟩:=par_at STr.out.R.parts hx
   have hxo:=HOK.out.parts x (List.mem_of_getElem? hx)
   have hxn:=HNM.out.1 x (List.mem_of_getElem? hx)
   have k0:(0:Int)≤(k:Int):=by omega
   have k1:(k:Int) <(c.parts.length:Int):=by omega
   have HNX:=Lib.hid (show (c.parts.take (k+1)).flatMap parB=(c.parts.take k).flatMap parB++parB x by rw [take_next hx,List.flatMap_append];simp)
   have hkl:=HLS.out
   have hpn:=HPN.out
   have hwr:w1.heap.size≤wr.heap.size:=HB.out.size
   clear hx
   go_upto_region 6 with (fail)
   go_wp2_with fail
   refine (rParB_ok x wr hxo hxn).mono ?_
   rintro e w4 ⟨v4,rfl,ho4,hb4⟩
   obtain ⟨a4,d4,rfl,_⟩:=own_form ho4
   have HR4:=Lib.hid (own_slice ho4).2
   have HO5:=Lib.hid (own_below HO.out hb4)
   have HB5:=Lib.hid (Below.then_ HB.out hb4)
   have hw4:w1.heap.size≤w4.heap.size:=HB5.out.size
   clear ho4 hb4 x0 x1 x2 x3 x4 x5 g0 g1 g2 g3 hz hb HO HB STr
   go_wp2_with (at_builtin;go_loud (refine wpList_append_rd _ rfl (.tmp 31) (.tmp 37) _ rfl w1.heap.size 5 i0 (.int .u8 0) 1 1 Tryz.underlying32 hi hz0 hz1 hz2 rfl (by decide) _ (N+k*56) (bytV (P++(c.parts.take k).flatMap parB)) (by rfl) HO5.out w4.heap.size a4 56 d4 (bytV (parB x)) (by rfl) HR4.out (bytV_one _) (by unfold maxLen;omega) (by omega) hw4 ?_);intro v6 w6 ho6 hg6)
   have HB6:=Lib.hid (below_own HB5.out hg6 HO5.out hw4)
   have HO6:=Lib.hid (show w6.ownsRow w1.heap.size 5 1 v6 (N+(k+1)*56) (bytV (P++(c.parts.take (k+1)).flatMap parB)) by
    rw [HNX.out, ←List.append_assoc,bytV_app,show N+(k+1)*56=N+k*56+56 by omega]
    exact ho6)
   clear ho6 hg6 HO5 HB5
   go_wp2
   go_roundw
   case rel=>exact ⟨k+1,by omega,by go_num,HO6,HB6⟩
   case measure=>simp [intOf];omega
  ·obtain rfl:k=c.parts.length:=by omega
   have HF:=Lib.hid (show c.parts.take c.parts.length=c.parts from List.take_length)
   have HO2:=Lib.hid (show wr.ownsRow w1.heap.size 5 1 (.slice vA (N+c.parts.length*56) vc) (N+c.parts.length*56) (bytV (P++c.parts.flatMap parB)) by have h:=HO.out;rw [HF.out] at h;exact h)
   have hkl:=HLS.out
   have hpn:=HPN.out
   go_wp2_with fail
   clear x0 x1 x2 x3 x4 x5 hz HO STr OB BB
   refine (rAlign11_ok w1.heap.size (P++c.parts.flatMap parB) (N+c.parts.length*56) (by rw [List.length_append,HNN.out,flat_lenN _ _ parB_len]) _ wr HB.out.size HO2.out (by omega)).mono ?_
   rintro e w7 ⟨v7,rfl,ho7,hb7⟩
   rw [←HX1.out, ←HZ1.out] at ho7
   have OB:=Lib.hid ho7
   have BB:=Lib.hid (HB.out.trans hb7)
   obtain ⟨b1,e1,rfl,_⟩:=own_form ho7
   clear ho7 hb7 HB HO2 HN1 HX1 HZ1 HP1 HPN HLS HNN HF hlt hk hkl hpn
   have HN2:=Lib.hid (body_lim HL.out 1 (by decide))
   have HX2:=Lib.hid (show bodyB c 2=algB (bodyB c 1++c.wins.flatMap winB) from rfl)
   have HZ2:=Lib.hid (show (bodyB c 2).length=alnN ((bodyB c 1).length+c.wins.length*24) by rw [bodyB_len,bodyB_len];rfl)
   generalize hP:bodyB c 1=P at*
   have HP2:=Lib.hid hP
   clear hP
   have hPL:=HN2.out
   have HPN:=Lib.hid (show P.length≤400000 from hPL)
   clear hPL
   have HLS:=Lib.hid (cntS2 HL.out)
   obtain ⟨N,hN⟩: ∃N,P.length=N:=⟨_,rfl⟩
   rw [hN] at OB HPN HZ2
   try rw [hN]
   have HNN:=Lib.hid hN
   clear hN
   go_wp2
   go_loopw [5,7] (fun v i wr=> ∃k:Nat,k≤c.wins.length∧i= .int .i64 k∧Hid (wr.ownsRow w1.heap.size 5 1 v (N+k*24) (bytV (P++(c.wins.take k).flatMap winB)))∧Hid (Below w1.heap.size w1 wr)) (fun _ i _=>c.wins.length -(intOf i).toNat)
   case atStart=>exact ⟨0,Nat.zero_le _,rfl,Lib.hid (by simpa using OB.out),BB⟩
   case round=>
    obtain ⟨k,hk,rfl,HO,HB⟩:=hrel
    have STr:=Lib.hid (ST1.out.up HB.out)
    obtain ⟨x0,x1,x2,x3,x4,x5,hz⟩:=STr.out.cells
    obtain ⟨vA,vc,rfl,_⟩:=own_form HO.out
    by_cases hlt:k <c.wins.length
    ·obtain ⟨x,hx⟩:=get_lt hlt
     obtain ⟨b,o,rfl,hb,g0,g1,g2⟩:=win_at STr.out.R.wins hx
     have hxo:=HOK.out.wins x (List.mem_of_getElem? hx)
     have k0:(0:Int)≤(k:Int):=by omega
     have k1:(k:Int) <(c.wins.length:Int):=by omega
     have HNX:=Lib.hid (show (c.wins.take (k+1)).flatMap winB=(c.wins.take k).flatMap winB++winB x by rw [take_next hx,List.flatMap_append];simp)
     have hkl:=HLS.out
     have hpn:=HPN.out
     have hwr:w1.heap.size≤wr.heap.size:=HB.out.size
     clear hx
     go_upto_region 11 with (fail)
     go_wp2_with fail
     refine (rWinB_ok x wr hxo).mono ?_
     rintro e w4 ⟨v4,rfl,ho4,hb4⟩
     obtain ⟨a4,d4,rfl,_⟩:=own_form ho4
     have HR4:=Lib.hid (own_slice ho4).2
     have HO5:=Lib.hid (own_below HO.out hb4)
     have HB5:=Lib.hid (Below.then_ HB.out hb4)
     have hw4:w1.heap.size≤w4.heap.size:=HB5.out.size
     clear ho4 hb4 x0 x1 x2 x3 x4 x5 g0 g1 g2 hz hb HO HB STr
     go_wp2_with (at_builtin;go_loud (refine wpList_append_rd _ rfl (.tmp 48) (.tmp 54) _ rfl w1.heap.size 5 i0 (.int .u8 0) 1 1 Tryz.underlying32 hi hz0 hz1 hz2 rfl (by decide) _ (N+k*24) (bytV (P++(c.wins.take k).flatMap winB)) (by rfl) HO5.out w4.heap.size a4 24 d4 (bytV (winB x)) (by rfl) HR4.out (bytV_one _) (by unfold maxLen;omega) (by omega) hw4 ?_);intro v6 w6 ho6 hg6)
     have HB6:=Lib.hid (below_own HB5.out hg6 HO5.out hw4)
     have HO6:=Lib.hid (show w6.ownsRow w1.heap.size 5 1 v6 (N+(k+1)*24) (bytV (P++(c.wins.take (k+1)).flatMap winB)) by
      rw [HNX.out, ←List.append_assoc,bytV_app,show N+(k+1)*24=N+k*24+24 by omega]
      exact ho6)
     clear ho6 hg6 HO5 HB5
     go_wp2
     go_roundw
     case rel=>exact ⟨k+1,by omega,by go_num,HO6,HB6⟩
     case measure=>simp [intOf];omega
    ·obtain rfl:k=c.wins.length:=by omega
     have HF:=Lib.hid (show c.wins.take c.wins.length=c.wins from List.take_length)
     have HO2:=Lib.hid (show wr.ownsRow w1.heap.size 5 1 (.slice vA (N+c.wins.length*24) vc) (N+c.wins.length*24) (bytV (P++c.wins.flatMap winB)) by have h:=HO.out;rw [HF.out] at h;exact h)
     have hkl:=HLS.out
     have hpn:=HPN.out
     go_wp2_with fail
     clear x0 x1 x2 x3 x4 x5 hz HO STr OB BB
     refine (rAlign11_ok w1.heap.size (P++c.wins.flatMap winB) (N+c.wins.length*24) (by rw [List.length_append,HNN.out,flat_lenN _ _ winB_len]) _ wr HB.out.size HO2.out (by omega)).mono ?_
     rintro e w7 ⟨v7,rfl,ho7,hb7⟩
     rw [←HX2.out, ←HZ2.out] at ho7
     have OB:=Lib.hid ho7
     have BB:=Lib.hid (HB.out.trans hb7)
     obtain ⟨b2,e2,rfl,_⟩:=own_form ho7
     clear ho7 hb7 HB HO2 HN2 HX2 HZ2 HP2 HPN HLS HNN HF hlt hk hkl hpn
     have HN3:=Lib.hid (body_lim HL.out 2 (by decide))
     have HX3:=Lib.hid (show bodyB c 3=algB (bodyB c 2++c.regs.flatMap regB) from rfl)
     have HZ3:=Lib.hid (show (bodyB c 3).length=alnN ((bodyB c 2).length+c.regs.length*24) by rw [bodyB_len,bodyB_len];rfl)
     generalize hP:bodyB c 2=P at*
     have HP3:=Lib.hid hP
     clear hP
     have hPL:=HN3.out
     have HPN:=Lib.hid (show P.length≤400000 from hPL)
     clear hPL
     have HLS:=Lib.hid (cntS3 HL.out)
     obtain ⟨N,hN⟩: ∃N,P.length=N:=⟨_,rfl⟩
     rw [hN] at OB HPN HZ3
     try rw [hN]
     have HNN:=Lib.hid hN
     clear hN
     go_wp2
     go_loopw [5,8] (fun v i wr=> ∃k:Nat,k≤c.regs.length∧i= .int .i64 k∧Hid (wr.ownsRow w1.heap.size 5 1 v (N+k*24) (bytV (P++(c.regs.take k).flatMap regB)))∧Hid (Below w1.heap.size w1 wr)) (fun _ i _=>c.regs.length -(intOf i).toNat)
     case atStart=>exact ⟨0,Nat.zero_le _,rfl,Lib.hid (by simpa using OB.out),BB⟩
     case round=>
      obtain ⟨k,hk,rfl,HO,HB⟩:=hrel
      have STr:=Lib.hid (ST1.out.up HB.out)
      obtain ⟨x0,x1,x2,x3,x4,x5,hz⟩:=STr.out.cells
      obtain ⟨vA,vc,rfl,_⟩:=own_form HO.out
      by_cases hlt:k <c.regs.length
      ·obtain ⟨x,hx⟩:=get_lt hlt
       obtain ⟨b,o,rfl,hb,g0,g1,g2,g3,g4⟩:=reg_at STr.out.R.regs hx
       have hxo:=HOK.out.regs x (List.mem_of_getElem? hx)
       have k0:(0:Int)≤(k:Int):=by omega
       have k1:(k:Int) <(c.regs.length:Int):=by omega
       have HNX:=Lib.hid (show (c.regs.take (k+1)).flatMap regB=(c.regs.take k).flatMap regB++regB x by rw [take_next hx,List.flatMap_append];simp)
       have hkl:=HLS.out
       have hpn:=HPN.out
       have hwr:w1.heap.size≤wr.heap.size:=HB.out.size
       clear hx
       go_upto_region 16 with (fail)
       go_wp2_with fail
       refine (rRegB_ok x wr hxo).mono ?_
       rintro e w4 ⟨v4,rfl,ho4,hb4⟩
       obtain ⟨a4,d4,rfl,_⟩:=own_form ho4
       have HR4:=Lib.hid (own_slice ho4).2
       have HO5:=Lib.hid (own_below HO.out hb4)
       have HB5:=Lib.hid (Below.then_ HB.out hb4)
       have hw4:w1.heap.size≤w4.heap.size:=HB5.out.size
       clear ho4 hb4 x0 x1 x2 x3 x4 x5 g0 g1 g2 g3 g4 hz hb HO HB STr
       go_wp2_with (at_builtin;go_loud (refine wpList_append_rd _ rfl (.tmp 65) (.tmp 71) _ rfl w1.heap.size 5 i0 (.int .u8 0) 1 1 Tryz.underlying32 hi hz0 hz1 hz2 rfl (by decide) _ (N+k*24) (bytV (P++(c.regs.take k).flatMap regB)) (by rfl) HO5.out w4.heap.size a4 24 d4 (bytV (regB x)) (by rfl) HR4.out (bytV_one _) (by unfold maxLen;omega) (by omega) hw4 ?_);intro v6 w6 ho6 hg6)
       have HB6:=Lib.hid (below_own HB5.out hg6 HO5.out hw4)
       have HO6:=Lib.hid (show w6.ownsRow w1.heap.size 5 1 v6 (N+(k+1)*24) (bytV (P++(c.regs.take (k+1)).flatMap regB)) by
        rw [HNX.out, ←List.append_assoc,bytV_app,show N+(k+1)*24=N+k*24+24 by omega]
        exact ho6)
       clear ho6 hg6 HO5 HB5
       go_wp2
       go_roundw
       case rel=>exact ⟨k+1,by omega,by go_num,HO6,HB6⟩
       case measure=>simp [intOf];omega
      ·obtain rfl:k=c.regs.length:=by omega
       have HF:=Lib.hid (show c.regs.take c.regs.length=c.regs from List.take_length)
       have HO2:=Lib.hid (show wr.ownsRow w1.heap.size 5 1 (.slice vA (N+c.regs.length*24) vc) (N+c.regs.length*24) (bytV (P++c.regs.flatMap regB)) by have h:=HO.out;rw [HF.out] at h;exact h)
       have hkl:=HLS.out
       have hpn:=HPN.out
       go_wp2_with fail
       clear x0 x1 x2 x3 x4 x5 hz HO STr OB BB
       refine (rAlign11_ok w1.heap.size (P++c.regs.flatMap regB) (N+c.regs.length*24) (by rw [List.length_append,HNN.out,flat_lenN _ _ regB_len]) _ wr HB.out.size HO2.out (by omega)).mono ?_
       rintro e w7 ⟨v7,rfl,ho7,hb7⟩
       rw [←HX3.out, ←HZ3.out] at ho7
       have OB:=Lib.hid ho7
       have BB:=Lib.hid (HB.out.trans hb7)
       obtain ⟨b3,e3,rfl,_⟩:=own_form ho7
       clear ho7 hb7 HB HO2 HN3 HX3 HZ3 HP3 HPN HLS HNN HF hlt hk hkl hpn
       have HN4:=Lib.hid (body_lim HL.out 3 (by decide))
       have HX4:=Lib.hid (show bodyB c 4=algB (bodyB c 3++c.ports.flatMap prtB) from rfl)
       have HZ4:=Lib.hid (show (bodyB c 4).length=alnN ((bodyB c 3).length+c.ports.length*48) by rw [bodyB_len,bodyB_len];rfl)
       generalize hP:bodyB c 3=P at*
       have HP4:=Lib.hid hP
       clear hP
       have hPL:=HN4.out
       have HPN:=Lib.hid (show P.length≤400000 from hPL)
       clear hPL
       have HLS:=Lib.hid (cntS4 HL.out)
       obtain ⟨N,hN⟩: ∃N,P.length=N:=⟨_,rfl⟩
       rw [hN] at OB HPN HZ4
       try rw [hN]
       have HNN:=Lib.hid hN
       clear hN
       go_wp2
       go_loopw [5,9] (fun v i wr=> ∃k:Nat,k≤c.ports.length∧i= .int .i64 k∧Hid (wr.ownsRow w1.heap.size 5 1 v (N+k*48) (bytV (P++(c.ports.take k).flatMap prtB)))∧Hid (Below w1.heap.size w1 wr)) (fun _ i _=>c.ports.length -(intOf i).toNat)
       case atStart=>exact ⟨0,Nat.zero_le _,rfl,Lib.hid (by simpa using OB.out),BB⟩
       case round=>
        obtain ⟨k,hk,rfl,HO,HB⟩:=hrel
        have STr:=Lib.hid (ST1.out.up HB.out)
        obtain ⟨x0,x1,x2,x3,x4,x5,hz⟩:=STr.out.cells
        obtain ⟨vA,vc,rfl,_⟩:=own_form HO.out
        by_cases hlt:k <c.ports.length
        ·obtain ⟨x,hx⟩:=get_lt hlt
         obtain ⟨b,o,rfl,hb,g0,g1,g2,g3,g4,g5⟩:=prt_at STr.out.R.ports hx
         have hxo:=HOK.out.ports x (List.mem_of_getElem? hx)
         have hxn:=HNM.out.2 x (List.mem_of_getElem? hx)
         have k0:(0:Int)≤(k:Int):=by omega
         have k1:(k:Int) <(c.ports.length:Int):=by omega
         have HNX:=Lib.hid (show (c.ports.take (k+1)).flatMap prtB=(c.ports.take k).flatMap prtB++prtB x by rw [take_next hx,List.flatMap_append];simp)
         have hkl:=HLS.out
         have hpn:=HPN.out
         have hwr:w1.heap.size≤wr.heap.size:=HB.out.size
         clear hx
         go_upto_region 21 with (fail)
         go_wp2_with fail
         refine (rPrtB_ok x wr hxo hxn).mono ?_
         rintro e w4 ⟨v4,rfl,ho4,hb4⟩
         obtain ⟨a4,d4,rfl,_⟩:=own_form ho4
         have HR4:=Lib.hid (own_slice ho4).2
         have HO5:=Lib.hid (own_below HO.out hb4)
         have HB5:=Lib.hid (Below.then_ HB.out hb4)
         have hw4:w1.heap.size≤w4.heap.size:=HB5.out.size
         clear ho4 hb4 x0 x1 x2 x3 x4 x5 g0 g1 g2 g3 g4 g5 hz hb HO HB STr
         go_wp2_with (at_builtin;go_loud (refine wpList_append_rd _ rfl (.tmp 82) (.tmp 88) _ rfl w1.heap.size 5 i0 (.int .u8 0) 1 1 Tryz.underlying32 hi hz0 hz1 hz2 rfl (by decide) _ (N+k*48) (bytV (P++(c.ports.take k).flatMap prtB)) (by rfl) HO5.out w4.heap.size a4 48 d4 (bytV (prtB x)) (by rfl) HR4.out (bytV_one _) (by unfold maxLen;omega) (by omega) hw4 ?_);intro v6 w6 ho6 hg6)
         have HB6:=Lib.hid (below_own HB5.out hg6 HO5.out hw4)
         have HO6:=Lib.hid (show w6.ownsRow w1.heap.size 5 1 v6 (N+(k+1)*48) (bytV (P++(c.ports.take (k+1)).flatMap prtB)) by
          rw [HNX.out, ←List.append_assoc,bytV_app,show N+(k+1)*48=N+k*48+48 by omega]
          exact ho6)
         clear ho6 hg6 HO5 HB5
         go_wp2
         go_roundw
         case rel=>exact ⟨k+1,by omega,by go_num,HO6,HB6⟩
         case measure=>simp [intOf];omega
        ·obtain rfl:k=c.ports.length:=by omega
         have HF:=Lib.hid (show c.ports.take c.ports.length=c.ports from List.take_length)
         have HO2:=Lib.hid (show wr.ownsRow w1.heap.size 5 1 (.slice vA (N+c.ports.length*48) vc) (N+c.ports.length*48) (bytV (P++c.ports.flatMap prtB)) by have h:=HO.out;rw [HF.out] at h;exact h)
         have hkl:=HLS.out
         have hpn:=HPN.out
         go_wp2_with fail
         clear x0 x1 x2 x3 x4 x5 hz HO STr OB BB
         refine (rAlign11_ok w1.heap.size (P++c.ports.flatMap prtB) (N+c.ports.length*48) (by rw [List.length_append,HNN.out,flat_lenN _ _ prtB_len]) _ wr HB.out.size HO2.out (by omega)).mono ?_
         rintro e w7 ⟨v7,rfl,ho7,hb7⟩
         rw [←HX4.out, ←HZ4.out] at ho7
         have OB:=Lib.hid ho7
         have BB:=Lib.hid (HB.out.trans hb7)
         obtain ⟨b4,e4,rfl,_⟩:=own_form ho7
         clear ho7 hb7 HB HO2 HN4 HX4 HZ4 HP4 HPN HLS HNN HF hlt hk hkl hpn
         have STq:=Lib.hid (ST1.out.up BB.out)
         obtain ⟨x0,x1,x2,x3,x4,x5,hz⟩:=STq.out.cells
         obtain ⟨csq,hCq,hrq⟩:=STq.out.R.chans
         have HCQ:=Lib.hid hCq
         have HRQ:=Lib.hid hrq
         have HDL:=Lib.hid (show ∀x ∈ c.chans,x.dests.length≤4194304 from fun x hx=>Nat.le_trans (dests_sum hx) (Nat.le_trans (cntS6 HL.out) (by decide)))
         have hcl5:=cntS5 HL.out
         have hcl6:=cntS6 HL.out
         clear hCq hrq
         go_wp2_with fail
         refine (rHeads_ok c.chans csq A5 c5 _ HCQ.out HRQ.out (by omega) HDL.out).mono ?_
         rintro e wh ⟨vh,rfl,hoh,hbh⟩
         have OB:=Lib.hid (own_below OB.out hbh)
         have hwq:=BB.out.size
         have BB:=Lib.hid (Below.then_ BB.out hbh)
         clear x0 x1 x2 x3 x4 x5 hz STq HCQ HRQ HDL hcl5 hcl6
         have HRO:=Lib.hid (hdT_ok (fun x hx=>HOK.out.chans x hx))
         have HFE:=Lib.hid (show (c.chans.map hdT).flatMap hdB3=secB c 5 from hdB_hdT _)
         have HRL:=Lib.hid (show (c.chans.map hdT).length≤1024 by rw [List.length_map];exact cntS5 HL.out)
         have HN5:=Lib.hid (body_lim HL.out 4 (by decide))
         have HX5:=Lib.hid (show bodyB c 5=algB (bodyB c 4++secB c 5) from rfl)
         have HZ5:=Lib.hid (show (bodyB c 5).length=alnN ((bodyB c 4).length+(c.chans.map hdT).length*8) by rw [bodyB_len,bodyB_len,List.length_map];rfl)
         rw [←List.length_map (f:=hdT)] at hoh
         obtain ⟨R,hRr⟩: ∃R,c.chans.map hdT=R:=⟨_,rfl⟩
         rw [hRr] at hoh HRO HFE HRL HZ5
         have HRR:=Lib.hid hRr
         have HH:=Lib.hid (own_lessB hoh hwq)
         obtain ⟨Ah,ch,rfl,_⟩:=own_form hoh
         clear hoh hbh hRr hwq
         obtain ⟨P,hP⟩: ∃P,bodyB c 4=P:=⟨_,rfl⟩
         rw [hP] at OB HN5 HX5 HZ5
         try rw [hP]
         have HPN:=HN5
         obtain ⟨N,hN⟩: ∃N,P.length=N:=⟨_,rfl⟩
         rw [hN] at OB HPN HZ5
         try rw [hN]
         have HNN:=Lib.hid hN
         clear hN hP
         go_wp2
         go_loopw [5,11] (fun v i wr=> ∃k:Nat,k≤R.length∧i= .int .i64 k∧Hid (wr.ownsRow w1.heap.size 5 1 v (N+k*8) (bytV (P++(R.take k).flatMap hdB3)))∧Hid (wr.ownsRow w1.heap.size 51 3 (.slice Ah R.length ch) R.length (R.flatMap hdC))∧Hid (Below w1.heap.size w1 wr)) (fun _ i _=>R.length -(intOf i).toNat)
         case atStart=>exact ⟨0,Nat.zero_le _,rfl,Lib.hid (by simpa using OB.out),HH,BB⟩
         case round=>
          obtain ⟨k,hk,rfl,HO,HH2,HB⟩:=hrel
          obtain ⟨vA,vc,rfl,_⟩:=own_form HO.out
          by_cases hlt:k <R.length
          ·obtain ⟨x,hx⟩:=get_lt hlt
           obtain ⟨b,o,rfl,hb,g0,g1,g2⟩:=hd_at (own_slice HH2.out).2 hx
           have hxo:=HRO.out x (List.mem_of_getElem? hx)
           have k0:(0:Int)≤(k:Int):=by omega
           have k1:(k:Int) <(R.length:Int):=by omega
           have HNX:=Lib.hid (show (R.take (k+1)).flatMap hdB3=(R.take k).flatMap hdB3++hdB3 x by rw [take_next hx,List.flatMap_append];simp)
           have hkl:=HRL.out
           have hpn:=HPN.out
           have hwr:w1.heap.size≤wr.heap.size:=HB.out.size
           clear hx
           go_upto_region 27 with (fail)
           go_wp2_with fail
           refine (rHdB_ok x wr hxo).mono ?_
           rintro e w4 ⟨v4,rfl,ho4,hb4⟩
           obtain ⟨a4,d4,rfl,_⟩:=own_form ho4
           have HR4:=Lib.hid (own_slice ho4).2
           have HO5:=Lib.hid (own_below HO.out hb4)
           have HH5:=Lib.hid (own_below HH2.out hb4)
           have HB5:=Lib.hid (Below.then_ HB.out hb4)
           have hw4:w1.heap.size≤w4.heap.size:=HB5.out.size
           clear ho4 hb4 g0 g1 g2 hb HO HB HH2
           go_wp2_with (at_builtin;go_loud (refine wpList_append_rd _ rfl (.tmp 101) (.tmp 106) _ rfl w1.heap.size 5 i0 (.int .u8 0) 1 1 Tryz.underlying32 hi hz0 hz1 hz2 rfl (by decide) _ (N+k*8) (bytV (P++(R.take k).flatMap hdB3)) (by rfl) HO5.out w4.heap.size a4 8 d4 (bytV (hdB3 x)) (by rfl) HR4.out (bytV_one _) (by unfold maxLen;omega) (by omega) hw4 ?_);intro v6 w6 ho6 hg6)
           have HB6:=Lib.hid (below_own HB5.out hg6 HO5.out hw4)
           have HH6:=Lib.hid (own_off HH5.out (Off.of_own HO5.out hg6) (by decide))
           have HO6:=Lib.hid (show w6.ownsRow w1.heap.size 5 1 v6 (N+(k+1)*8) (bytV (P++(R.take (k+1)).flatMap hdB3)) by
            rw [HNX.out, ←List.append_assoc,bytV_app,show N+(k+1)*8=N+k*8+8 by omega]
            exact ho6)
           clear ho6 hg6 HO5 HB5 HH5
           go_wp2
           go_roundw
           case rel=>exact ⟨k+1,by omega,by go_num,HO6,HH6,HB6⟩
           case measure=>simp [intOf];omega
          ·obtain rfl:k=R.length:=by omega
           have HF:=Lib.hid (show R.take R.length=R from List.take_length)
           have HO2:=Lib.hid (show wr.ownsRow w1.heap.size 5 1 (.slice vA (N+R.length*8) vc) (N+R.length*8) (bytV (P++R.flatMap hdB3)) by have h:=HO.out;rw [HF.out] at h;exact h)
           have hkl:=HRL.out
           have hpn:=HPN.out
           go_wp2_with fail
           clear HO OB BB HH HH2
           refine (rAlign11_ok w1.heap.size (P++R.flatMap hdB3) (N+R.length*8) (by rw [List.length_append,HNN.out,flat_lenN _ _ hdB3_len]) _ wr HB.out.size HO2.out (by omega)).mono ?_
           rintro e w7 ⟨v7,rfl,ho7,hb7⟩
           rw [HFE.out, ←HX5.out, ←HZ5.out] at ho7
           have OB:=Lib.hid ho7
           have BB:=Lib.hid (HB.out.trans hb7)
           obtain ⟨b5,e5,rfl,_⟩:=own_form ho7
           clear ho7 hb7 HB HO2 HN5 HX5 HZ5 HPN HRL HNN HF hlt hk hkl hpn HRO HFE HRR
           have STq:=Lib.hid (ST1.out.up BB.out)
           obtain ⟨x0,x1,x2,x3,x4,x5,hz⟩:=STq.out.cells
           obtain ⟨csq,hCq,hrq⟩:=STq.out.R.chans
           have HCQ:=Lib.hid hCq
           have HRQ:=Lib.hid hrq
           have HDL:=Lib.hid (show ∀x ∈ c.chans,x.dests.length≤4194304 from fun x hx=>Nat.le_trans (dests_sum hx) (Nat.le_trans (cntS6 HL.out) (by decide)))
           have hcl5:=cntS5 HL.out
           have hcl6:=cntS6 HL.out
           clear hCq hrq
           go_wp2_with fail
           refine (rLinks_ok c.chans csq A5 c5 _ HCQ.out HRQ.out (by omega) (by omega) HDL.out).mono ?_
           rintro e wh ⟨vh,rfl,hoh,hbh⟩
           have OB:=Lib.hid (own_below OB.out hbh)
           have hwq:=BB.out.size
           have BB:=Lib.hid (Below.then_ BB.out hbh)
           clear x0 x1 x2 x3 x4 x5 hz STq HCQ HRQ HDL hcl5 hcl6
           have HRO:=Lib.hid (lk_ok (fun x hx=>HOK.out.chans x hx))
           have HFE:=Lib.hid (show (lksOf c.chans).flatMap lkB=secB c 6 from rfl)
           have HRL:=Lib.hid (show (lksOf c.chans).length≤1024 by rw [lksOf_len];exact cntS6 HL.out)
           have HN6:=Lib.hid (body_lim HL.out 5 (by decide))
           have HX6:=Lib.hid (show bodyB c 6=algB (bodyB c 5++secB c 6) from rfl)
           have HZ6:=Lib.hid (show (bodyB c 6).length=alnN ((bodyB c 5).length+(lksOf c.chans).length*8) by rw [bodyB_len,bodyB_len,lksOf_len];rfl)
           skip
           obtain ⟨R,hRr⟩: ∃R,lksOf c.chans=R:=⟨_,rfl⟩
           rw [hRr] at hoh HRO HFE HRL HZ6
           have HRR:=Lib.hid hRr
           have HH:=Lib.hid (own_lessB hoh hwq)
           obtain ⟨Ah,ch,rfl,_⟩:=own_form hoh
           clear hoh hbh hRr hwq
           obtain ⟨P,hP⟩: ∃P,bodyB c 5=P:=⟨_,rfl⟩
           rw [hP] at OB HN6 HX6 HZ6
           try rw [hP]
           have HPN:=HN6
           obtain ⟨N,hN⟩: ∃N,P.length=N:=⟨_,rfl⟩
           rw [hN] at OB HPN HZ6
           try rw [hN]
           have HNN:=Lib.hid hN
           clear hN hP
           go_wp2
           go_loopw [5,13] (fun v i wr=> ∃k:Nat,k≤R.length∧i= .int .i64 k∧Hid (wr.ownsRow w1.heap.size 5 1 v (N+k*8) (bytV (P++(R.take k).flatMap lkB)))∧Hid (wr.ownsRow w1.heap.size 54 2 (.slice Ah R.length ch) R.length (R.flatMap lkC))∧Hid (Below w1.heap.size w1 wr)) (fun _ i _=>R.length -(intOf i).toNat)
           case atStart=>exact ⟨0,Nat.zero_le _,rfl,Lib.hid (by simpa using OB.out),HH,BB⟩
           case round=>
            obtain ⟨k,hk,rfl,HO,HH2,HB⟩:=hrel
            obtain ⟨vA,vc,rfl,_⟩:=own_form HO.out
            by_cases hlt:k <R.length
            ·obtain ⟨x,hx⟩:=get_lt hlt
             obtain ⟨b,o,rfl,hb,g0,g1⟩:=lk_at (own_slice HH2.out).2 hx
             have hxo:=HRO.out x (List.mem_of_getElem? hx)
             have k0:(0:Int)≤(k:Int):=by omega
             have k1:(k:Int) <(R.length:Int):=by omega
             have HNX:=Lib.hid (show (R.take (k+1)).flatMap lkB=(R.take k).flatMap lkB++lkB x by rw [take_next hx,List.flatMap_append];simp)
             have hkl:=HRL.out
             have hpn:=HPN.out
             have hwr:w1.heap.size≤wr.heap.size:=HB.out.size
             clear hx
             go_upto_region 33 with (fail)
             go_wp2_with fail
             refine (rLkB_ok x wr hxo).mono ?_
             rintro e w4 ⟨v4,rfl,ho4,hb4⟩
             obtain ⟨a4,d4,rfl,_⟩:=own_form ho4
             have HR4:=Lib.hid (own_slice ho4).2
             have HO5:=Lib.hid (own_below HO.out hb4)
             have HH5:=Lib.hid (own_below HH2.out hb4)
             have HB5:=Lib.hid (Below.then_ HB.out hb4)
             have hw4:w1.heap.size≤w4.heap.size:=HB5.out.size
             clear ho4 hb4 g0 g1 hb HO HB HH2
             go_wp2_with (at_builtin;go_loud (refine wpList_append_rd _ rfl (.tmp 119) (.tmp 124) _ rfl w1.heap.size 5 i0 (.int .u8 0) 1 1 Tryz.underlying32 hi hz0 hz1 hz2 rfl (by decide) _ (N+k*8) (bytV (P++(R.take k).flatMap lkB)) (by rfl) HO5.out w4.heap.size a4 8 d4 (bytV (lkB x)) (by rfl) HR4.out (bytV_one _) (by unfold maxLen;omega) (by omega) hw4 ?_);intro v6 w6 ho6 hg6)
             have HB6:=Lib.hid (below_own HB5.out hg6 HO5.out hw4)
             have HH6:=Lib.hid (own_off HH5.out (Off.of_own HO5.out hg6) (by decide))
             have HO6:=Lib.hid (show w6.ownsRow w1.heap.size 5 1 v6 (N+(k+1)*8) (bytV (P++(R.take (k+1)).flatMap lkB)) by
              rw [HNX.out, ←List.append_assoc,bytV_app,show N+(k+1)*8=N+k*8+8 by omega]
              exact ho6)
             clear ho6 hg6 HO5 HB5 HH5
             go_wp2
             go_roundw
             case rel=>exact ⟨k+1,by omega,by go_num,HO6,HH6,HB6⟩
             case measure=>simp [intOf];omega
            ·obtain rfl:k=R.length:=by omega
             have HF:=Lib.hid (show R.take R.length=R from List.take_length)
             have HO2:=Lib.hid (show wr.ownsRow w1.heap.size 5 1 (.slice vA (N+R.length*8) vc) (N+R.length*8) (bytV (P++R.flatMap lkB)) by have h:=HO.out;rw [HF.out] at h;exact h)
             have hkl:=HRL.out
             have hpn:=HPN.out
             go_wp2_with fail
             clear HO OB BB HH HH2
             refine (rAlign11_ok w1.heap.size (P++R.flatMap lkB) (N+R.length*8) (by rw [List.length_append,HNN.out,flat_lenN _ _ lkB_len]) _ wr HB.out.size HO2.out (by omega)).mono ?_
             rintro e w7 ⟨v7,rfl,ho7,hb7⟩
             rw [HFE.out, ←HX6.out, ←HZ6.out] at ho7
             have OB:=Lib.hid ho7
             have BB:=Lib.hid (HB.out.trans hb7)
             obtain ⟨b6,e6,rfl,_⟩:=own_form ho7
             clear ho7 hb7 HB HO2 HN6 HX6 HZ6 HPN HRL HNN HF hlt hk hkl hpn HRO HFE HRR
             go_wp2_with fail
             have hbl:=body_lim HL.out 6 (by decide)
             refine (rSeal02_ok (bodyB c 6) (bodyB c 6).length rfl _ _ _ (bodyB_byte c 6) (by omega) (own_slice OB.out).2).mono ?_
             rintro e w9 ⟨v9,rfl,ho9,hb9⟩
             have HO9:=Lib.hid ho9
             have HB9:=Lib.hid (Below.then_ BB.out hb9)
             have hq9:=Nat.le_trans ST1.out.bel.size BB.out.size
             have HBE:=Lib.hid (ST1.out.bel.trans (HB9.out.mono ST1.out.bel.size))
             clear ho9 hb9
             go_wp2
             go_ret
             refine ⟨_,rfl, ?_,HBE.out⟩
             rw [imgB_len, ←bodyB_len c 6]
             exact own_lessB HO9.out hq9
end Go.Proofs.YtcfoolooemhbeaaGreat
