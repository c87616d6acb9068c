/-
  The law PackSealed, walked.
-/
import Derived.BigQuiet
import Derived.Test.YtcfoolooemhbeaaGreatAlive11
import Derived.Test.YtcfoolooemhbeaaGreatFlipP
namespace Go.Proofs.YtcfoolooemhbeaaGreat
open Go.RowKit Go.Lib
theorem packF_flt {c:Cfg} (h:(packF c).code=0):packF c=⟨0,0,0⟩:=(packF_zero c h).1
theorem packB_bad {c:Cfg} (h: ¬(packF c).code=0):packB c= []:=if_neg h
theorem packB_good {c:Cfg} (h:(packF c).code=0):packB c=imgB c.norm:=if_pos h
set_option maxRecDepth 100000 in
set_option maxHeartbeats 16000000 in
theorem packSealed_ok (c:Cfg) (A1 A2 A3 A4 A5:Option Addr) (c1 c2 c3 c4 c5:Nat) (w:World) (hR:CfgR w w.heap.size c A1 A2 A3 A4 A5 c1 c2 c3 c4 c5) (hs:c.small) (hok:c.ok) (bt:Int) (hbt:wU16 bt):Calls Tryz.prog 7 #[cfgV c.frame A1 A2 A3 A4 A5 c.parts.length c.wins.length c.regs.length c.ports.length c.chans.length c1 c2 c3 c4 c5, .int .u16 bt] w fun e w'=>e= .returned (.bool true)∧Below w.heap.size w w':=by
 obtain ⟨W0,hW,st⟩:=St.start_any hR 29
 have HW:=Lib.hid hW
 have ST0:=Lib.hid st
 have HOK:=Lib.hid hok
 have hbb:=Go.bounds_u16 hbt
 have HTT:=Lib.hid hs.tot
 obtain ⟨x0,x1,x2,x3,x4,x5,hz⟩:=st.cells
 clear hR hW st hok hbt
 rcases bool_cases (few c) with h1 |h1
 rotate_left
 ·have H1:=Lib.hid h1
  clear h1
  go_enter Tryz.func7,Tryz.ntmps7
  go_upto_region 1 with (fail)
  rw [HW.out]
  go_wp2_with fail
  refine (few_valB c _ _ _ _ _ _ _ _ _ _ _ ST0.out.R hs false H1).mono ?_
  rintro e w1 ⟨rfl,hb1⟩
  have HB1:=Lib.hid (ST0.out.up hb1).bel
  clear hb1 x0 x1 x2 x3 x4 x5 hz
  go_wp2_with fail
  refine (alive11_ok _).mono ?_
  rintro e w2 ⟨rfl,hb2⟩
  have HZ:=Lib.hid (Below.then_ HB1.out hb2)
  clear hb2
  go_wp2
  go_ret
  exact ⟨rfl,HZ.out⟩
 ·have H1:=Lib.hid h1
  clear h1
  obtain ⟨F,hF⟩: ∃F,packF c=F:=⟨_,rfl⟩
  have HF:=Lib.hid hF
  go_enter Tryz.func7,Tryz.ntmps7
  go_upto_region 1 with (fail)
  rw [HW.out]
  go_wp2_with fail
  refine (few_valB c _ _ _ _ _ _ _ _ _ _ _ ST0.out.R hs true H1).mono ?_
  rintro e w1 ⟨rfl,hb1⟩
  have ST1:=Lib.hid (ST0.out.up hb1)
  clear hb1 x0 x1 x2 x3 x4 x5 hz
  obtain ⟨x0,x1,x2,x3,x4,x5,hz⟩:=ST1.out.cells
  go_wp2_with fail
  refine (pckPack_ok c _ _ _ _ _ _ _ _ _ _ _ ST1.out.R HOK.out HTT.out F HF).mono ?_
  rintro e w2 ⟨v,rfl,ho,hb2⟩
  have HB2:=Lib.hid (Below.then_ ST1.out.bel hb2)
  clear x0 x1 x2 x3 x4 x5 hz
  by_cases hc:F.code=0
  rotate_left
  ·rw [packB_bad (by rw [hF];exact hc)] at ho
   obtain ⟨D,d,rfl,_,_,_⟩:=own_form ho
   obtain ⟨a,b,q⟩:=F
   have hbe:(a==0)=false:=beq_eq_false_iff_ne.2 hc
   have hc: ¬a=0:=hc
   obtain ⟨W3,hW3,hb3,hk⟩: ∃W,w2.alloc (.cells #[.int .i64 a, .int .i64 b, .int .i64 q] 35)=W∧Below w2.heap.size w2 W∧Blk W w2.heap.size 35 #[.int .i64 a, .int .i64 b, .int .i64 q]:=⟨_,rfl,below_one _ _,Blk.new _ _ _⟩
   have HB3:=Lib.hid (Below.then_ HB2.out hb3)
   have HW3:=Lib.hid hW3
   have HK:=Lib.hid hk
   clear hW3 hb3 hk ho hb2 hF
   go_upto_region 4 with (fail)
   rw [HW3.out]
   clear HW3
   generalize w2.heap.size=g at*
   have q0:=HK.out.cell 0
   have q1:=HK.out.cell 1
   have q2:=HK.out.cell 2
   have qz:=HK.out.lt
   simp at q0 q1 q2
   go_wp2_with fail
   refine (alive11_ok _).mono ?_
   rintro e w4 ⟨rfl,hb4⟩
   have HZ:=Lib.hid (Below.then_ HB3.out hb4)
   clear hb4 q0 q1 q2 qz
   go_wp2
   go_ret
   exact ⟨rfl,HZ.out⟩
  ·have hF0:F=⟨0,0,0⟩:=by rw [←hF];exact packF_flt (by rw [hF];exact hc)
   subst hF0
   have hpb:=packB_good (c:=c) (by rw [hF])
   have HSL:=Lib.hid (show sealedN (packB c)=true by rw [hpb];exact imgB_sealed _)
   have hbyt:bytesOk (packB c):=by rw [hpb];exact imgB_byte _
   have hlen:84≤(packB c).length∧(packB c).length≤400100:=by
    rw [hpb,imgB_len]
    have h1:=offT_lim (n:=cntOf c.norm) (fun s a b=>by rw [norm_cnt];exact lim_cnt (by rw [(packF_zero c (by rw [hF])).2.1];rfl) s a b) 6 (Nat.le_refl _)
    have h2: ∀(n:Nat→Nat) k,80≤offT n k:=by
     intro n k
     induction k with
     |zero=>exact Nat.le_refl _
     |succ k ih=>exact Nat.le_trans (Nat.le_trans ih (Nat.le_add_right _ _)) (alnN_le _).1
    have h3:=h2 (cntOf c.norm) 6
    omega
   have HBY:=Lib.hid hbyt
   clear hpb hF hc
   generalize packB c=L at*
   obtain ⟨D,d,rfl,hc1,hc2,hrd⟩:=own_form ho
   obtain ⟨W3,hW3,hb3,hk⟩: ∃W,w2.alloc (.cells #[.int .i64 0, .int .i64 0, .int .i64 0] 35)=W∧Below w2.heap.size w2 W∧Blk W w2.heap.size 35 #[.int .i64 0, .int .i64 0, .int .i64 0]:=⟨_,rfl,below_one _ _,Blk.new _ _ _⟩
   have HB3:=Lib.hid (Below.then_ HB2.out hb3)
   have HRD:=Lib.hid (hrd.up hb3)
   have HW3:=Lib.hid hW3
   have HK:=Lib.hid hk
   clear hW3 hb3 hk ho hb2 hbyt hrd
   go_upto_region 4 with (fail)
   rw [HW3.out]
   clear HW3
   generalize w2.heap.size=g at*
   have q0:=HK.out.cell 0
   have q1:=HK.out.cell 1
   have q2:=HK.out.cell 2
   have qz:=HK.out.lt
   simp at q0 q1 q2
   obtain ⟨n,hn⟩: ∃n,L.length=n:=⟨_,rfl⟩
   have HN:=Lib.hid hn
   rw [hn] at hlen hc1 HRD
   obtain ⟨hl1,hl2⟩:=hlen
   rw [hn]
   clear hn
   go_wp2_with fail
   refine (crcSealed_ok L n HN.out.symm D d W3 HBY.out (by omega) hc1 HRD.out true HSL).mono ?_
   rintro e w4 ⟨rfl,hb4⟩
   have HRD4:=Lib.hid (HRD.out.up hb4)
   have HB4:=Lib.hid (Below.then_ HB3.out hb4)
   clear hb4 q0 q1 q2 qz
   go_wp2_with fail
   refine (rSealed02_ok L n HN.out.symm D d w4 HBY.out (by omega) hc1 HRD4.out true HSL).mono ?_
   rintro e w5 ⟨rfl,hb5⟩
   have HRD5:=Lib.hid (HRD4.out.up hb5)
   have HB5:=Lib.hid (Below.then_ HB4.out hb5)
   clear hb5
   obtain ⟨bn,hbn⟩: ∃b:Nat,bt=(b:Int):=⟨bt.toNat,by omega⟩
   subst hbn
   have h8:IntKind.i64.wrap (8*(n:Int))=((8*n:Nat):Int):=by rw [IntKind.wrap_i64];omega
   have h80: ¬((8*n:Nat):Int)=0:=by omega
   have htm:Int.tmod (bn:Int) ((8*n:Nat):Int)=((bn%(8*n):Nat):Int):=by rw [Int.tmod_eq_emod_of_nonneg (by omega)];simp
   have hmb:IntKind.i64.wrap (bn:Int)=(bn:Int):=by rw [IntKind.wrap_i64];omega
   have hlt:=Nat.mod_lt bn (show 0 <8*n by omega)
   obtain ⟨k,hk⟩: ∃k,bn%(8*n)=k:=⟨_,rfl⟩
   rw [hk] at htm hlt
   clear hk
   generalize h8n:((8*n:Nat):Int)=n8 at*
   obtain ⟨i0,hi,hz0,hz1,hz2⟩:=info_parts info_u8B
   obtain ⟨w6,hw6⟩: ∃w6,w5.alloc (.cells #[] 5)=w6:=⟨_,rfl⟩
   have HO6:=Lib.hid (show w6.ownsRow w5.heap.size 5 1 (.slice (some ⟨w5.heap.size,0,none⟩) 0 0) 0 (bytV []) by rw [←hw6];exact own_zero8 w5)
   have HB6:=Lib.hid (show Below w5.heap.size w5 w6 by rw [←hw6];exact below_one _ _)
   have hz6:w5.heap.size≤w6.heap.size:=HB6.out.size
   have HR6:=Lib.hid (HRD5.out.up HB6.out)
   have HW6:=Lib.hid hw6
   clear hw6
   have hwk:IntKind.i64.wrap (k:Int)=(k:Int):=by rw [IntKind.wrap_i64];omega
   have h81:(n8==0)=false:=beq_eq_false_iff_ne.2 h80
   go_upto_region 10 with (rw [HW6.out];at_builtin;go_loud (refine wpList_append_rd _ rfl (.tmp 41) (.tmp 42) _ rfl w5.heap.size 5 i0 (.int .u8 0) 1 1 Tryz.underlying32 hi hz0 hz1 hz2 rfl (by decide) _ 0 (bytV []) (by rfl) HO6.out w6.heap.size D n d (bytV L) (by rfl) HR6.out (bytV_one L) (by unfold maxLen;omega) (by omega) hz6 ?_);intro v7 w7 ho7 hg7)
   have ho7:w7.ownsRow w5.heap.size 5 1 v7 n (bytV L):=by rw [Nat.zero_add] at ho7;exact ho7
   have hb7:Below w5.heap.size w5 w7:=below_own HB6.out hg7 HO6.out hz6
   have HB7:=Lib.hid (Below.then_ HB5.out hb7)
   obtain ⟨hbl,b7,d7,cur,rfl,hge,hcur,hn7,hm7,hcs,hct⟩:(bytV L).length=n*1∧ ∃g cap cur,v7= .slice (some ⟨g,0,none⟩) n cap∧w5.heap.size≤g∧w7.heap[g]? =some (.cells cur 5 (0,0))∧n≤cap∧cap≤maxLen∧cur.size=cap*1∧cur.toList.take (n*1)=bytV L:=by
    refine ⟨ho7.1, ?_⟩
    rcases ho7.2 with ⟨_,h⟩ |⟨g,cap,cur,h1,h2,h3,h4,h5,h6,h7⟩
    ·exact absurd h (by omega)
    ·exact ⟨g,cap,cur,h1,h2,h3,h4,h5,h6,h7⟩
   obtain ⟨kb,j,hkj,hj,hkb⟩: ∃kb j,k=8*kb+j∧j <8∧kb <n:=⟨k/8,k%8,by omega,by omega,by omega⟩
   have hcat: ∀i,i <n→cur[i]? =(bytV L)[i]? :=by
    intro i hi
    rw [←hct,List.getElem?_take_of_lt (by omega),Array.getElem?_toList]
   have HBK:=Lib.hid (show Blk w7 b7 5 cur from hcur)
   obtain ⟨x,hx⟩:=get_lt (l:=L) (k:=kb) (by rw [HN.out];exact hkb)
   have hx8:=HBY.out x (List.mem_of_getElem? hx)
   have g7:w7.cell? ⟨b7,kb,none⟩=some (.int .u8 (x:Int)):=by rw [HBK.out.cell,hcat kb hkb,bytV_at hx]
   have f7:=HBK.out.frozen kb
   have l7:=HBK.out.lt
   have a1:(k:Int)/8=(kb:Int):=by omega
   have a2:Int.tdiv (k:Int) 8=(kb:Int):=by rw [Int.tdiv_eq_ediv_of_nonneg (by omega)];omega
   have a3:(k:Int)%8=(j:Int):=by omega
   have a4:Int.tmod (k:Int) 8=(j:Int):=by rw [Int.tmod_eq_emod_of_nonneg (by omega)];omega
   have a5:IntKind.i64.wrap (kb:Int)=(kb:Int):=by rw [IntKind.wrap_i64];omega
   have a6:IntKind.i64.wrap (j:Int)=(j:Int):=by rw [IntKind.wrap_i64];omega
   have a7:(0:Int)≤(kb:Int):=by omega
   have a8:(kb:Int) <(n:Int):=by omega
   have a9:(0:Int)≤(j:Int):=by omega
   have HBL7:=Lib.hid hb7
   have HX:=Lib.hid hx
   have HCT:=Lib.hid hcat
   have HKJ:=Lib.hid hkj
   clear ho7 hg7 hb7 hbl hcur hcs hct hx hcat hkj hm7 h8 h80 htm h8n h81 hmb
   go_region
   all_goals
    obtain ⟨V,hV⟩: ∃V,(w7.setCell ⟨b7,kb,none⟩ (.int .u8 (bits .xor .u8 (x:Int) ((2:Int)^j%256)))).drew=V:=⟨_,rfl⟩
    have hxor:bits .xor .u8 (x:Int) ((2:Int)^j%256)=((x^^^2^j:Nat):Int):=by
     have hp:(2:Nat)^j <2^8:=Nat.pow_lt_pow_right (by decide) hj
     have h:=u8_xor_nat x (2^j) hx8 hp
     have e1:(((2:Nat)^j:Nat):Int)=(2:Int)^j:=by simp
     have e2:(2:Int)^j%256=(((2:Nat)^j:Nat):Int):=by
      rw [←e1]
      generalize (2:Nat)^j=p at*
      omega
     rw [e2]
     exact h
    have HV8:=Lib.hid (show Rd V V.heap.size 1 (some ⟨b7,0,none⟩) n (bytV (L.set kb (x^^^2^j))) by
     refine ⟨by rw [bytV_len,List.length_set,HN.out,Nat.mul_one],fun _=>⟨b7,0,rfl,by rw [←hV];simpa using l7,fun i u hu=> ?_⟩⟩
     have hin:i <n:=by
      have h:=(List.getElem?_eq_some_iff.1 hu).1
      rw [bytV_len,List.length_set,HN.out] at h
      exact h
     rw [←hV,Nat.zero_add]
     show (w7.setCell ⟨b7,kb,none⟩ (.int .u8 (bits .xor .u8 (x:Int) ((2:Int)^j%256)))).cell? ⟨b7,i,none⟩=some u
     rw [(HBK.out.set_ kb _).cell,Array.getElem?_setIfInBounds]
     unfold bytV at hu
     rw [List.getElem?_map] at hu
     by_cases hik:kb=i
     ·subst hik
      have hsz:kb <cur.size:=by
       have h:=HCT.out kb hkb
       rw [bytV_at HX.out] at h
       exact (Array.getElem?_eq_some_iff.1 h).1
      rw [if_pos rfl,if_pos hsz,hxor]
      rw [List.getElem?_set_self (by rw [HN.out];exact hkb)] at hu
      exact hu
     ·rw [if_neg hik,HCT.out i hin]
      unfold bytV
      rw [List.getElem?_map]
      rw [List.getElem?_set_ne hik] at hu
      exact hu)
    have HB8:=Lib.hid (show Below w.heap.size w V by
     rw [←hV]
     exact (HB7.out.setCell (p:=⟨b7,kb,none⟩) (Nat.le_trans HB5.out.size hge) _).drew)
    have HF:=Lib.hid (flip_seen HBY.out hj HX.out HSL.out)
    have HFB:=Lib.hid (flip_byte HBY.out hj HX.out)
    have HLN:=Lib.hid (show n=(L.set kb (x^^^2^j)).length by rw [List.length_set,HN.out])
    have HV:=Lib.hid hV
    clear hV hxor g7 f7 l7 a1 a2 a3 a4 a5 a6 a7 a8 a9
    rw [HV.out]
    clear HV
    generalize L.set kb (x^^^2^j)=m at*
    go_wp2_with fail
    refine (alive11_ok _).mono ?_
    rintro e w9 ⟨rfl,hb9⟩
    have HV9:=Lib.hid (HV8.out.up hb9)
    have HB9:=Lib.hid (Below.then_ HB8.out hb9)
    clear hb9
    go_wp2_with fail
    refine (crcSealed_ok m n HLN.out (some ⟨b7,0,none⟩) d7 w9 HFB.out (by omega) hn7 HV9.out false HF).mono ?_
    rintro e w10 ⟨rfl,hb10⟩
    have HZ:=Lib.hid (Below.then_ HB9.out hb10)
    clear hb10
    go_wp2
    go_ret
    exact ⟨rfl,HZ.out⟩
end Go.Proofs.YtcfoolooemhbeaaGreat
