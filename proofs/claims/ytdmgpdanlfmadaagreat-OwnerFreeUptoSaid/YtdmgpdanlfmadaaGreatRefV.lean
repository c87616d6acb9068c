/-
  Free of the reference of layer 22, walked. No condition but on sizes, and that the regions are right.
-/
import Derived.BigQuiet
import Derived.Test.YtdmgpdanlfmadaaGreatOwnI
import Derived.Test.YtdmgpdanlfmadaaGreatRefM
import Derived.Test.YtdmgpdanlfmadaaGreatRefT
import Derived.Test.YtdmgpdanlfmadaaGreatRefU
namespace Go.Proofs.YtdmgpdanlfmadaaGreat
open Go.RowKit
attribute [local go_sem] ext_cell
theorem freeFrom_z (segs:List Seg) (size:Int): ∀(l:List Seg) (j:Nat),freeFrom segs size 0 j l=(0,false)
 | [],_=>rfl
 |s::r,j=>by
  have h1:fitB s.lo (endSeg segs j) s.rs.isEmpty size 0=false:=by
   unfold fitB alignV
   rw [if_pos rfl]
   rfl
  unfold freeFrom
  rw [h1]
  exact freeFrom_z segs size r (j+1)
theorem freeV_z {segs:List Seg} {size al:Int} (h:size=0∨al=0) {v:Int} {ok:Bool} (hv:freeV segs size al=(v,ok)):v=0∧ok=false:=by
 have:freeV segs size al=(0,false):=by
  unfold freeV
  rcases h with h |h
  ·rw [if_pos h]
  ·subst h
   split
   ·rfl
   ·exact freeFrom_z _ _ _ _
 rw [this] at hv
 injection hv with h1 h2
 exact ⟨h1.symm,h2.symm⟩
set_option maxRecDepth 100000 in
set_option maxHeartbeats 8000000 in
theorem rFree_ok (c:Cfg) (A1 A2 A3 A4 A5:Option Addr) (c1 c2 c3 c4 c5:Nat) (w:World) (hR:CfgR w w.heap.size c A1 A2 A3 A4 A5 c1 c2 c3 c4 c5) (hs:c.small) (hok:c.ok) (hl:okR c.regs) (hsp: ∀r ∈ c.regs,okSp r.base r.size) (hso:SegsOk (normK keyReg c.regs) (mapL (normK keyReg c.regs))) (hlk:okR (normK keyReg c.regs)) (size al:Int) (h0:0≤size) (h1:size≤18446744073709551615) (a0:0≤al) (a1:al≤18446744073709551615) (v:Int) (ok:Bool) (hv:Hid (freeV (mapL (normK keyReg c.regs)) size al=(v,ok))):Calls Tryz.prog 9 #[cfgV c.frame A1 A2 A3 A4 A5 c.parts.length c.wins.length c.regs.length c.ports.length c.chans.length c1 c2 c3 c4 c5, .int .u64 size, .int .u64 al] w fun e w'=>e= .returned (.tuple #[.int .u64 v, .bool ok])∧Below w.heap.size w w':=by
 obtain ⟨W0,hW,st⟩:=St.start_any hR 29
 have HW:=Lib.hid hW
 have ST0:=Lib.hid st
 obtain ⟨x0,x1,x2,x3,x4,x5,hz⟩:=st.cells
 clear hR hW st
 by_cases hz0:size=0
 ·have HV:=Lib.hid (freeV_z (.inl hz0) hv.out)
  have HZ:=Lib.hid ST0.out.bel
  subst hz0
  go_enter Tryz.func9,Tryz.ntmps9
  go_upto_region 1 with (fail)
  rw [HW.out]
  go_wp2
  go_ret2
  exact ⟨by rw [HV.out.1,HV.out.2];rfl,HZ.out⟩
 ·by_cases hz1:al=0
  ·have HV:=Lib.hid (freeV_z (.inr hz1) hv.out)
   have HZ:=Lib.hid ST0.out.bel
   have hz2:(size==0)=false:=by simpa using hz0
   subst hz1
   go_enter Tryz.func9,Tryz.ntmps9
   go_upto_region 1 with (fail)
   rw [HW.out]
   go_wp2
   go_ret2
   exact ⟨by rw [HV.out.1,HV.out.2];rfl,HZ.out⟩
  ·have HSL:=Lib.hid (segsL_perm (normK_perm (key:=keyReg) c.regs))
   obtain ⟨l,hln⟩: ∃l,normK keyReg c.regs=l:=⟨_,rfl⟩
   rw [hln] at HSL hso hlk hv
   have HLN:=Lib.hid hln
   have HSO:=Lib.hid hso
   have HLK:=Lib.hid hlk
   have HLC:=Lib.hid hl
   have HSP:=Lib.hid hsp
   have HOK:=Lib.hid hok
   obtain ⟨bs,hbs⟩: ∃bs,segsL l=bs:=⟨_,rfl⟩
   have HBS:=Lib.hid hbs
   have HV:=Lib.hid (show freeFrom (mapL l) size al 0 ((mapL l).drop 0)=(v,ok) from by
    have:=hv.out
    unfold freeV at this
    rwa [if_neg hz0] at this)
   have hw1:IntKind.u64.wrap (size -1)=size -1:=by rw [IntKind.wrap_u64];omega
   have hz2:(size==0)=false:=by simpa using hz0
   have hz3:(al==0)=false:=by simpa using hz1
   have hbn:bs.length≤4194304:=by
    have h5:=hso.len
    have h6:=hs.bd.r
    have h7:=(normK_perm (key:=keyReg) c.regs).length_eq
    rw [hln] at h7
    have h8:(mapL l).length=bs.length:=by unfold mapL;rw [List.length_map,hbs]
    omega
   clear hso hlk hln hl hsp hok hbs hv
   go_enter Tryz.func9,Tryz.ntmps9
   go_upto_region 1 with (fail)
   rw [HW.out]
   go_wp2_with fail
   refine (rSegments_ok c _ _ _ _ _ _ _ _ _ _ _ ST0.out.R hs HLC.out).mono ?_
   rintro e w2 ⟨v2,rfl,ho2,hb2⟩
   rw [←HSL.out,HBS.out] at ho2
   obtain ⟨D2,d2,rfl,_,_,hr2⟩:=own_form ho2
   have HR2:=Lib.hid hr2
   have ST2:=Lib.hid (ST0.out.up hb2)
   clear ho2 hr2 hb2 x0 x1 x2 x3 x4 x5 hz
   go_wp2
   go_loopw [9] (fun i wr=> ∃k:Nat,k≤bs.length∧i= .int .i64 k∧Hid (freeFrom (mapL l) size al k ((mapL l).drop k)=(v,ok))∧Hid (Below w2.heap.size w2 wr)) (fun i _=>bs.length -(intOf i).toNat)
   case atStart=>exact ⟨0,Nat.zero_le _,rfl,HV,Lib.hid (Below.refl _ _)⟩
   case round=>
    obtain ⟨k,hk,rfl,HF,HB⟩:=hrel
    have STr:=Lib.hid (ST2.out.up HB.out)
    obtain ⟨x0,x1,x2,x3,x4,x5,hz⟩:=STr.out.cells
    by_cases hlt:k <bs.length
    ·obtain ⟨b,hb⟩:=get_lt hlt
     have hse:(mapL l)[k]? =some ⟨b,atK l b⟩:=by unfold mapL;rw [HBS.out,List.getElem?_map,hb];rfl
     have HFA:=Lib.hid (HF.out.symm.trans (freeFrom_at hse))
     have hlo0:0≤b:=by
      have h3:=HSO.out.lo_le (i:=0) (j:=k) (by omega) (List.getElem?_eq_some_iff.1 hse).1
      rw [(seg_first HSO.out).2,loAt_at hse] at h3
      exact h3
     have hlo1:b≤18446744073709551615:=HSO.out.top _ (List.mem_of_getElem? hse)
     have hend:=endSeg_top HSO.out hse
     have hrf:=HSO.out.refSeg HLK.out hse (x:=b) (Int.le_refl _) (fun b1 hb1=>by
      have h5:=hend.1
      unfold endSeg at h5
      rw [List.getElem?_map] at hb1
      obtain ⟨s1,hs1,rfl⟩:=Option.map_eq_some_iff.1 hb1
      rw [hs1] at h5
      have h6:b≤s1.lo -1:=h5
      show b <s1.lo
      omega)
     obtain ⟨hi,hhi⟩: ∃hi,endSeg (mapL l) k=hi:=⟨_,rfl⟩
     have HHI:=Lib.hid hhi
     rw [hhi] at hend hrf
     have HRF:=Lib.hid (show refSeg (segsL c.regs) b=(b,hi) by rw [←HSL.out];exact hrf)
     obtain ⟨av,aok,hav⟩: ∃av aok,alignV b al=(av,aok):=⟨_,_,rfl⟩
     have HAV:=Lib.hid hav
     have HAG:=Lib.hid (show aok=true→b≤av from fun h=>by have:=align_ge (x:=b) a0 (by rw [hav];exact h);rwa [hav] at this)
     have hh2:hi≤18446744073709551615:=hend.2
     have hh1:b≤hi:=hend.1
     obtain ⟨R,hRR⟩: ∃R,((normK keyReg c.regs).filter fun r=>covR r b)=R:=⟨_,rfl⟩
     have HRR:=Lib.hid hRR
     have HRL:=Lib.hid (show (atK l b).length=R.length from by
      have h5:=congrArg List.length (atK_regs l b)
      rw [List.length_map, ←HLN.out] at h5
      rw [←HLN.out,h5]
      exact congrArg List.length hRR)
     obtain ⟨bb,oo,rfl,hbb,g0⟩:=u64_atN (HR2.out.up HB.out) hb
     have k0:(0:Int)≤(k:Int):=by omega
     have k1:(k:Int) <(bs.length:Int):=by omega
     clear hb hse hend hrf hhi hav hRR
     go_wp2
     refine wp_region_ext (by kernel_rfl) (by kernel_rfl) ?_
     repeat (go_big_quiet_step ((go_at_call 32;exact Calls.quiet_ext (rSegment_ok c _ _ _ _ _ _ _ _ _ _ _ (STr.out.up (ext_below _ _)).R hs HLC.out b hlo0 b hi HRF))))
     refine wpQuiet_nil ?_
     intro xq
     have HB3:=Lib.hid (Below.then_ HB.out (ext_below wr xq))
     clear x0 x1 x2 x3 x4 x5 hz g0 hbb
     generalize ext wr xq=W4 at*
     go_wp2_with fail
     refine (rAlign_ok b al W4 hlo0 hlo1 a0 a1 av aok HAV).mono ?_
     rintro r w5 ⟨rfl,hb5⟩
     have HB5:=Lib.hid (Below.then_ HB3.out hb5)
     have ST5:=Lib.hid (ST2.out.up HB5.out)
     obtain ⟨x0,x1,x2,x3,x4,x5,hz⟩:=ST5.out.cells
     clear hb5
     go_wp2_with fail
     refine (rAll_ok c _ _ _ _ _ _ _ _ _ _ _ ST5.out.R hs HOK.out HSP.out b R HRR).mono ?_
     rintro r w6 ⟨v6,rfl,ho6,hb6⟩
     obtain ⟨n,hn⟩: ∃n,R.length=n:=⟨_,rfl⟩
     rw [hn] at ho6 HRL
     obtain ⟨D6,d6,rfl,_,_,_⟩:=own_form ho6
     have HB6:=Lib.hid (Below.then_ HB5.out hb6)
     have HZ:=Lib.hid (Below.then_ ST2.out.bel HB6.out)
     clear x0 x1 x2 x3 x4 x5 hz ho6 hb6 hn
     have HFB:=Lib.hid (show fitB b hi (atK l b).isEmpty size al=(aok&&(atK l b).isEmpty&&decide (av≤hi)&&decide (size -1≤hi -av)) by unfold fitB;rw [HAV.out])
     by_cases hfit:aok=true∧n=0∧av≤hi∧size -1≤hi -av
     ·obtain ⟨rfl,rfl,f2,f3⟩:=hfit
      have HRV:=Lib.hid (show v=av∧ok=true from by
       have h5:=HFA.out
       rw [HHI.out,HFB.out,show (atK l b).isEmpty=true by rw [List.isEmpty_iff_length_eq_zero];exact HRL.out,show decide (av≤hi)=true from decide_eq_true f2,show decide (size -1≤hi -av)=true from decide_eq_true f3,HAV.out] at h5
       simp only [Bool.and_self,if_true] at h5
       injection h5 with h6 h7
       exact ⟨h6,h7⟩)
      have hge:=HAG.out rfl
      have hw2:IntKind.u64.wrap (hi -av)=hi -av:=by rw [IntKind.wrap_u64];omega
      go_wp2
      go_ret2
      exact ⟨by rw [HRV.out.1,HRV.out.2];rfl,HZ.out⟩
     ·have HF2:=Lib.hid (show freeFrom (mapL l) size al (k+1) ((mapL l).drop (k+1))=(v,ok) from by
       have h5:=HFA.out
       rw [HHI.out,HFB.out,if_neg] at h5
       ·exact h5.symm
       ·intro h6
        simp only [Bool.and_eq_true,decide_eq_true_eq,List.isEmpty_iff_length_eq_zero] at h6
        exact hfit ⟨h6.1.1.1,by rw [←HRL.out];exact h6.1.1.2,h6.1.2,h6.2⟩)
      by_cases f1:n=0
      ·subst f1
       cases aok
       ·clear hfit
        go_wp2
        go_roundw
        case rel=>exact ⟨k+1,by omega,by go_num,HF2,HB6⟩
        case measure=>simp [intOf];omega
       ·by_cases f2:av≤hi
        ·have f3: ¬size -1≤hi -av:=fun f3=>hfit ⟨rfl,rfl,f2,f3⟩
         have f4:hi -av <size -1:=by omega
         have hge:=HAG.out rfl
         have hw2:IntKind.u64.wrap (hi -av)=hi -av:=by rw [IntKind.wrap_u64];omega
         clear hfit f3
         go_wp2
         go_roundw
         case rel=>exact ⟨k+1,by omega,by go_num,HF2,HB6⟩
         case measure=>simp [intOf];omega
        ·have f4:hi <av:=by omega
         clear hfit f2
         go_wp2
         go_roundw
         case rel=>exact ⟨k+1,by omega,by go_num,HF2,HB6⟩
         case measure=>simp [intOf];omega
      ·have f5: ¬(n:Int)=0:=by omega
       clear hfit f1
       go_wp2
       go_roundw
       case rel=>exact ⟨k+1,by omega,by go_num,HF2,HB6⟩
       case measure=>simp [intOf];omega
    ·obtain rfl:k=bs.length:=by omega
     have HE:=Lib.hid (show v=0∧ok=false from by
      have h5:=HF.out
      rw [freeFrom_end (show (mapL l).length≤bs.length by unfold mapL;rw [HBS.out,List.length_map];exact Nat.le_refl _)] at h5
      injection h5 with h6 h7
      exact ⟨h6.symm,h7.symm⟩)
     have HZ:=Lib.hid STr.out.bel
     clear x0 x1 x2 x3 x4 x5 hz
     go_wp2
     go_ret2
     exact ⟨by rw [HE.out.1,HE.out.2];rfl,HZ.out⟩
end Go.Proofs.YtdmgpdanlfmadaaGreat
