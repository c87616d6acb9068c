/-
  Segments and Segment of the reference of layer 22, walked. No condition but on sizes, and that the regions are right.
-/
import Derived.Test.YtdmgpdanlfmadaaGreatRefS
namespace Go.Proofs.YtdmgpdanlfmadaaGreat
open Go.RowKit
attribute [local go_sem] ext_cell
def segF (l:List Reg) (b:Int):Bool:= !sameB l b (b -1)
theorem segF_next {l:List Reg} {bs:List Int} {k:Nat} {b:Int} (hb:bs[k]? =some b):(bs.take (k+1)).filter (segF l)=(bs.take k).filter (segF l)++(if segF l b then [b] else []):=by
 rw [take_next hb,List.filter_append]
 congr 1
 by_cases h:segF l b<;>simp [h]
theorem u64_atN {w:World} {B:Nat} {A:Option Addr} {l:List Int} (h:Rd w B 1 A l.length (l.map (Value.int .u64))) {k:Nat} {x:Int} (hk:l[k]? =some x): ∃b o,A=some ⟨b,o,none⟩∧b <B∧w.cell? ⟨b,o+k,none⟩=some (.int .u64 x):=by
 have hlt:k <l.length:=(List.getElem?_eq_some_iff.1 hk).1
 obtain ⟨b,o,e,hb,hc⟩:=h.2 (by omega)
 exact ⟨b,o,e,hb,hc k _ (by simp [hk])⟩
set_option maxRecDepth 100000 in
set_option maxHeartbeats 8000000 in
theorem rSegments_ok (c:Cfg) (A1 A2 A3 A4 A5:Option Addr) (c1 c2 c3 c4 c5:Nat) (w:World) (hR:CfgR w w.heap.size c A1 A2 A3 A4 A5 c1 c2 c3 c4 c5) (hs:c.small) (hl:okR c.regs):Calls Tryz.prog 31 #[cfgV c.frame A1 A2 A3 A4 A5 c.parts.length c.wins.length c.regs.length c.ports.length c.chans.length c1 c2 c3 c4 c5] w fun e w'=> ∃v,e= .returned v∧w'.ownsRow w.heap.size 22 1 v (segsL c.regs).length ((segsL c.regs).map (Value.int .u64))∧Below w.heap.size w w':=by
 obtain ⟨i0,hi,hz0,hz1,hz2⟩:=info_parts info_u64O
 obtain ⟨W0,hW,st⟩:=St.start_any hR 29
 have HW:=Lib.hid hW
 have ST0:=Lib.hid st
 have HL:=Lib.hid hl
 have hbd:=hs.bd.r
 have hal:=below_one W0 (.cells #[.int .u64 0] 22)
 have HROW:=Lib.hid (show (W0.alloc (.cells #[.int .u64 0] 22)).ownsRow (w.heap.size+1) 22 1 (.slice (some ⟨W0.heap.size,0,none⟩) 1 1) [Value.int .u64 0].length [Value.int .u64 0] from
  own_litV W0 (w.heap.size+1) 22 [Value.int .u64 0] W0.heap.size 1 (by have:=st.z;omega) rfl (by simp [maxLen]) rfl #[.int .u64 0] rfl)
 have ST1:=Lib.hid (st.up hal)
 clear hR hW st hl
 go_enter Tryz.func31,Tryz.ntmps31
 go_upto_region 1 with (fail)
 rw [HW.out]
 go_upto_region 2 with (fail)
 generalize World.alloc W0 _=W1 at hal HROW ST1 ⊢
 generalize W0.heap.size=g0 at*
 obtain ⟨x0,x1,x2,x3,x4,x5,hz⟩:=ST1.out.cells
 go_wp2_with fail
 refine (rBounds_ok c _ _ _ _ _ _ _ _ _ _ _ ST1.out.R hs HL.out).mono ?_
 rintro e w2 ⟨v2,rfl,hn2,hb2⟩
 have hbl:=bnds_len c.regs
 obtain ⟨bs,hbs⟩: ∃bs,bndsL c.regs=bs:=⟨_,rfl⟩
 have HSG:=Lib.hid (show segsL c.regs=0::bs.filter (segF c.regs) by unfold segsL segF;rw [hbs])
 have HPOS:=Lib.hid (show ∀b ∈ bs,0 <b∧b≤topA from fun b hb=>bnds_pos HL.out (by rw [hbs];exact hb))
 rw [hbs] at hn2 hbl
 have HN2:=Lib.hid hn2
 obtain ⟨D2,d2,rfl,_,_,_⟩:=own_form hn2
 have HG0:=Lib.hid (show g0 <W1.heap.size by have h:=hal.size;have:=(own_lt0 HROW.out (g:=g0) rfl).2;omega)
 have HR2:=Lib.hid (own_below HROW.out hb2)
 have ST2:=Lib.hid (ST1.out.up hb2)
 clear hb2 x0 x1 x2 x3 x4 x5 hz hal hbs hn2
 go_wp2
 go_loopw [3,5] (fun v i wr=> ∃k:Nat,k≤bs.length∧i= .int .i64 k∧Hid (wr.ownsRow (w.heap.size+1) 22 1 v (0::(bs.take k).filter (segF c.regs)).length ((0::(bs.take k).filter (segF c.regs)).map (Value.int .u64)))∧Hid (Below w.heap.size w wr∧St w wr c A1 A2 A3 A4 A5 c1 c2 c3 c4 c5∧wr.ownsRow W1.heap.size 22 1 (.slice D2 bs.length d2) bs.length (bs.map (Value.int .u64))∧w2.heap.size≤wr.heap.size∧ ∀g,v.ownBlock=some g→g=g0∨w2.heap.size≤g)) (fun _ i _=>bs.length -(intOf i).toNat)
 case atStart=>exact ⟨0,Nat.zero_le _,rfl,Lib.hid (by simpa using HR2.out),Lib.hid ⟨ST2.out.bel,ST2.out,HN2.out,Nat.le_refl _,fun g hg=> .inl (by simpa [Value.ownBlock] using hg.symm)⟩⟩
 case round=>
  obtain ⟨k,hk,rfl,HO,HC⟩:=hrel
  obtain ⟨x0,x1,x2,x3,x4,x5,hz⟩:=HC.out.2.1.cells
  by_cases hlt:k <bs.length
  ·obtain ⟨b,hb⟩:=get_lt hlt
   have HX:=Lib.hid (segF_next (l:=c.regs) hb)
   have hp:=HPOS.out b (List.mem_of_getElem? hb)
   have hp2:b≤18446744073709551615:=hp.2
   have hp1:=hp.1
   obtain ⟨bb,oo,rfl,hbb,g1⟩:=u64_atN (own_slice HC.out.2.2.1).2 hb
   have hw:IntKind.u64.wrap (b -1)=b -1:=by rw [IntKind.wrap_u64];omega
   obtain ⟨q,hq⟩: ∃q,sameB c.regs b (b -1)=q:=⟨_,rfl⟩
   have HQ:=Lib.hid hq
   have hfq:segF c.regs b= !q:=by unfold segF;rw [hq]
   have HFQ:=Lib.hid hfq
   have k0:(0:Int)≤(k:Int):=by omega
   have k1:(k:Int) <(bs.length:Int):=by omega
   have hrl:(0::(bs.take k).filter (segF c.regs)).length≤4194304:=by
    have:=List.length_filter_le (segF c.regs) (bs.take k)
    rw [List.length_take] at this
    rw [List.length_cons]
    omega
   obtain ⟨rows,hrows⟩: ∃rows,(bs.take k).filter (segF c.regs)=rows:=⟨_,rfl⟩
   rw [hrows] at HO HX hrl
   clear hb hp hq hfq hrows
   go_wp2
   refine wp_region_ext (by kernel_rfl) (by kernel_rfl) ?_
   repeat (go_big_quiet_step ((go_at_call 75;exact Calls.quiet_ext (rSame_val c _ _ _ _ _ _ _ _ _ _ _ (HC.out.2.1.up (ext_below _ _)).R hs HL.out b (b -1) q HQ))))
   refine wpQuiet_nil ?_
   intro xq
   have HO3:=Lib.hid (own_below HO.out (ext_below wr xq))
   have HB3:=Lib.hid (Below.then_ HC.out.1 (ext_below wr xq))
   have HS3:=Lib.hid (HC.out.2.1.up (ext_below wr xq))
   have HR3:=Lib.hid (own_below HC.out.2.2.1 (ext_below wr xq))
   have HSZ3:=Lib.hid (show w2.heap.size≤(ext wr xq).heap.size from Nat.le_trans HC.out.2.2.2.1 (ext_below wr xq).size)
   have g2:=(ext_below wr xq).cell (p:=⟨bb,oo+k,none⟩) hbb |>.trans g1
   have hbb2:bb <(ext wr xq).heap.size:=Nat.lt_of_lt_of_le hbb (ext_below wr xq).size
   clear x0 x1 x2 x3 x4 x5 hz g1 hbb
   generalize ext wr xq=W4 at*
   cases q
   ·have hws:w.heap.size <W4.heap.size:=by have:=HS3.out.z;omega
    have HO4:=Lib.hid (own_below HO3.out (below_one W4 (.cells #[.int .u64 b] 22)))
    have hrl2:rows.length+1≤4194304:=by simpa using hrl
    obtain ⟨VA,vc,rfl,_⟩:=own_form HO3.out
    have HN:=Lib.hid (show 0::(bs.take (k+1)).filter (segF c.regs)=(0::rows)++ [b] by rw [HX.out,HFQ.out];simp)
    rw [List.length_cons] at HO3 HO4
    go_wp2_with (at_builtin;go_loud (refine wpList_append_lies _ rfl (.tmp 27) (.tmp 32) _ rfl (w.heap.size+1) 22 i0 (.int .u64 0) 1 8 Tryz.underlying78 hi hz0 hz1 hz2 rfl (by decide) _ _ _ rfl HO4.out ⟨W4.heap.size,0,none⟩ 1 1 [.int .u64 b] rfl rfl (World.news_of_block (heap_alloc_new W4 _)) (by intro u hu;simp at hu;subst hu;rfl) (by omega) (by unfold maxLen;omega) (by omega) (by simp;omega) _ rfl ?_);intro g2' cap w7 hown hg hat hlt7)
    have hbel7:Below (w.heap.size+1) W4 w7:=((Below.refl _ _).alloc (by omega) _).grown hg (by simp;omega) (fun k e=>(own_lt0 HO4.out e).1)
    have HS7:=Lib.hid (HS3.out.keep hbel7)
    have HB7:=Lib.hid HS7.out.bel
    have HZ7:=Lib.hid (show w2.heap.size≤w7.heap.size by have:=HSZ3.out;have:=hbel7.size;omega)
    have HR7:=Lib.hid ((own_below HR3.out (below_one W4 (.cells #[.int .u64 b] 22))).kept hg (by
     rcases hq9:(Value.slice (some ⟨bb,oo,none⟩) bs.length d2).ownBlock with _ |t9
     ·exact .inl rfl
     ·refine .inr fun e9=> ?_
      have h8:=own_lt0 HR3.out hq9
      have h7:=HG0.out
      have h6:=own_lt0 HN2.out hq9
      rcases HC.out.2.2.2.2 t9 e9.symm with h5 |h5
      ·omega
      ·omega))
    have HV7:=Lib.hid (show ∀g,(Value.slice (some ⟨g2',0,none⟩) (rows.length+1+1) cap).ownBlock=some g→g=g0∨w2.heap.size≤g from fun g e9=>by
     have e8:g2'=g:=by simpa [Value.ownBlock] using e9
     subst e8
     rcases hat with h5 |h5
     ·exact HC.out.2.2.2.2 _ h5
     ·right
      rw [h5]
      have:=HSZ3.out
      simp
      omega)
    have HO7:=Lib.hid hown
    clear hown hg hat hlt7 hbel7 g2 hbb2
    go_wp2
    go_roundw
    case rel=>exact ⟨k+1,by omega,by go_num,Lib.hid (by have:=HO7.out;rw [HN.out];simpa using this),Lib.hid ⟨HB7.out,HS7.out,HR7.out,HZ7.out,HV7.out⟩⟩
    case measure=>simp [intOf];omega
   ·have HN:=Lib.hid (show (bs.take (k+1)).filter (segF c.regs)=rows by rw [HX.out,HFQ.out];simp)
    go_wp2
    go_roundw
    case rel=>exact ⟨k+1,by omega,by go_num,Lib.hid (by rw [HN.out];exact HO3.out),Lib.hid ⟨HB3.out,HS3.out,HR3.out,HSZ3.out,HC.out.2.2.2.2⟩⟩
    case measure=>simp [intOf];omega
  ·obtain rfl:k=bs.length:=by omega
   have HF:=Lib.hid (show 0::(bs.take bs.length).filter (segF c.regs)=segsL c.regs by rw [List.take_length,HSG.out])
   obtain ⟨VA,vc,rfl,_⟩:=own_form HO.out
   have HO9:=Lib.hid (show ∃v,Value.slice VA (0::(bs.take bs.length).filter (segF c.regs)).length vc=v∧wr.ownsRow w.heap.size 22 1 v (segsL c.regs).length ((segsL c.regs).map (Value.int .u64)) from ⟨_,rfl,by rw [←HF.out];exact own_lessM HO.out (Nat.le_succ _)⟩)
   have HZ:=Lib.hid HC.out.1
   go_wp2
   go_ret
   obtain ⟨v9,e9,h9⟩:=HO9.out
   exact ⟨_,rfl,by rw [e9];exact h9,HZ.out⟩
set_option maxRecDepth 100000 in
set_option maxHeartbeats 8000000 in
theorem rSegment_ok (c:Cfg) (A1 A2 A3 A4 A5:Option Addr) (c1 c2 c3 c4 c5:Nat) (w:World) (hR:CfgR w w.heap.size c A1 A2 A3 A4 A5 c1 c2 c3 c4 c5) (hs:c.small) (hl:okR c.regs) (x:Int) (hx:0≤x) (a b:Int) (hv:Hid (refSeg (segsL c.regs) x=(a,b))):Calls Tryz.prog 32 #[cfgV c.frame A1 A2 A3 A4 A5 c.parts.length c.wins.length c.regs.length c.ports.length c.chans.length c1 c2 c3 c4 c5, .int .u64 x] w fun e w'=>e= .returned (.tuple #[.int .u64 a, .int .u64 b])∧Below w.heap.size w w':=by
 obtain ⟨W0,hW,st⟩:=St.start_any hR 29
 have HW:=Lib.hid hW
 have ST0:=Lib.hid st
 have HL:=Lib.hid hl
 have hbd:=hs.bd.r
 obtain ⟨x0,x1,x2,x3,x4,x5,hz⟩:=st.cells
 clear hR hW st hl
 go_enter Tryz.func32,Tryz.ntmps32
 go_upto_region 1 with (fail)
 rw [HW.out]
 go_wp2_with fail
 refine (rSegments_ok c _ _ _ _ _ _ _ _ _ _ _ ST0.out.R hs HL.out).mono ?_
 rintro e w1 ⟨v1,rfl,ho1,hb1⟩
 have hsl:(segsL c.regs).length≤4194304:=by
  unfold segsL
  have h1:=List.length_filter_le (fun b=> !sameB c.regs b (b -1)) (bndsL c.regs)
  have h2:=bnds_len c.regs
  rw [List.length_cons]
  omega
 have HPOS:=Lib.hid (show ∀y ∈ segsL c.regs,0≤y∧y≤18446744073709551615 from fun y hy=>by
  unfold segsL at hy
  rcases List.mem_cons.1 hy with rfl |hy
  ·omega
  ·have:=bnds_pos HL.out (List.mem_filter.1 hy).1
   unfold topA at this
   omega)
 generalize segsL c.regs=L at*
 obtain ⟨A,cc,rfl,_,_,hrd⟩:=own_form ho1
 have HRD:=Lib.hid hrd
 have HB1:=Lib.hid (Below.then_ ST0.out.bel hb1)
 clear ho1 hb1 hrd x0 x1 x2 x3 x4 x5 hz
 go_wp2_with fail
 refine (rTop_ok w1).mono ?_
 rintro e w2 ⟨rfl,hb2⟩
 have HRD2:=Lib.hid (HRD.out.up hb2)
 have HB2:=Lib.hid (Below.then_ HB1.out hb2)
 clear hb2
 go_wp2
 go_loopw [7,8,9] (fun lo hi i wr=> ∃(m:Nat) (j p q:Int),i= .int .i64 j∧ -1≤j∧j <4194304∧lo= .int .u64 p∧hi= .int .u64 q∧m≤L.length∧Hid ((m:Int)=j+1∧refSeg (L.drop m) x=(p,q))∧Hid (Below w2.heap.size w2 wr)) (fun _ _ i _=>(intOf i+1).toNat)
 case atStart=>exact ⟨L.length,(L.length:Int) -1,0,18446744073709551615,rfl,by omega,by omega,rfl,rfl,Nat.le_refl _,Lib.hid ⟨by omega,by rw [List.drop_length];rfl⟩,Lib.hid (Below.refl _ _)⟩
 case round=>
  obtain ⟨m,j,p,q,rfl,hj0,hj1,rfl,rfl,hm,HM,HB⟩:=hrel
  by_cases hj:0≤j
  ·obtain ⟨k,rfl⟩: ∃k:Nat,j=(k:Int):=⟨j.toNat,by omega⟩
   have hmk:m=k+1:=by have:=HM.out.1;omega
   obtain ⟨y,hy⟩:=get_lt (l:=L) (k:=k) (by omega)
   have hyp:=HPOS.out y (List.mem_of_getElem? hy)
   obtain ⟨bb,oo,rfl,hbb,g1⟩:=u64_atN (HRD2.out.up HB.out) hy
   have k1:(k:Int) <(L.length:Int):=by omega
   have HST:=Lib.hid (show refSeg (L.drop k) x=if y≤x then (max p y,q) else (p,y -1) from by
    rw [drop_cons hy]
    unfold refSeg
    rw [List.foldr_cons]
    have h5:=HM.out.2
    rw [hmk] at h5
    unfold refSeg at h5
    rw [h5])
   clear hy
   by_cases hyx:y≤x
   ·have HN:=Lib.hid (show refSeg (L.drop k) x=(max p y,q) by rw [HST.out,if_pos hyx])
    go_wp2
    go_roundw
    case rel=>exact ⟨k,(k:Int) -1,max p y,q,by go_num,by omega,by omega,rfl,rfl,by omega,Lib.hid ⟨by omega,HN.out⟩,HB⟩
    case measure=>first |(simp [intOf];done) |(simp [intOf];omega)
   ·have HN:=Lib.hid (show refSeg (L.drop k) x=(p,y -1) by rw [HST.out,if_neg hyx])
    have hw:IntKind.u64.wrap (y -1)=y -1:=by rw [IntKind.wrap_u64];omega
    go_wp2
    go_roundw
    case rel=>exact ⟨k,(k:Int) -1,p,y -1,by go_num,by omega,by omega,rfl,rfl,by omega,Lib.hid ⟨by omega,HN.out⟩,HB⟩
    case measure=>first |(simp [intOf];done) |(simp [intOf];omega)
  ·obtain rfl:j= -1:=by omega
   have hm0:m=0:=by have:=HM.out.1;omega
   have HE:=Lib.hid (show p=a∧q=b from by
    have h5:=HM.out.2
    rw [hm0,List.drop_zero,hv.out] at h5
    injection h5 with h6 h7
    exact ⟨h6.symm,h7.symm⟩)
   have HZ:=Lib.hid (Below.then_ HB2.out HB.out)
   go_wp2
   go_ret2
   exact ⟨by rw [←HE.out.1, ←HE.out.2];rfl,HZ.out⟩
end Go.Proofs.YtdmgpdanlfmadaaGreat
