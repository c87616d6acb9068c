/-
  All of the reference of layer 22, walked. No condition but on sizes, and that the regions lie within the addresses.
-/
import Derived.Test.YtdmgpdanlfmadaaGreatOwnN
import Derived.Test.YtdmgpdanlfmadaaGreatRefH
import Derived.Test.YtdmgpdanlfmadaaGreatNormR
namespace Go.Proofs.YtdmgpdanlfmadaaGreat
open Go.RowKit
attribute [local go_sem] ext_cell
theorem justR_ok {c:Cfg} (h:c.ok):c.justR.ok:=by
 obtain ⟨h1,h2,h3,h4,h5,h6⟩:=h
 exact ⟨by show wU64 0;unfold wU64;decide,by simp [Cfg.justR],by simp [Cfg.justR],h4,by simp [Cfg.justR],by simp [Cfg.justR]⟩
theorem justR_small {c:Cfg} (h:c.small):c.justR.small:=by
 have:=h.bd.r
 refine ⟨?_,by simp [Cfg.justR],by simp [Cfg.justR]⟩
 simp [Cfg.total,Cfg.justR,sumDests,BIG]
 omega
theorem rNormJ_ok (c:Cfg) (l:List Reg) (hl:normK keyReg c.regs=l) (A1 A2 A3 A4 A5:Option Addr) (c1 c2 c3 c4 c5:Nat) (w:World) (hR:CfgR w w.heap.size c A1 A2 A3 A4 A5 c1 c2 c3 c4 c5) (hok:c.ok) (hs:c.small):
  Calls Tryz.prog 40 #[.agg #[.int .u64 0, .slice none 0 0, .slice none 0 0, .slice A3 c.regs.length c3, .slice none 0 0, .slice none 0 0]] w fun e w'=> ∃(B1 B2 B3 B4 B5:Option Addr) (b1 b2 b3 b4 b5:Nat),e= .returned (.agg #[.int .u64 0, .slice B1 0 b1, .slice B2 0 b2, .slice B3 l.length b3, .slice B4 0 b4, .slice B5 0 b5])∧Rd w' w'.heap.size 5 B3 l.length (l.flatMap Reg.cells)∧Below w.heap.size w w':=by
 refine Calls.mono (show Calls Tryz.prog 40 #[.agg #[.int .u64 0, .slice none 0 0, .slice none 0 0, .slice A3 c.regs.length c3, .slice none 0 0, .slice none 0 0]] w _ from rNormal_ok c.justR none none A3 none none 0 0 c3 0 0 w (justR_R hR) (justR_ok hok) (justR_small hs)) ?_
 rintro e w' ⟨B1,B2,B3,B4,B5,b1,b2,b3,b4,b5,he,ho,hb⟩
 refine ⟨B1,B2,B3,B4,B5,b1,b2,b3,b4,b5, ?_, ?_,hb⟩
 ·have he2:c.justR.norm.regs.length=l.length:=by rw [show c.justR.norm.regs=l from hl]
  rw [he,he2]
  simp [cfgV,Cfg.norm,Cfg.justR,normK]
 ·have h3:=ho.regs
  rw [show c.justR.norm.regs=l from hl] at h3
  exact h3
theorem cov_next {l:List Reg} {k:Nat} {r:Reg} (hr:l[k]? =some r) (x:Int):(l.take (k+1)).filter (fun r=>covR r x)=(l.take k).filter (fun r=>covR r x)++(if covR r x then [r] else []):=by
 rw [take_next hr,List.filter_append]
 congr 1
 by_cases h:covR r x<;>simp [h]
theorem rd_blockU {w:World} {g sz n:Nat} {t:TypeId} {cs:Array Value} (h:w.heap[g]? =some (.cells cs t (0,0))) (hn:cs.size=n*sz):Rd w w.heap.size sz (some ⟨g,0,none⟩) n cs.toList:=
 ⟨by simpa using hn,fun _=>⟨g,0,rfl,(Array.getElem?_eq_some_iff.1 h).1,fun j u hu=>by
  have:=World.news_of_block h j u hu
  rwa [addr_add] at this⟩⟩
set_option maxRecDepth 100000 in
set_option maxHeartbeats 8000000 in
theorem rAll_ok (c:Cfg) (A1 A2 A3 A4 A5:Option Addr) (c1 c2 c3 c4 c5:Nat) (w:World) (hR:CfgR w w.heap.size c A1 A2 A3 A4 A5 c1 c2 c3 c4 c5) (hs:c.small) (hok:c.ok) (hsp: ∀r ∈ c.regs,okSp r.base r.size) (x:Int) (R:List Reg) (hv:Hid (((normK keyReg c.regs).filter fun r=>covR r x)=R)):Calls Tryz.prog 15 #[cfgV c.frame A1 A2 A3 A4 A5 c.parts.length c.wins.length c.regs.length c.ports.length c.chans.length c1 c2 c3 c4 c5, .int .u64 x] w fun e w'=> ∃v,e= .returned v∧w'.ownsRow w.heap.size 41 5 v R.length (R.flatMap Reg.cells)∧Below w.heap.size w w':=by
 obtain ⟨i0,hi,hz0,hz1,hz2⟩:=info_parts infoRegion
 obtain ⟨W0,hW,st⟩:=St.start_any hR 29
 have HW:=Lib.hid hW
 have ST0:=Lib.hid st
 have HSP:=Lib.hid (fun r hr=>hsp r ((normK_perm (key:=keyReg) c.regs).mem_iff.1 hr))
 have hbd:(normK keyReg c.regs).length≤1048576:=by rw [(normK_perm (key:=keyReg) c.regs).length_eq];exact hs.bd.r
 obtain ⟨x0,x1,x2,x3,x4,x5,hz⟩:=st.cells
 clear hR hW st hsp
 go_enter Tryz.func15,Tryz.ntmps15
 go_upto_region 1 with (fail)
 rw [HW.out]
 go_wp2_with fail
 obtain ⟨l,hl⟩: ∃l,normK keyReg c.regs=l:=⟨_,rfl⟩
 refine (rNormJ_ok c l hl _ _ _ _ _ _ _ _ _ _ _ ST0.out.R hok hs).mono ?_
 rintro e w2 ⟨B1,B2,B3,B4,B5,b1,b2,b3,b4,b5,rfl,hr2,hb2⟩
 rw [hl] at HSP hv hbd
 have HR2:=Lib.hid hr2
 have ST2:=Lib.hid (ST0.out.up hb2)
 clear hb2 x0 x1 x2 x3 x4 x5 hz hr2 hl hok
 have hfd:=field_regs B1 B2 B3 B4 B5 0 0 l.length 0 0 b1 b2 b3 b4 b5
 go_wp2
 clear hfd
 go_loopw [5,7] (fun v i wr=> ∃k:Nat,k≤l.length∧i= .int .i64 k∧Hid (wr.ownsRow w2.heap.size 41 5 v ((l.take k).filter fun r=>covR r x).length (((l.take k).filter fun r=>covR r x).flatMap Reg.cells))∧Hid (Below w2.heap.size w2 wr)) (fun _ i _=>l.length -(intOf i).toNat)
 case atStart=>exact ⟨0,Nat.zero_le _,rfl,Lib.hid (World.ownsRow_nil _ _ _ _),Lib.hid (Below.refl _ _)⟩
 case round=>
  obtain ⟨k,hk,rfl,HO,HB⟩:=hrel
  by_cases hlt:k <l.length
  ·obtain ⟨r,hr⟩:=get_lt hlt
   have HX:=Lib.hid (cov_next hr x)
   have HXR:=Lib.hid hr
   have HSR:=Lib.hid (HSP.out r (List.mem_of_getElem? hr))
   obtain ⟨bb,oo,rfl,hbb,g0,g1,g2,g3,g4⟩:=reg_at (HR2.out.up HB.out) hr
   obtain ⟨q,hq⟩: ∃q,covR r x=q:=⟨_,rfl⟩
   have HQ:=Lib.hid hq
   have k0:(0:Int)≤(k:Int):=by omega
   have k1:(k:Int) <(l.length:Int):=by omega
   have hrl:((l.take k).filter fun r=>covR r x).length≤k:=by
    have:=List.length_filter_le (fun r=>covR r x) (l.take k)
    rw [List.length_take] at this
    omega
   obtain ⟨rows,hrows⟩: ∃rows,((l.take k).filter fun r=>covR r x)=rows:=⟨_,rfl⟩
   rw [hrows] at HO HX hrl
   clear hr hq hrows
   go_wp2_with fail
   refine (rSpan_ok r wr).mono ?_
   rintro e w4 ⟨rfl,hb4⟩
   go_wp2_with fail
   refine (rHasC_val r x q w4 HSR.out HQ).mono ?_
   rintro e w5 ⟨rfl,hb5⟩
   have hb6:=Below.then_ hb4 hb5
   have HO5:=Lib.hid (own_below HO.out hb6)
   have HB5:=Lib.hid (Below.then_ HB.out hb6)
   have hz5:w2.heap.size≤w5.heap.size:=HB5.out.size
   clear g0 g1 g2 g3 g4 hbb
   obtain ⟨bb2,oo2,e2,hbb,g0,g1,g2,g3,g4⟩:=reg_at (HR2.out.up HB5.out) HXR.out
   obtain ⟨rfl,rfl⟩:bb=bb2∧oo=oo2:=by simpa using e2
   clear hb4 hb5 hb6 e2
   cases q
   ·have HN:=Lib.hid (show ((l.take (k+1)).filter fun r=>covR r x)=rows by rw [HX.out,HQ.out];simp)
    go_wp2
    go_roundw
    case rel=>exact ⟨k+1,by omega,by go_num,Lib.hid (by rw [HN.out];exact HO5.out),HB5⟩
    case measure=>simp [intOf];omega
   ·have HN:=Lib.hid (show ((l.take (k+1)).filter fun r=>covR r x)=rows++ [r] by rw [HX.out,HQ.out];simp)
    obtain ⟨rA,rc,rfl,_⟩:=own_form HO5.out
    have hal:=below_one w5 (.cells #[.int .u64 r.base, .int .u64 r.size, .int .u16 r.part, .int .u8 r.rights, .bool r.shared] 41)
    have HO6:=Lib.hid (own_below HO5.out hal)
    have HB6:=Lib.hid (Below.then_ HB5.out hal)
    go_wp2_with (at_builtin;go_loud (refine wpList_append_rd _ rfl (.tmp 26) (.tmp 31) _ rfl w2.heap.size 41 i0 (.agg #[.int .u64 0, .int .u64 0, .int .u16 0, .int .u8 0, .bool false]) 5 24 Tryz.underlying25 hi hz0 hz1 hz2 rfl (by decide) _ _ _ rfl HO6.out (w5.alloc (.cells #[.int .u64 r.base, .int .u64 r.size, .int .u16 r.part, .int .u8 r.rights, .bool r.shared] 41)).heap.size (some ⟨w5.heap.size,0,none⟩) 1 1 r.cells rfl (rd_blockU (heap_alloc_new w5 _) rfl) (by intro u hu;simp [Reg.cells] at hu;rcases hu with rfl |rfl |rfl |rfl |rfl<;>rfl) (by unfold maxLen;omega) (by omega) (by simp;omega) ?_);intro v' w7 hown hg)
    have hb7:=below_own HB6.out hg HO6.out (by simp;omega)
    have HO7:=Lib.hid (show w7.ownsRow w2.heap.size 41 5 v' ((l.take (k+1)).filter fun r=>covR r x).length (((l.take (k+1)).filter fun r=>covR r x).flatMap Reg.cells) by rw [HN.out];simpa using hown)
    have HB7:=Lib.hid hb7
    clear hown hg hb7 hal
    go_wp2
    go_roundw
    case rel=>exact ⟨k+1,by omega,by go_num,HO7,HB7⟩
    case measure=>simp [intOf];omega
  ·obtain rfl:k=l.length:=by omega
   have HZ:=Lib.hid (Below.then_ ST2.out.bel HB.out)
   have HO9:=Lib.hid (show wr.ownsRow w.heap.size 41 5 u5 R.length (R.flatMap Reg.cells) by
    have:=HO.out
    rw [List.take_length,hv.out] at this
    exact own_lessM this ST2.out.bel.size)
   go_wp2
   go_ret
   exact ⟨_,rfl,HO9.out,HZ.out⟩
end Go.Proofs.YtdmgpdanlfmadaaGreat
