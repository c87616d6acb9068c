/-
  The methods of a map of owners that only read, walked: Len, find, end, Segment, All. No condition but on sizes.
-/
import Derived.BigQuiet
import Derived.Test.YtdmgpdanlfmadaaGreatOwnN
import Derived.Test.YtdmgpdanlfmadaaGreatOwnA
import Derived.Deep.AppendLies
import Derived.Test.YtdmgpdanlfmadaaGreatNumA
namespace Go.Proofs.YtdmgpdanlfmadaaGreat
open Go.RowKit Go.Shelf Go.Sort
attribute [local go_sem] ext_cell
@[reducible] def SE.seg (L:List SE):List Seg:=L.map (·.s)
theorem MapO.form {W:World} {lo mb:Nat} {L:List SE} (h:MapO W lo mb L): ∃A c,W.cell? ⟨mb,0,none⟩=some (.slice A L.length c)∧L.length≤c∧Rd W W.heap.size 2 A L.length (L.flatMap SE.cells)∧mb <W.heap.size:=by
 obtain ⟨sv,h1,h2⟩:=h.mp
 obtain ⟨A,c,rfl,h3,_,h4⟩:=own_form h2
 refine ⟨A,c, ?_,h3,h4,h1.lt⟩
 have:=h1.cell 0
 simpa using this
theorem mLen_ok {W:World} {lo mb:Nat} {L:List SE} (h:MapO W lo mb L):Calls Tryz.prog 16 #[.pointer (some ⟨mb,0,none⟩)] W fun e w'=>e= .returned (.int .i64 L.length)∧Below W.heap.size W w':=by
 obtain ⟨A,c,c0,_,_,hz⟩:=h.form
 clear h
 go_enter Tryz.func16,Tryz.ntmps16
 go_wp2
 go_ret
 exact ⟨rfl,Below.refl _ _⟩
set_option maxRecDepth 100000 in
set_option maxHeartbeats 2000000 in
theorem findFn_ok {W:World} {lo mb b1 b2:Nat} {L:List SE} (h:MapO W lo mb L) (x:Int) (h1:W.cell? ⟨b1,0,none⟩=some (.pointer (some ⟨mb,0,none⟩))) (h2:W.cell? ⟨b2,0,none⟩=some (.int .u64 x)) (i:Nat) (hi:i <L.length):
  Calls Tryz.prog 93 #[.int .i64 i, .pointer (some ⟨b1,0,none⟩), .pointer (some ⟨b2,0,none⟩)] W fun e w'=>e= .returned (.bool (decide (x <loAt (SE.seg L) i)))∧ ∃q os',w'=grow (W.drewN q) os':=by
 obtain ⟨A,c,c0,hc,hr,hz⟩:=h.form
 obtain ⟨e,he⟩:=get_lt hi
 obtain ⟨b,o,rfl,hb,g0,g1⟩:=se_at hr he
 have hlo:loAt (SE.seg L) i=e.s.lo:=loAt_at (by rw [List.getElem?_map,he];rfl)
 rw [hlo]
 have n0:(0:Int)≤(i:Int):=by omega
 have n1:(i:Int) <(L.length:Int):=by omega
 clear h hr he hlo hc
 go_enter Tryz.func93,Tryz.ntmps93
 go_wp2
 go_quiet (fail)
 go_wp2
 go_ret
 exact ⟨rfl,_,#[],by rw [grow_empty]⟩
set_option maxRecDepth 100000 in
set_option maxHeartbeats 2000000 in
theorem mFind_ok {W:World} {lo mb:Nat} {L:List SE} {l:List Reg} (h:MapO W lo mb L) (hs:SegsOk l (SE.seg L)) (hL:L.length≤4194304) (x:Int) (j:Nat) (hj:cntLo (SE.seg L) x=j+1):
  Calls Tryz.prog 39 #[.pointer (some ⟨mb,0,none⟩), .int .u64 x] W fun e w'=>e= .returned (.int .i64 j)∧Below W.heap.size W w':=by
 have hb1:=below_one W (.cells #[.pointer (some ⟨mb,0,none⟩)] 32)
 have hb2:=below_one (W.alloc (.cells #[.pointer (some ⟨mb,0,none⟩)] 32)) (.cells #[.int .u64 x] 22)
 have k1:=(Blk.new W 32 #[.pointer (some ⟨mb,0,none⟩)]).alloc (.cells #[.int .u64 x] 22)
 have k2:=Blk.new (W.alloc (.cells #[.pointer (some ⟨mb,0,none⟩)] 32)) 22 #[.int .u64 x]
 have H:=Lib.hid ((h.up hb1).up hb2)
 have HB:=Lib.hid (Below.then_ hb1 hb2)
 have HJ:=Lib.hid hj
 have HS:=Lib.hid hs
 have hz:(W.alloc (.cells #[.pointer (some ⟨mb,0,none⟩)] 32)).heap.size=W.heap.size+1:=by simp
 rw [hz] at k2
 clear h hs hb1 hb2 hj hz
 go_enter Tryz.func39,Tryz.ntmps39
 go_upto_region 1 with (fail)
 generalize World.alloc (World.alloc W _) _=W1 at k1 k2 H HB ⊢
 have K1:=Lib.hid k1
 have K2:=Lib.hid k2
 generalize hgx:W.heap.size=gx at*
 have p0:=k1.cell 0
 have p1:=k2.cell 0
 have z0:=k1.lt
 have z1:=k2.lt
 simp at p0 p1
 obtain ⟨A,c,c0,_,_,hz⟩:=H.out.form
 have eg: ∀args w,(callFunc 93 args).run Tryz.prog w= .ok (.enter 93 args) w:=enters_of Tryz.func93 (by kernel_rfl) rfl
 have HC:=Lib.hid (Any.sort_Search Tryz.laySearch 93 #[.pointer (some ⟨gx,0,none⟩), .pointer (some ⟨gx+1,0,none⟩)] L.length (fun i=>decide (x <loAt (SE.seg L) i)) W1 eg (by omega) (fun m os i hi=>by
  have hbg:Below W1.heap.size W1 (grow (W1.drewN m) os):=by
   refine ⟨rfl,rfl,rfl,by simp [grow,World.drewN],fun k hk=> ?_⟩
   simp only [grow,World.drewN]
   exact Array.getElem?_append_left hk
  have a0:=(K1.out.below hbg K1.out.lt).cell 0
  have a1:=(K2.out.below hbg K2.out.lt).cell 0
  simp at a0 a1
  exact findFn_ok (H.out.up hbg) x a0 a1 i hi) (fun a b hab hb ha=>HS.out.mono x a b hab (by simpa using hb) ha))
 have hcnt:((List.range L.length).countP fun i=> !decide (x <loAt (SE.seg L) i))=j+1:=by
  have:=HJ.out
  unfold cntLo at this
  rwa [List.length_map] at this
 have hjl:j <4194304:=by
  have:=List.countP_le_length (p:=fun i=> !decide (x <loAt (SE.seg L) i)) (l:=List.range L.length)
  rw [List.length_range] at this
  omega
 clear k1 k2
 go_wp2_with fail
 refine (show Calls Tryz.prog 92 #[.int .i64 L.length, .func (.func 93) #[] #[.pointer (some ⟨gx,0,none⟩), .pointer (some ⟨gx+1,0,none⟩)]] W1 _ from HC.out).mono ?_
 rintro e w2 ⟨rfl,q,os,rfl⟩
 rw [hcnt]
 have HG:=Lib.hid (show Below gx W (grow (W1.drewN q) os) from HB.out.trans ⟨rfl,rfl,rfl,by simp [grow,World.drewN],fun k hk=>by
  simp only [grow,World.drewN]
  exact Array.getElem?_append_left (by have:=HB.out.size;omega)⟩)
 have e1:IntKind.i64.wrap (((j+1:Nat):Int) -1)=(j:Int):=by rw [IntKind.wrap_i64];omega
 have E1:=Lib.hid e1
 clear hcnt p0 p1 z0 z1 c0 hz
 go_wp2
 go_ret
 exact ⟨ret_int (by first |exact E1.out |omega |rfl),by rw [hgx];exact HG.out⟩
theorem endSeg_eq {L:List SE} {j:Nat}:endSeg (SE.seg L) j=match L[j+1]? with
  |some e=>e.s.lo -1
  |none=>topA:=by
 unfold endSeg
 rw [List.getElem?_map]
 cases L[j+1]? <;>rfl
set_option maxRecDepth 100000 in
set_option maxHeartbeats 2000000 in
theorem mEnd_ok {W:World} {lo mb:Nat} {L:List SE} {l:List Reg} (h:MapO W lo mb L) (hs:SegsOk l (SE.seg L)) (hL:L.length≤4194304) (j:Nat) (hj:j <L.length) (v:Int) (hv:endSeg (SE.seg L) j=v):
  Calls Tryz.prog 30 #[.pointer (some ⟨mb,0,none⟩), .int .i64 j] W fun e w'=>e= .returned (.int .u64 v)∧Below W.heap.size W w':=by
 obtain ⟨A,c,c0,hc,hr,hz⟩:=h.form
 rw [endSeg_eq] at hv
 have e1:IntKind.i64.wrap ((j:Int)+1)=((j+1:Nat):Int):=by rw [IntKind.wrap_i64];omega
 by_cases hj1:j+1 <L.length
 ·obtain ⟨e,he⟩:=get_lt hj1
  rw [he] at hv
  obtain ⟨b,o,rfl,hb,g0,g1⟩:=se_at hr he
  have hpos:0 <e.s.lo:=by
   have:=hs.lo_lt (i:=j) (j:=j+1) (by omega) (by simpa using hj1)
   have h0:=hs.lo_le (i:=0) (j:=j) (by omega) (by simpa using hj)
   have hz0:=hs.zero
   rw [List.getElem?_map] at hz0
   obtain ⟨s0,hs0,hs1⟩:=Option.map_eq_some_iff.1 hz0
   rw [loAt_at hs0] at h0
   rw [loAt_at (i:=j+1) (s:=e.s) (by rw [List.getElem?_map,he];rfl)] at this
   omega
  have htop:=hs.top e.s (List.mem_map.2 ⟨e,List.mem_of_getElem? he,rfl⟩)
  have hv:e.s.lo -1=v:=hv
  have e2:=Lib.hid (show IntKind.u64.wrap (e.s.lo -1)=v by rw [IntKind.wrap_u64];unfold topA at htop;omega)
  have n0:(0:Int)≤((j+1:Nat):Int):=by omega
  have n1:((j+1:Nat):Int) <(L.length:Int):=by omega
  have e3:=e2.out
  have EV:=Lib.hid (show IntKind.u64.wrap v=v by rw [IntKind.wrap_u64];unfold topA at htop;omega)
  clear h hs hr he hc hv htop
  go_enter Tryz.func30,Tryz.ntmps30
  go_wp2
  go_ret
  exact ⟨ret_int (by first |exact EV.out |exact e2.out |omega |rfl),Below.refl _ _⟩
 ·have hjn:L[j+1]? =none:=List.getElem?_eq_none (by omega)
  rw [hjn] at hv
  have hv:topA=v:=hv
  have n1: ¬((j+1:Nat):Int) <(L.length:Int):=by omega
  have n2:(L.length:Int)≤((j+1:Nat):Int):=by omega
  clear h hs hr hc
  go_enter Tryz.func30,Tryz.ntmps30
  go_wp2
  go_ret
  exact ⟨ret_int (by rw [←hv];rfl),Below.refl _ _⟩
set_option maxRecDepth 100000 in
set_option maxHeartbeats 4000000 in
theorem mSegment_ok {W:World} {lo mb:Nat} {L:List SE} {l:List Reg} (h:MapO W lo mb L) (hs:SegsOk l (SE.seg L)) (hL:L.length≤4194304) (x:Int) (j:Nat) (e:SE) (hj:cntLo (SE.seg L) x=j+1) (he:L[j]? =some e) (v:Int) (hv:endSeg (SE.seg L) j=v):
  Calls Tryz.prog 13 #[.pointer (some ⟨mb,0,none⟩), .int .u64 x] W fun r w'=>r= .returned (.tuple #[.int .u64 e.s.lo, .int .u64 v])∧Below W.heap.size W w':=by
 have H:=Lib.hid h
 have HS:=Lib.hid hs
 have HJ:=Lib.hid hj
 have HE:=Lib.hid he
 have HV:=Lib.hid hv
 have hjl:j <L.length:=(List.getElem?_eq_some_iff.1 he).1
 clear h hs hj he hv
 go_enter Tryz.func13,Tryz.ntmps13
 go_wp2_with fail
 refine (mFind_ok H.out HS.out hL x j HJ.out).mono ?_
 rintro r w1 ⟨rfl,hb1⟩
 have H1:=Lib.hid (H.out.up hb1)
 have HB1:=Lib.hid hb1
 obtain ⟨A,c,c0,_,hr,hz⟩:=H1.out.form
 obtain ⟨b,o,rfl,hb,g0,g1⟩:=se_at hr HE.out
 have n0:(0:Int)≤(j:Int):=by omega
 have n1:(j:Int) <(L.length:Int):=by omega
 clear hb1 hr
 go_wp2
 refine wp_region_ext (by kernel_rfl) (by kernel_rfl) ?_
 repeat (go_big_quiet_step ((go_at_call 30;exact Calls.quiet_ext (mEnd_ok (H1.out.up (ext_below _ _)) HS.out hL j hjl v HV.out))))
 refine wpQuiet_nil ?_
 intro xq
 go_wp2
 go_ret2
 exact ⟨rfl,Below.then_ HB1.out (ext_below _ xq)⟩
end Go.Proofs.YtdmgpdanlfmadaaGreat
namespace Go.Proofs.YtdmgpdanlfmadaaGreat
open Go.RowKit Go.Shelf
attribute [local go_sem] ext_cell
def regsOf (e:SE):List Reg:=e.s.rs.map (·.r)
theorem regsOf_next {e:SE} {k:Nat} {o:Opn} (h:e.s.rs[k]? =some o):(regsOf e).take (k+1)=(regsOf e).take k++ [o.r]:=take_next (by unfold regsOf;rw [List.getElem?_map,h];rfl)
set_option maxRecDepth 100000 in
set_option maxHeartbeats 8000000 in
theorem mAll_ok {W:World} {lo mb:Nat} {L:List SE} {l:List Reg} (h:MapO W lo mb L) (hs:SegsOk l (SE.seg L)) (hL:L.length≤4194304) (x:Int) (j:Nat) (e:SE) (hj:cntLo (SE.seg L) x=j+1) (he:L[j]? =some e) (hn:e.s.rs.length≤4194304):
  Calls Tryz.prog 11 #[.pointer (some ⟨mb,0,none⟩), .int .u64 x] W fun r w'=> ∃v,r= .returned v∧w'.ownsRow W.heap.size 41 5 v (regsOf e).length ((regsOf e).flatMap Reg.cells)∧Below W.heap.size W w':=by
 obtain ⟨ii,hi,hz0,hz1,hz2⟩:=info_parts infoRegion
 have H:=Lib.hid h
 have HS:=Lib.hid hs
 have HJ:=Lib.hid hj
 have HE:=Lib.hid he
 obtain ⟨A,c,c0,_,hr,hz⟩:=h.form
 obtain ⟨b,o,rfl,hb,g0,g1⟩:=se_at hr he
 have hjl:j <L.length:=(List.getElem?_eq_some_iff.1 he).1
 have n0:(0:Int)≤(j:Int):=by omega
 have n1:(j:Int) <(L.length:Int):=by omega
 have hre:=h.rs e (List.mem_of_getElem? he)
 obtain ⟨⟨hc1,_⟩,hrd⟩:=own_slice hre
 have HRD:=Lib.hid hrd
 clear h hs hj he hr hre hrd
 go_enter Tryz.func11,Tryz.ntmps11
 go_wp2
 refine wp_region_ext (by kernel_rfl) (by kernel_rfl) ?_
 repeat (go_big_quiet_step ((go_at_call 39;exact Calls.quiet_ext (mFind_ok (H.out.up (ext_below _ _)) HS.out hL x j HJ.out))))
 refine wpQuiet_nil ?_
 intro xq
 have HB1:=Lib.hid (ext_below W xq)
 clear c0 hz g0 g1 hb n0 n1
 generalize ext W xq=W1 at HB1 ⊢
 go_wp2
 go_loopw [5,21] (fun v i wr=> ∃k:Nat,k≤e.s.rs.length∧i= .int .i64 k∧Hid (wr.ownsRow W.heap.size 41 5 v ((regsOf e).take k).length (((regsOf e).take k).flatMap Reg.cells))∧Hid (Below W.heap.size W wr)) (fun _ i _=>e.s.rs.length -(intOf i).toNat)
 case atStart=>exact ⟨0,Nat.zero_le _,rfl,Lib.hid (World.ownsRow_nil _ _ _ _),HB1⟩
 case round=>
  obtain ⟨k,hk,rfl,HO,HB⟩:=hrel
  by_cases hlt:k <e.s.rs.length
  ·obtain ⟨y,hy⟩:=get_lt hlt
   have HX:=Lib.hid (regsOf_next hy)
   obtain ⟨bb,oo,hA,hbb,p0,p1,p2,p3,p4,p5⟩:=opn_at (HRD.out.up HB.out) hy
   have hlen:((regsOf e).take k).length≤4194304:=by rw [List.length_take];omega
   obtain ⟨rows,hrows⟩: ∃rows,(regsOf e).take k=rows:=⟨_,rfl⟩
   rw [hrows] at HO HX hlen
   have k0:(0:Int)≤(k:Int):=by omega
   have k1:(k:Int) <(e.s.rs.length:Int):=by omega
   have hWs:W.heap.size≤wr.heap.size:=HB.out.size
   have hal:=below_one wr (.cells #[.int .u64 y.r.base, .int .u64 y.r.size, .int .u16 y.r.part, .int .u8 y.r.rights, .bool y.r.shared, .int .i64 y.k] 66)
   have bk:=Blk.new wr 66 #[.int .u64 y.r.base, .int .u64 y.r.size, .int .u16 y.r.part, .int .u8 y.r.rights, .bool y.r.shared, .int .i64 y.k]
   have HO1:=Lib.hid (own_below HO.out hal)
   have HB2:=Lib.hid (Below.then_ HB.out hal)
   rw [hA]
   clear hy hrows hal
   go_upto_region 7 with (fail)
   generalize World.alloc wr _=W3 at bk HO1 HB2 ⊢
   have q0:=bk.cell 0
   have q1:=bk.cell 1
   have q2:=bk.cell 2
   have q3:=bk.cell 3
   have q4:=bk.cell 4
   have qz:=bk.lt
   simp at q0 q1 q2 q3 q4
   generalize hgx:wr.heap.size=gx at*
   clear p0 p1 p2 p3 p4 p5 bk
   have HO2:=Lib.hid (own_below HO1.out (below_one W3 (.cells #[.int .u64 y.r.base, .int .u64 y.r.size, .int .u16 y.r.part, .int .u8 y.r.rights, .bool y.r.shared] 41)))
   have hW3:W.heap.size≤W3.heap.size:=HB2.out.size
   go_wp2_with (at_builtin;go_loud (refine wpList_append_lies _ rfl (.tmp 25) (.tmp 28) _ rfl W.heap.size 41 ii (.agg #[.int .u64 0, .int .u64 0, .int .u16 0, .int .u8 0, .bool false]) 5 24 Tryz.underlying25 hi hz0 hz1 hz2 rfl (by decide) _ _ _ rfl HO2.out ⟨W3.heap.size,0,none⟩ 1 1 [.int .u64 y.r.base, .int .u64 y.r.size, .int .u16 y.r.part, .int .u8 y.r.rights, .bool y.r.shared] rfl rfl (World.news_of_block (heap_alloc_new W3 _)) (by intro u hu;simp at hu;rcases hu with rfl |rfl |rfl |rfl |rfl<;>rfl) (by omega) (by unfold maxLen;omega) (by omega) (by simp;omega) _ rfl ?_);intro g2 cap w7 hown hg hat hlt7)
   have HB7:=Lib.hid (show Below W.heap.size W w7 from (Below.then_ HB2.out (below_one W3 _)).grown hg (by simp;omega) (fun k e=>(own_lt0 HO2.out e).1))
   have HO7:=Lib.hid hown
   clear hown hg hat hlt7 q0 q1 q2 q3 q4 qz
   go_wp2
   go_roundw
   case rel=>exact ⟨k+1,by omega,by go_num,Lib.hid (by have:=HO7.out;rw [HX.out];simpa [Reg.cells] using this),HB7⟩
   case measure=>simp [intOf];omega
  ·obtain rfl:k=e.s.rs.length:=by omega
   have HF:=Lib.hid (show (regsOf e).take e.s.rs.length=regsOf e from List.take_of_length_le (by unfold regsOf;simp))
   go_wp2
   go_ret
   exact ⟨_,rfl,by have:=HO.out;rwa [HF.out] at this,HB.out⟩
theorem mAll_nil (x:Int) (W:World):Calls Tryz.prog 11 #[.pointer none, .int .u64 x] W fun r w'=>r= .returned (.slice none 0 0)∧Below W.heap.size W w':=by
 go_enter Tryz.func11,Tryz.ntmps11
 go_wp2
 go_ret
 exact ⟨rfl,Below.refl _ _⟩
@[reducible] def Reg.valO (x:Reg):Value:= .agg #[.int .u64 x.base, .int .u64 x.size, .int .u16 x.part, .int .u8 x.rights, .bool x.shared]
def noReg:Reg:=⟨0,0,0,0,false⟩
def onlyR (l:List Reg):Reg × Bool:=match l with
 | [x]=>(x,true)
 |_=>(noReg,false)
set_option maxRecDepth 100000 in
set_option maxHeartbeats 4000000 in
theorem mOwner_ok {W:World} {lo mb:Nat} {L:List SE} {l:List Reg} (h:MapO W lo mb L) (hs:SegsOk l (SE.seg L)) (hL:L.length≤4194304) (x:Int) (j:Nat) (e:SE) (hj:cntLo (SE.seg L) x=j+1) (he:L[j]? =some e) (hn:e.s.rs.length≤4194304):
  Calls Tryz.prog 12 #[.pointer (some ⟨mb,0,none⟩), .int .u64 x] W fun r w'=>r= .returned (.tuple #[(onlyR (regsOf e)).1.valO, .bool (onlyR (regsOf e)).2])∧Below W.heap.size W w':=by
 have hal:=below_one W (.cells #[.int .u64 0, .int .u64 0, .int .u16 0, .int .u8 0, .bool false] 41)
 have bk:=Blk.new W 41 #[.int .u64 0, .int .u64 0, .int .u16 0, .int .u8 0, .bool false]
 have H:=Lib.hid (h.up hal)
 have HAL:=Lib.hid hal
 have HS:=Lib.hid hs
 have HJ:=Lib.hid hj
 have HE:=Lib.hid he
 have hrn:(regsOf e).length≤4194304:=by unfold regsOf;rw [List.length_map];exact hn
 clear h hs hj he
 go_enter Tryz.func12,Tryz.ntmps12
 go_upto_region 1 with (fail)
 generalize World.alloc W _=W1 at hal bk H HAL ⊢
 have HBK:=Lib.hid bk
 generalize hgx:W.heap.size=gx at*
 clear hal bk
 go_wp2_with fail
 refine (mAll_ok H.out HS.out hL x j e HJ.out HE.out hn).mono ?_
 rintro r w2 ⟨v,rfl,ho,hb⟩
 obtain ⟨A,c,rfl,hc,_,hr⟩:=own_form ho
 have HB2:=Lib.hid (HAL.out.trans (hb.mono (by have:=HAL.out.size;omega)))
 have HBK2:=Lib.hid (HBK.out.below hb HBK.out.lt)
 have HR:=Lib.hid hr
 generalize hrs:regsOf e=rs at*
 have HRS:=Lib.hid hrs
 have f2:=HBK2.out.frozen
 have z2:=HBK2.out.lt
 have q0:=HBK2.out.cell 0
 have q1:=HBK2.out.cell 1
 have q2:=HBK2.out.cell 2
 have q3:=HBK2.out.cell 3
 have q4:=HBK2.out.cell 4
 simp at q0 q1 q2 q3 q4
 clear ho hb hr hrs
 match rs,hrn,HR,HRS with
 | [],_,_,HRS=>
  go_wp2
  refine bodyPost_ret (v:= .tuple #[noReg.valO, .bool false]) (by simp [results,Tryz.results12,go_sem,noReg,q0,q1,q2,q3,q4]) rfl ⟨by rw [HRS.out];rfl, ?_⟩
  rw [hgx]
  repeat (first |exact HB2.out |refine Below.setCell ?_ (by simp) _)
 | [y],_,HR,HRS=>
  obtain ⟨bb,oo,rfl,hbb,p0,p1,p2,p3,p4⟩:=reg_at (k:=0) HR.out rfl
  simp only [Nat.zero_mul,Nat.add_zero] at p0 p1 p2 p3 p4
  go_wp2
  refine bodyPost_ret (v:= .tuple #[y.valO, .bool true]) (by simp [results,Tryz.results12,go_sem,q0,q1,q2,q3,q4]) rfl ⟨by rw [HRS.out];rfl, ?_⟩
  rw [hgx]
  repeat (first |exact HB2.out |refine Below.setCell ?_ (by simp) _)
 |y::z::t,_,_,HRS=>
  have n1: ¬((y::z::t).length:Int)=1:=by simp;omega
  have n2:(((y::z::t).length:Int)==1)=false:=by simpa using n1
  have HY:=Lib.hid HRS.out
  clear HRS
  generalize (y::z::t).length=nn at*
  go_wp2
  refine bodyPost_ret (v:= .tuple #[noReg.valO, .bool false]) (by simp [results,Tryz.results12,go_sem,noReg,q0,q1,q2,q3,q4]) rfl ⟨by rw [HY.out];rfl, ?_⟩
  rw [hgx]
  repeat (first |exact HB2.out |refine Below.setCell ?_ (by simp) _)
end Go.Proofs.YtdmgpdanlfmadaaGreat
namespace Go.Proofs.YtdmgpdanlfmadaaGreat
open Go.RowKit Go.Shelf
attribute [local go_sem] ext_cell
theorem numAdd_new (a b v:Int) (ok:Bool) (W0 V:World) (bl:Nat) (t:TypeId) (hV:V=(W0.alloc (.cells #[.int .u64 a, .int .u64 b] t))) (hbl:bl=W0.heap.size) (ha:0≤a) (hb:0≤b) (ha2:a≤18446744073709551615) (hb2:b≤18446744073709551615) (hv:Hid ((a+b≤18446744073709551615∧v=a+b∧ok=true)∨(18446744073709551615 <a+b∧v=0∧ok=false))):
  Calls Tryz.prog 73 #[.slice (some ⟨bl,0,none⟩) 2 2] V fun e w'=>e= .returned (.tuple #[.int .u64 v, .bool ok])∧w'=V:=by
 subst hV hbl
 have h0:(W0.alloc (.cells #[.int .u64 a, .int .u64 b] t)).cell? ⟨W0.heap.size,0,none⟩=some (.int .u64 a):=by simp
 have h1:(W0.alloc (.cells #[.int .u64 a, .int .u64 b] t)).cell? ⟨W0.heap.size,1,none⟩=some (.int .u64 b):=by simp
 rcases hv.out with ⟨h,rfl,rfl⟩ |⟨h,rfl,rfl⟩
 ·exact numAdd_fit a b _ _ ha hb h h0 h1
 ·exact numAdd_over a b _ _ ha hb ha2 hb2 (by omega) h0 h1
set_option maxRecDepth 100000 in
set_option maxHeartbeats 4000000 in
theorem numAlign_ok (x b:Int) (w:World) (hx:0≤x) (hx2:x≤18446744073709551615) (hb:0≤b) (hb2:b≤18446744073709551615) (v:Int) (ok:Bool) (hv:alignV x b=(v,ok)):
  Calls Tryz.prog 29 #[.int .u64 x, .int .u64 b] w fun e w'=>e= .returned (.tuple #[.int .u64 v, .bool ok])∧Below w.heap.size w w':=by
 unfold alignV at hv
 by_cases h0:b=0
 ·subst h0
  rw [if_pos rfl] at hv
  injection hv with e1 e2
  subst e1 e2
  go_enter Tryz.func29,Tryz.ntmps29
  go_wp2
  go_ret2
  exact ⟨rfl,Below.refl _ _⟩
 ·rw [if_neg h0] at hv
  have hm0:=Int.emod_nonneg x h0
  have hm1:=Int.emod_lt_of_pos x (show (0:Int) <b by omega)
  have ht:x.tmod b=x%b:=Int.tmod_eq_emod_of_nonneg hx
  obtain ⟨m,hm⟩: ∃m,x%b=m:=⟨_,rfl⟩
  rw [hm] at hv hm0 hm1 ht
  have hw:IntKind.u64.wrap m=m:=by rw [IntKind.wrap_u64];omega
  by_cases h1:m=0
  ·rw [if_pos h1] at hv
   injection hv with e1 e2
   subst e1 e2 h1
   go_enter Tryz.func29,Tryz.ntmps29
   go_wp2
   go_ret2
   exact ⟨rfl,Below.refl _ _⟩
  ·rw [if_neg h1] at hv
   have hm2:0 <m:=by omega
   have hw2:IntKind.u64.wrap (b -m)=b -m:=by rw [IntKind.wrap_u64];omega
   have HV:=Lib.hid (show ((x+(b -m)≤18446744073709551615∧v=x+(b -m)∧ok=true)∨(18446744073709551615 <x+(b -m)∧v=0∧ok=false)) from by
    by_cases h2:x+(b -m)≤topA
    ·rw [if_pos h2] at hv
     injection hv with e1 e2
     exact .inl ⟨h2,e1.symm,e2.symm⟩
    ·rw [if_neg h2] at hv
     injection hv with e1 e2
     exact .inr ⟨by unfold topA at h2;omega,e1.symm,e2.symm⟩)
   have b0:0≤b -m:=by omega
   have b1:b -m≤18446744073709551615:=by omega
   clear hv
   go_enter Tryz.func29,Tryz.ntmps29
   go_wp2_with fail
   refine (numAdd_new x (b -m) v ok w _ _ _ rfl (by simp) hx b0 hx2 b1 HV).mono ?_
   rintro e w2 ⟨rfl,rfl⟩
   go_wp2
   go_ret2
   exact ⟨rfl,below_one _ _⟩
theorem freeFrom_at {segs:List Seg} {size al:Int} {k:Nat} {s:Seg} (h:segs[k]? =some s):freeFrom segs size al k (segs.drop k)=if fitB s.lo (endSeg segs k) s.rs.isEmpty size al then ((alignV s.lo al).1,true) else freeFrom segs size al (k+1) (segs.drop (k+1)):=by
 rw [drop_cons h]
 rfl
theorem freeFrom_end {segs:List Seg} {size al:Int} {k:Nat} (h:segs.length≤k):freeFrom segs size al k (segs.drop k)=(0,false):=by
 rw [List.drop_eq_nil_of_le h]
 rfl
set_option maxRecDepth 100000 in
set_option maxHeartbeats 8000000 in
theorem mFree_ok {W:World} {lo mb:Nat} {L:List SE} {l:List Reg} (h:MapO W lo mb L) (hs:SegsOk l (SE.seg L)) (hL:L.length≤4194304) (size al:Int) (h0:0≤size) (h1:size≤18446744073709551615) (a0:0≤al) (a1:al≤18446744073709551615) (v:Int) (ok:Bool) (hv:freeV (SE.seg L) size al=(v,ok)):
  Calls Tryz.prog 8 #[.pointer (some ⟨mb,0,none⟩), .int .u64 size, .int .u64 al] W fun e w'=>e= .returned (.tuple #[.int .u64 v, .bool ok])∧Below W.heap.size W w':=by
 unfold freeV at hv
 by_cases hz:size=0
 ·rw [if_pos hz] at hv
  injection hv with e1 e2
  subst e1 e2 hz
  clear h hs
  go_enter Tryz.func8,Tryz.ntmps8
  go_wp2
  go_ret2
  exact ⟨rfl,Below.refl _ _⟩
 ·rw [if_neg hz] at hv
  have H:=Lib.hid h
  have HS:=Lib.hid hs
  have HV:=Lib.hid (show freeFrom (SE.seg L) size al 0 ((SE.seg L).drop 0)=(v,ok) from hv)
  obtain ⟨A,c,c0,hc,hr,hmz⟩:=h.form
  have HR:=Lib.hid hr
  have hw1:IntKind.u64.wrap (size -1)=size -1:=by rw [IntKind.wrap_u64];omega
  have hz2:(size==0)=false:=by simpa using hz
  clear h hs hv hr hc
  go_enter Tryz.func8,Tryz.ntmps8
  go_wp2
  go_loopw [24] (fun i wr=> ∃k:Nat,k≤L.length∧i= .int .i64 k∧Hid (freeFrom (SE.seg L) size al k ((SE.seg L).drop k)=(v,ok))∧Hid (Below W.heap.size W wr)) (fun i _=>L.length -(intOf i).toNat)
  case atStart=>exact ⟨0,Nat.zero_le _,rfl,HV,Lib.hid (Below.refl _ _)⟩
  case round=>
   obtain ⟨k,hk,rfl,HF,HB⟩:=hrel
   by_cases hlt:k <L.length
   ·obtain ⟨e,he⟩:=get_lt hlt
    have hse:(SE.seg L)[k]? =some e.s:=by rw [List.getElem?_map,he];rfl
    have HFA:=Lib.hid (HF.out.symm.trans (freeFrom_at hse))
    have hlo0:0≤e.s.lo:=by
     have h3:=HS.out.lo_le (i:=0) (j:=k) (by omega) (by simpa using hlt)
     have hz0:=HS.out.zero
     rw [List.getElem?_map] at hz0
     obtain ⟨s0,hs0,hs1⟩:=Option.map_eq_some_iff.1 hz0
     rw [loAt_at hs0,loAt_at hse] at h3
     omega
    have hlo1:e.s.lo≤18446744073709551615:=HS.out.top e.s (List.mem_of_getElem? hse)
    have hend:=endSeg_top HS.out hse
    obtain ⟨hi,hhi⟩: ∃hi,endSeg (SE.seg L) k=hi:=⟨_,rfl⟩
    have HHI:=Lib.hid hhi
    obtain ⟨av,aok,hav⟩: ∃av aok,alignV e.s.lo al=(av,aok):=⟨_,_,rfl⟩
    have HAV:=Lib.hid hav
    have HAG:=Lib.hid (show aok=true→e.s.lo≤av from fun h=>by have:=align_ge (x:=e.s.lo) a0 (by rw [hav];exact h);rwa [hav] at this)
    rw [hhi] at hend
    have hh2:hi≤18446744073709551615:=hend.2
    have hh1:=hend.1
    obtain ⟨b,o,rfl,hb,g0,g1⟩:=se_at (HR.out.up HB.out) he
    have k0:(0:Int)≤(k:Int):=by omega
    have k1:(k:Int) <(L.length:Int):=by omega
    have hal:=below_one wr (.cells #[.int .u64 e.s.lo, .slice e.A e.s.rs.length e.c] 59)
    have bk:=Blk.new wr 59 #[.int .u64 e.s.lo, .slice e.A e.s.rs.length e.c]
    have HB1:=Lib.hid (Below.then_ HB.out hal)
    clear he hse hend hhi hav hal
    go_upto_region 6 with (fail)
    generalize World.alloc wr _=W3 at bk HB1 ⊢
    have HBK:=Lib.hid bk
    have q0:=bk.cell 0
    have qz:=bk.lt
    simp at q0
    generalize hgx:wr.heap.size=gx at*
    clear bk g0 g1 hb
    go_wp2_with fail
    refine (numAlign_ok e.s.lo al W3 hlo0 hlo1 a0 a1 av aok HAV.out).mono ?_
    rintro r w4 ⟨rfl,hb4⟩
    have HB4:=Lib.hid (Below.then_ HB1.out hb4)
    have HBK4:=Lib.hid (HBK.out.below hb4 HBK.out.lt)
    clear q0 qz hb4
    go_wp2_with fail
    refine (mEnd_ok (H.out.up HB4.out) HS.out hL k hlt hi HHI.out).mono ?_
    rintro r w5 ⟨rfl,hb5⟩
    have HB5:=Lib.hid (Below.then_ HB4.out hb5)
    have HBK5:=Lib.hid (HBK4.out.below hb5 HBK4.out.lt)
    have q1:=HBK5.out.cell 1
    have qz:=HBK5.out.lt
    simp at q1
    clear hb5
    have HFB:=Lib.hid (show fitB e.s.lo hi e.s.rs.isEmpty size al=(aok&&e.s.rs.isEmpty&&decide (av≤hi)&&decide (size -1≤hi -av)) by unfold fitB;rw [HAV.out])
    by_cases hfit:aok=true∧e.s.rs.length=0∧av≤hi∧size -1≤hi -av
    ·obtain ⟨rfl,f1,f2,f3⟩:=hfit
     have HRV:=Lib.hid (show v=av∧ok=true from by
      have h5:=HFA.out
      rw [HHI.out,HFB.out,show e.s.rs.isEmpty=true by rw [List.isEmpty_iff_length_eq_zero];exact f1,show decide (av≤hi)=true from decide_eq_true f2,show decide (size -1≤hi -av)=true from decide_eq_true f3,HAV.out] at h5
      simp only [Bool.and_self,if_true] at h5
      injection h5 with h6 h7
      exact ⟨h6,h7⟩)
     have hge:=HAG.out rfl
     have hw2:IntKind.u64.wrap (hi -av)=hi -av:=by rw [IntKind.wrap_u64];omega
     rw [f1] at q1
     go_wp2
     go_ret2
     exact ⟨by rw [HRV.out.1,HRV.out.2];rfl,HB5.out⟩
    ·have HF2:=Lib.hid (show freeFrom (SE.seg L) size al (k+1) ((SE.seg L).drop (k+1))=(v,ok) from by
      have h5:=HFA.out
      rw [HHI.out,HFB.out,if_neg] at h5
      ·exact h5.symm
      ·intro h6
       simp only [Bool.and_eq_true,decide_eq_true_eq,List.isEmpty_iff_length_eq_zero] at h6
       exact hfit ⟨h6.1.1.1,h6.1.1.2,h6.1.2,h6.2⟩)
     cases aok
     ·clear hfit
      go_wp2
      go_roundw
      case rel=>exact ⟨k+1,by omega,by go_num,HF2,HB5⟩
      case measure=>simp [intOf];omega
     ·by_cases f1:e.s.rs.length=0
      ·rw [f1] at q1
       by_cases f2:av≤hi
       ·have f3: ¬size -1≤hi -av:=fun f3=>hfit ⟨rfl,f1,f2,f3⟩
        have f4:hi -av <size -1:=by omega
        have hge:=HAG.out rfl
        have hw2:IntKind.u64.wrap (hi -av)=hi -av:=by rw [IntKind.wrap_u64];omega
        clear hfit f3
        go_wp2
        go_roundw
        case rel=>exact ⟨k+1,by omega,by go_num,HF2,HB5⟩
        case measure=>simp [intOf];omega
       ·have f4:hi <av:=by omega
        clear hfit f2
        go_wp2
        go_roundw
        case rel=>exact ⟨k+1,by omega,by go_num,HF2,HB5⟩
        case measure=>simp [intOf];omega
      ·have f4: ¬(e.s.rs.length:Int)=0:=by omega
       have f5:((e.s.rs.length:Int)==0)=false:=by simpa using f4
       clear hfit
       generalize e.s.rs.length=nn at*
       go_wp2
       go_roundw
       case rel=>exact ⟨k+1,by omega,by go_num,HF2,HB5⟩
       case measure=>simp [intOf];omega
   ·obtain rfl:k=L.length:=by omega
    have HE:=Lib.hid (show v=0∧ok=false from by
     have h5:=HF.out.symm.trans (freeFrom_end (by simp))
     injection h5 with h6 h7
     exact ⟨h6,h7⟩)
    go_wp2
    go_ret2
    exact ⟨by rw [HE.out.1,HE.out.2];rfl,HB.out⟩
end Go.Proofs.YtdmgpdanlfmadaaGreat
namespace Go.Proofs.YtdmgpdanlfmadaaGreat
open Go.RowKit
def mapL (l:List Reg):List Seg:=(segsL l).map fun b=>⟨b,atK l b⟩
theorem SegsOk.eq_ {l:List Reg} {segs:List Seg} (h:SegsOk l segs) (hl:okR l):segs=mapL l:=by
 unfold mapL
 rw [←h.los hl,List.map_map]
 refine Eq.symm ((List.map_congr_left fun s hs=> ?_).trans (List.map_id _))
 obtain ⟨j,hj⟩:=List.mem_iff_getElem?.1 hs
 have:=h.same_seg hj (x:=s.lo) (Int.le_refl _) (endSeg_top h hj).1 (h.top s hs)
 show (⟨s.lo,atK l s.lo⟩:Seg)=s
 rw [←this]
structure MapC (W:World) (lo mb:Nat) (l:List Reg):Prop where
 ex: ∃L,MapO W lo mb L∧SegsOk l (SE.seg L)
 ok:okR l
 len:l.length≤1048576
section
variable {W V:World} {lo mb:Nat} {l:List Reg}
theorem MapC.up (h:MapC W lo mb l) (hb:Below W.heap.size W V):MapC V lo mb l:=by
 obtain ⟨L,h1,h2⟩:=h.ex
 exact ⟨⟨L,h1.up hb,h2⟩,h.ok,h.len⟩
theorem MapC.at_ (h:MapC W lo mb l) {x:Int} (h0:0≤x) (h1:x≤18446744073709551615): ∃L j e,MapO W lo mb L∧SegsOk l (SE.seg L)∧L.length≤4194304∧cntLo (SE.seg L) x=j+1∧L[j]? =some e∧e.s.lo=(refSeg (segsL l) x).1∧endSeg (SE.seg L) j=(refSeg (segsL l) x).2∧regsOf e=l.filter (fun r=>covR r x)∧e.s.rs.length≤4194304:=by
 obtain ⟨L,hm,hs⟩:=h.ex
 have hlen:=hs.len
 rw [List.length_map] at hlen
 obtain ⟨j,s,hj,hsj,h2,h3,h4⟩:=hs.find h0 h1
 have hsj2:=hsj
 rw [List.getElem?_map] at hsj
 obtain ⟨e,he,rfl⟩:=Option.map_eq_some_iff.1 hsj
 have hr:=hs.refSeg h.ok hsj2 h2 h3
 have hll:=h.len
 refine ⟨L,j,e,hm,hs,by omega,hj,he,by rw [hr],by rw [hr], ?_, ?_⟩
 ·unfold regsOf
  rw [h4]
  exact atK_regs l x
 ·rw [h4]
  have h5:=congrArg List.length (atK_regs l x)
  rw [List.length_map] at h5
  have:=List.length_filter_le (fun r=>covR r x) l
  omega
theorem cLen_ok (h:MapC W lo mb l) (n:Nat) (hn:Hid ((segsL l).length=n)):Calls Tryz.prog 16 #[.pointer (some ⟨mb,0,none⟩)] W fun e w'=>e= .returned (.int .i64 n)∧Below W.heap.size W w':=by
 obtain ⟨L,h1,h2⟩:=h.ex
 have e1:L.length=n:=by
  have:=congrArg List.length (h2.los h.ok)
  rw [List.length_map,List.length_map] at this
  rw [this];exact hn.out
 rw [←e1]
 exact mLen_ok h1
theorem cSegment_ok (h:MapC W lo mb l) (x:Int) (h0:0≤x) (h1:x≤18446744073709551615) (a b:Int) (hv:Hid (refSeg (segsL l) x=(a,b))):Calls Tryz.prog 13 #[.pointer (some ⟨mb,0,none⟩), .int .u64 x] W fun r w'=>r= .returned (.tuple #[.int .u64 a, .int .u64 b])∧Below W.heap.size W w':=by
 obtain ⟨L,j,e,hm,hs,hL,hj,he,e1,e2,_,_⟩:=h.at_ h0 h1
 have:=mSegment_ok hm hs hL x j e hj he b (by rw [e2,hv.out])
 rwa [e1,hv.out] at this
theorem cAll_ok (h:MapC W lo mb l) (x:Int) (h0:0≤x) (h1:x≤18446744073709551615) (R:List Reg) (hv:Hid (l.filter (fun r=>covR r x)=R)):Calls Tryz.prog 11 #[.pointer (some ⟨mb,0,none⟩), .int .u64 x] W fun r w'=> ∃v,r= .returned v∧w'.ownsRow W.heap.size 41 5 v R.length (R.flatMap Reg.cells)∧Below W.heap.size W w':=by
 obtain ⟨L,j,e,hm,hs,hL,hj,he,_,_,e3,e4⟩:=h.at_ h0 h1
 have:=mAll_ok hm hs hL x j e hj he e4
 rwa [e3,hv.out] at this
theorem cOwner_ok (h:MapC W lo mb l) (x:Int) (h0:0≤x) (h1:x≤18446744073709551615) (R:Reg) (b:Bool) (hv:Hid (onlyR (l.filter (fun r=>covR r x))=(R,b))):Calls Tryz.prog 12 #[.pointer (some ⟨mb,0,none⟩), .int .u64 x] W fun r w'=>r= .returned (.tuple #[R.valO, .bool b])∧Below W.heap.size W w':=by
 obtain ⟨L,j,e,hm,hs,hL,hj,he,_,_,e3,e4⟩:=h.at_ h0 h1
 have:=mOwner_ok hm hs hL x j e hj he e4
 rwa [e3,hv.out] at this
theorem cFree_ok (h:MapC W lo mb l) (size al:Int) (h0:0≤size) (h1:size≤18446744073709551615) (a0:0≤al) (a1:al≤18446744073709551615) (v:Int) (ok:Bool) (hv:Hid (freeV (mapL l) size al=(v,ok))):Calls Tryz.prog 8 #[.pointer (some ⟨mb,0,none⟩), .int .u64 size, .int .u64 al] W fun e w'=>e= .returned (.tuple #[.int .u64 v, .bool ok])∧Below W.heap.size W w':=by
 obtain ⟨L,h2,h3⟩:=h.ex
 have hlen:=h3.len
 rw [List.length_map] at hlen
 have hll:=h.len
 exact mFree_ok h2 h3 (by omega) size al h0 h1 a0 a1 v ok (by rw [h3.eq_ h.ok];exact hv.out)
end
theorem cNew_ok (c:Cfg) (A1 A2 A3 A4 A5:Option Addr) (c1 c2 c3 c4 c5:Nat) (w:World) (hR:CfgR w w.heap.size c A1 A2 A3 A4 A5 c1 c2 c3 c4 c5) (hs:c.small) (hok:c.ok) (v:Bool) (hv:Hid (rightM c=v)):Calls Tryz.prog 7 #[cfgV c.frame A1 A2 A3 A4 A5 c.parts.length c.wins.length c.regs.length c.ports.length c.chans.length c1 c2 c3 c4 c5] w fun e w'=>Below w.heap.size w w'∧((v=false∧e= .returned (.pointer none))∨(v=true∧ ∃mb,e= .returned (.pointer (some ⟨mb,0,none⟩))∧MapC w' w.heap.size mb (normK keyReg c.regs))):=by
 refine (newO_ok c A1 A2 A3 A4 A5 c1 c2 c3 c4 c5 w hR hs hok v hv.out).mono fun e w' ⟨hb,h⟩=>⟨hb, ?_⟩
 rcases h with h |⟨h1,mb,L,h2,h3,h4⟩
 ·exact .inl h
 ·refine .inr ⟨h1,mb,h2,⟨L,h3,h4⟩,fun r hr=> ?_, ?_⟩
  ·exact rightM_okR hok (hv.out.trans h1) r ((normK_perm (key:=keyReg) c.regs).mem_iff.1 hr)
  ·rw [(normK_perm (key:=keyReg) c.regs).length_eq]
   exact hs.bd.r
end Go.Proofs.YtdmgpdanlfmadaaGreat
namespace Go.Proofs.YtdmgpdanlfmadaaGreat
theorem MapC.segs {W:World} {lo mb:Nat} {l:List Reg} (h:MapC W lo mb l):SegsOk l (mapL l):=by
 obtain ⟨L,_,h2⟩:=h.ex
 rwa [h2.eq_ h.ok] at h2
theorem mapL_len (l:List Reg):(mapL l).length=(segsL l).length:=by unfold mapL;rw [List.length_map]
section
variable {l:List Reg}
theorem seg_first (h:SegsOk l (mapL l)):0 <(segsL l).length∧loAt (mapL l) 0=0:=by
 have hz:=h.zero
 rw [List.getElem?_map] at hz
 obtain ⟨s,hs,h0⟩:=Option.map_eq_some_iff.1 hz
 have:=(List.getElem?_eq_some_iff.1 hs).1
 rw [mapL_len] at this
 exact ⟨this,(loAt_at hs).trans h0⟩
theorem seg_get {k:Nat} (h:k <(segsL l).length): ∃s,(mapL l)[k]? =some s∧loAt (mapL l) k=s.lo:=by
 have hk:k <(mapL l).length:=by rw [mapL_len];exact h
 exact ⟨_,List.getElem?_eq_getElem hk,loAt_at (List.getElem?_eq_getElem hk)⟩
theorem seg_self (h:SegsOk l (mapL l)) (hl:okR l) {k:Nat} (hk:k <(segsL l).length):refSeg (segsL l) (loAt (mapL l) k)=(loAt (mapL l) k,endSeg (mapL l) k)∧loAt (mapL l) k≤endSeg (mapL l) k∧endSeg (mapL l) k≤18446744073709551615∧0≤loAt (mapL l) k:=by
 obtain ⟨s,hs,he⟩:=seg_get hk
 have h0:=h.lo_le (i:=0) (j:=k) (by omega) (by rw [mapL_len];exact hk)
 rw [(seg_first h).2] at h0
 have ht:=endSeg_top h hs
 have he2:=he
 rw [he] at h0 ⊢
 refine ⟨h.refSeg hl hs (Int.le_refl _) fun b hb=> ?_,ht.1,ht.2,h0⟩
 rw [List.getElem?_map] at hb
 obtain ⟨t,ht2,rfl⟩:=Option.map_eq_some_iff.1 hb
 have h1:=h.lo_lt (i:=k) (j:=k+1) (by omega) (List.getElem?_eq_some_iff.1 ht2).1
 rwa [he2,loAt_at ht2] at h1
theorem seg_last (h:SegsOk l (mapL l)) {k:Nat} (hk:k <(segsL l).length):(endSeg (mapL l) k=18446744073709551615∧k+1=(segsL l).length)∨(endSeg (mapL l) k≠18446744073709551615∧k+1 <(segsL l).length∧endSeg (mapL l) k+1=loAt (mapL l) (k+1)):=by
 by_cases hk1:k+1 <(segsL l).length
 ·obtain ⟨t,ht,he⟩:=seg_get hk1
  have h1:=h.top t (List.mem_of_getElem? ht)
  unfold endSeg
  rw [ht,he]
  unfold topA at h1
  exact .inr ⟨by show t.lo -1≠_;omega,hk1,by show t.lo -1+1=_;omega⟩
 ·refine .inl ⟨?_,by omega⟩
  unfold endSeg
  rw [List.getElem?_eq_none (by rw [mapL_len];omega)]
  rfl
theorem seg_differ (h:SegsOk l (mapL l)) (hl:okR l) {k:Nat} (hk:k <(segsL l).length) (h0:0 <k):(l.filter fun r=>covR r (loAt (mapL l) k))≠(l.filter fun r=>covR r (loAt (mapL l) k -1)):=by
 obtain ⟨j,rfl⟩: ∃j,k=j+1:=⟨k -1,by omega⟩
 obtain ⟨s,hs,he⟩:=seg_get hk
 rw [he]
 exact h.differ hl hs
end
end Go.Proofs.YtdmgpdanlfmadaaGreat
