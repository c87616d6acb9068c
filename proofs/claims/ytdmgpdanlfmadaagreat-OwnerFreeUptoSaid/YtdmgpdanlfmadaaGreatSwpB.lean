/-
  What Pairs of package sweep returns, walked: the pairs of spans that overlap, in some order first.
-/
import Derived.Test.YtdmgpdanlfmadaaGreatSwpA
import Derived.BigRegion
import Derived.Deep.RegionHeld
import Derived.Test.YtdmgpdanlfmadaaGreatCore
import Derived.Test.YtdmgpdanlfmadaaGreatLayQ
namespace Go.Proofs.YtdmgpdanlfmadaaGreat
open Go.RowKit Go.Shelf
structure Pr where
 i:Int
 j:Int
def Pr.cells (x:Pr):List Value:= [.int .i64 x.i, .int .i64 x.j]
theorem onePr (l:List Pr): ∀u ∈ l.flatMap Pr.cells,u.oneCell'=true:=by
 intro u hu
 obtain ⟨x,_,hx⟩:=List.mem_flatMap.1 hu
 simp [Pr.cells] at hx
 rcases hx with rfl |rfl<;>rfl
theorem pr_at {w:World} {B:Nat} {A:Option Addr} {l:List Pr} {k:Nat} {x:Pr} (h:Rd w B 2 A l.length (l.flatMap Pr.cells)) (hk:l[k]? =some x):
  ∃b o,A=some ⟨b,o,none⟩∧b <B∧w.cell? ⟨b,o+k*2,none⟩=some (.int .i64 x.i)∧w.cell? ⟨b,o+k*2+1,none⟩=some (.int .i64 x.j):=by
 obtain ⟨b,o,e,hb,hc⟩:=Rd.get (f:=Pr.cells) (sz:=2) (fun _=>rfl) h hk
 exact ⟨b,o,e,hb,hc 0 _ rfl,hc 1 _ rfl⟩
theorem infoPr:(Tryz.prog.info? 186).map (fun i=>(i.zero,i.size,i.bytes))=some (some (.agg #[.int .i64 0, .int .i64 0]),2,16):=by kernel_rfl
def prOf (x y:Itm):Pr:=⟨min x.idx y.idx,max x.idx y.idx⟩
def PairsOf (d:List Itm) (L:List Pr):Prop:= ∀p,p ∈ L↔ ∃x ∈ d, ∃y ∈ d,x.idx≠y.idx∧x.lo≤lastOf y∧y.lo≤lastOf x∧p=prOf x y
theorem prOf_comm (x y:Itm):prOf x y=prOf y x:=by unfold prOf;rw [Int.min_comm,Int.max_comm]
theorem PairsOf.next {d op:List Itm} {x:Itm} {L:List Pr} (h:PairsOf d L) (hx:okItm x) (hle: ∀y ∈ d,y.lo≤x.lo) (hop:op.Perm (d.filter fun y=>decide (x.lo≤lastOf y))) (hne: ∀y ∈ d,x.idx≠y.idx):PairsOf (d++ [x]) (L++op.map (prOf x)):=by
 have hlast:x.lo≤lastOf x:=by have:=hx.2.1;unfold lastOf;omega
 intro p
 rw [List.mem_append,h p,List.mem_map]
 constructor
 ·rintro (⟨a,ha,b,hb,r⟩ |⟨y,hy,rfl⟩)
  ·exact ⟨a,by simp [ha],b,by simp [hb],r⟩
  ·have hy2:=List.mem_filter.1 (hop.mem_iff.1 hy)
   have h3:x.lo≤lastOf y:=by simpa using hy2.2
   exact ⟨x,by simp,y,by simp [hy2.1],hne y hy2.1,h3,Int.le_trans (hle y hy2.1) hlast,rfl⟩
 ·rintro ⟨a,ha,b,hb,hab,h1,h2,rfl⟩
  have aux: ∀z ∈ d,x.lo≤lastOf z→z ∈ op:=fun z hz hl=>hop.mem_iff.2 (List.mem_filter.2 ⟨hz,by simpa using hl⟩)
  rcases List.mem_append.1 ha with ha |ha<;>rcases List.mem_append.1 hb with hb |hb
  ·exact .inl ⟨a,ha,b,hb,hab,h1,h2,rfl⟩
  ·have e:b=x:=by simpa using hb
   rw [e] at h2 ⊢
   exact .inr ⟨a,aux a ha h2,prOf_comm _ _⟩
  ·have e:a=x:=by simpa using ha
   rw [e] at h1 ⊢
   exact .inr ⟨b,aux b hb h1,rfl⟩
  ·have e1:a=x:=by simpa using ha
   have e2:b=x:=by simpa using hb
   rw [e1,e2] at hab
   exact absurd rfl hab
theorem idx_nodup (l:List Spn):((itemsOf l).map (·.idx)).Nodup:=by
 have e:(itemsOf l).map (·.idx)=(List.range l.length).map (fun k:Nat=>(k:Int)):=by
  apply List.ext_getElem?
  intro k
  rw [List.getElem?_map,List.getElem?_map]
  by_cases hk:k <l.length
  ·obtain ⟨s,hs⟩:=get_lt hk
   rw [itemsOf_at.2 ⟨s,hs,rfl⟩,List.getElem?_range hk];rfl
  ·rw [List.getElem?_eq_none (by rw [itemsOf_len];omega),List.getElem?_eq_none (by simp;omega)];rfl
 rw [e]
 exact List.Pairwise.map _ (fun a b h=>by omega) List.nodup_range
theorem idx_new {l:List Spn} {d r:List Itm} {x:Itm} (h:(d++x::r).Perm (itemsOf l)): ∀y ∈ d,x.idx≠y.idx:=by
 intro y hy e
 have hn:=((h.map (·.idx)).nodup_iff).2 (idx_nodup l)
 rw [List.map_append,List.map_cons,List.nodup_append] at hn
 exact hn.2.2 y.idx (List.mem_map.2 ⟨y,hy,rfl⟩) x.idx (by simp) e.symm
structure PSt (w0 W:World) (L:List Pr):Prop where
 bel:Below w0.heap.size w0 W
 box: ∃v,Blk W w0.heap.size 184 #[v]∧W.ownsRow (w0.heap.size+1) 186 2 v L.length (L.flatMap Pr.cells)
theorem PSt.up {w0 W V:World} {L:List Pr} (h:PSt w0 W L) (hb:Below W.heap.size W V):PSt w0 V L:=by
 obtain ⟨v,h1,h2⟩:=h.box
 exact ⟨Below.then_ h.bel hb,v,h1.below hb h1.lt,own_below h2 hb⟩
theorem PSt.st {w0 W V:World} {L:List Pr} (h:PSt w0 W L) (ho:OffQ (w0.heap.size+1) W V):PSt w0 V L:=by
 obtain ⟨v,h1,h2⟩:=h.box
 have hs:=h.bel.size
 refine ⟨⟨ho.os.trans h.bel.os,ho.tape.trans h.bel.tape,ho.output.trans h.bel.output,Nat.le_trans hs ho.size,fun k hk=>(ho.block k (by omega) (.inl (by omega))).trans (h.bel.block k hk)⟩,v,(ho.block _ h1.lt (.inl (by omega))).trans h1,h2.1, ?_⟩
 rcases h2.2 with h3 |⟨g,cap,cur,rfl,hb,hh,r⟩
 ·exact .inl h3
 ·refine .inr ⟨g,cap,cur,rfl,hb,(ho.block g (Array.getElem?_eq_some_iff.1 hh).1 (.inr ⟨fun cs fr e=> ?_,fun cs fr e=> ?_⟩)).trans hh,r⟩
  ·rw [hh] at e;injection e with e;injection e with _ e;exact absurd e (by decide)
  ·rw [hh] at e;injection e with e;injection e with _ e;exact absurd e (by decide)
theorem PSt.cells {w0 W:World} {L:List Pr} (h:PSt w0 W L): ∃A c,W.cell? ⟨w0.heap.size,0,none⟩=some (.slice A L.length c)∧W.frozen? ⟨w0.heap.size,0,none⟩=false∧w0.heap.size <W.heap.size∧W.ownsRow (w0.heap.size+1) 186 2 (.slice A L.length c) L.length (L.flatMap Pr.cells):=by
 obtain ⟨v,h1,h2⟩:=h.box
 obtain ⟨A,c,rfl,_⟩:=own_form h2
 refine ⟨A,c, ?_,h1.frozen 0,h1.lt,h2⟩
 have:=h1.cell 0
 simpa using this
theorem PSt.push {w0 W V:World} {L:List Pr} {v v':Value} {p:Pr} (h:PSt w0 W L) (hv:W.cell? ⟨w0.heap.size,0,none⟩=some v) (hown:V.ownsRow (w0.heap.size+1) 186 2 v' (L.length+1) (L.flatMap Pr.cells++p.cells)) (hg:W.grownBy V v.ownBlock):
  PSt w0 (V.setCell ⟨w0.heap.size,0,none⟩ v') (L++ [p])∧KeepQ W (V.setCell ⟨w0.heap.size,0,none⟩ v'):=by
 obtain ⟨u,h1,h2⟩:=h.box
 have hu:u=v:=by have:=h1.cell 0;rw [hv] at this;simpa using this.symm
 subst hu
 have ho:=Off.of_own h2 hg
 have hs:=h.bel.size
 have hb1:=h1.off ho (by decide)
 have hlt:=h1.lt
 have hbel:Below w0.heap.size w0 V:=h.bel.trans ⟨ho.os,ho.tape,ho.output,ho.size,fun k hk=>hg.block k (by omega) (fun e=>by have:=(h2.lt k e.symm).1;omega)⟩
 refine ⟨⟨hbel.setCell (Nat.le_refl _) _,v',by have:=hb1.set_ 0 v';simpa using this, ?_⟩,⟨ho.os,ho.tape,ho.output,by simpa [World.setCell] using ho.size,fun k cs t fr hh ht=> ?_⟩⟩
 ·have:=own_set hown (p:=⟨w0.heap.size,0,none⟩) (by show w0.heap.size <_;omega) v'
  simpa [List.flatMap_append] using this
 ·have hk:k≠w0.heap.size:=by
   rintro rfl
   unfold Blk at h1
   rw [h1] at hh
   injection hh with hh
   injection hh with _ hh _
   subst hh
   rcases ht with e |e<;>exact absurd e (by decide)
  refine (Below.heap_setCell _ _ _ k hk).trans (ho.block k (Array.getElem?_eq_some_iff.1 hh).1 fun cs' fr' e=> ?_)
  rw [hh] at e
  injection e with e
  injection e with _ e
  subst e
  rcases ht with e |e<;>exact absurd e (by decide)
theorem PSt.cellg {w0 W V:World} {L:List Pr} {v:Value} (h:PSt w0 W L) (hv:W.cell? ⟨w0.heap.size,0,none⟩=some v) (hg:W.grownBy V v.ownBlock):V.cell? ⟨w0.heap.size,0,none⟩=some v∧V.frozen? ⟨w0.heap.size,0,none⟩=false:=by
 obtain ⟨u,h1,h2⟩:=h.box
 have hu:u=v:=by have:=h1.cell 0;rw [hv] at this;simpa using this.symm
 subst hu
 have hb1:=h1.off (Off.of_own h2 hg) (by decide)
 exact ⟨by have:=hb1.cell 0;simpa using this,hb1.frozen 0⟩
theorem new_pr (w:World) (a b:Int) (t:TypeId):Rd (w.alloc (.cells #[.int .i64 a, .int .i64 b] t)) (w.heap.size+1) 2 (some ⟨w.heap.size,0,none⟩) 1 [.int .i64 a, .int .i64 b]:=by
 refine ⟨rfl,fun _=>⟨_,_,rfl,Nat.lt_succ_self _,fun j u hu=> ?_⟩⟩
 have:=World.news_of_block (heap_alloc_new w (.cells #[.int .i64 a, .int .i64 b] t)) j u (by simpa using hu)
 rwa [addr_add] at this
def PJ (w0:World) (d:List Itm) (W:World):Prop:= ∃L,PSt w0 W L∧PairsOf d L∧L.length≤d.length*1048576
set_option maxRecDepth 100000 in
set_option maxHeartbeats 4000000 in
theorem pairsFn_ok {w0 W:World} {op:List Itm} {x:Itm} {A:Option Addr} {c:Nat} {L:List Pr} (hop:op.length≤1048576) (hL:L.length≤1099511627776) (hP:PSt w0 W L) (hne: ∀y ∈ op,x.idx≠y.idx) (hR:W.ownsRow 0 245 3 (.slice A op.length c) op.length (op.flatMap Itm.cells)):
  Calls Tryz.prog 143 #[x.val, .slice A op.length c, .pointer (some ⟨w0.heap.size,0,none⟩)] W fun e w'=>e= .returned (.tuple #[])∧PSt w0 w' (L++op.map (prOf x))∧KeepQ W w':=by
 obtain ⟨ip,hi,hz0,hz1,hz2⟩:=info_parts infoPr
 have hbn:=below_one W (.cells #[.int .u64 x.lo, .int .u64 x.len, .int .i64 x.idx] 245)
 have bk:=Blk.new W 245 #[.int .u64 x.lo, .int .u64 x.len, .int .i64 x.idx]
 have HR:=Lib.hid hR
 have HP:=Lib.hid hP
 have HNE:=Lib.hid hne
 clear hR hP hne
 go_enter Tryz.func143,Tryz.ntmps143
 go_upto_region 1 with (fail)
 generalize hW1:World.alloc W _=W1 at hbn bk ⊢
 clear hW1
 have HR1:=Lib.hid (own_below HR.out hbn)
 have HP1:=Lib.hid (show PSt w0 W1 (L++(op.take 0).map (prOf x)) by simpa using HP.out.up hbn)
 have HB1:=Lib.hid bk
 have HK1:=Lib.hid (KeepQ.of_below hbn)
 clear hbn bk
 generalize W.heap.size=xb at HB1 ⊢
 go_wp2
 go_loopw [9] (fun i wr=> ∃k:Nat,k≤op.length∧i= .int .i64 k∧Hid (PSt w0 wr (L++(op.take k).map (prOf x)))∧Hid (KeepQ W1 wr)) (fun i _=>op.length -(intOf i).toNat)
 case atStart=>exact ⟨0,Nat.zero_le _,rfl,HP1,Lib.hid (KeepQ.of_below (Below.refl _ _))⟩
 case round=>
  obtain ⟨k,hk,rfl,HPk,HK⟩:=hrel
  by_cases hlt:k <op.length
  ·obtain ⟨y,hy⟩:=get_lt hlt
   have hrw:=own_keepq HR1.out HK.out
   obtain ⟨b,o,rfl,hb,p0,p1,p2⟩:=itm_at (own_slice hrw).2 hy
   have HBk:=Lib.hid (HB1.out.keepq HK.out)
   have b2:=HBk.out.cell 2
   simp at b2
   have HY:=Lib.hid hy
   have k0:(0:Int)≤(k:Int):=by omega
   have k1:(k:Int) <(op.length:Int):=by omega
   have hxl:=HBk.out.lt
   clear hrw hy
   go_upto_region 4 with (fail)
   have hbn:=below_one wr (.cells #[.int .u64 y.lo, .int .u64 y.len, .int .i64 y.idx] 245)
   have bk:=Blk.new wr 245 #[.int .u64 y.lo, .int .u64 y.len, .int .i64 y.idx]
   generalize hW2:World.alloc wr _=W2 at hbn bk ⊢
   clear hW2
   have HP2:=Lib.hid (HPk.out.up hbn)
   have HK2:=Lib.hid (HK.out.trans (KeepQ.of_below hbn))
   have c2:=bk.cell 2
   simp at c2
   have b2':=(HBk.out.below hbn hxl).cell 2
   simp at b2'
   have hll:(L++(op.take k).map (prOf x)).length≤1099512676352:=by simp;omega
   have HTK:=Lib.hid (show L++(op.take (k+1)).map (prOf x)=(L++(op.take k).map (prOf x))++ [prOf x y] by rw [take_next HY.out];simp)
   clear HPk
   generalize L++(op.take k).map (prOf x)=LL at*
   obtain ⟨vA,vc,v0,vf,vz,vo⟩:=HP2.out.cells
   have hbl:=bk.lt
   have HV0:=Lib.hid v0
   have HVO:=Lib.hid vo
   have HZ2:=Lib.hid HP2.out.bel.size
   have hxl2:xb <W2.heap.size:=Nat.lt_of_lt_of_le hxl hbn.size
   clear hbn bk p0 p1 p2 hb b2 hxl vo
   have hcmp:(∃m1 m2,prOf x y=⟨m1,m2⟩∧y.idx <x.idx∧m1=y.idx∧m2=x.idx)∨(∃m1 m2,prOf x y=⟨m1,m2⟩∧x.idx <y.idx∧m1=x.idx∧m2=y.idx):=by
    have:=HNE.out y (List.mem_of_getElem? HY.out)
    unfold prOf
    rcases Int.lt_or_le y.idx x.idx with h |h
    ·exact .inl ⟨y.idx,x.idx,by rw [Int.min_eq_right (by omega),Int.max_eq_left (by omega)],h,rfl,rfl⟩
    ·exact .inr ⟨x.idx,y.idx,by rw [Int.min_eq_left (by omega),Int.max_eq_right (by omega)],by omega,rfl,rfl⟩
   rcases hcmp with ⟨m1,m2,hpr,hlt1,rfl,rfl⟩ |⟨m1,m2,hpr,hlt1,rfl,rfl⟩
   ·have HPR:=Lib.hid hpr
    have hle1:y.idx≤x.idx:=by omega
    have hmn:min x.idx y.idx=y.idx:=Int.min_eq_right hle1
    have hmx:max x.idx y.idx=x.idx:=Int.max_eq_left hle1
    have hal:=below_one W2 (.cells #[.int .i64 y.idx, .int .i64 x.idx] 186)
    have HP3:=Lib.hid (HP2.out.up hal)
    have HV3:=Lib.hid ((hal.cell (p:=⟨w0.heap.size,0,none⟩) vz).trans HV0.out)
    have HK3:=Lib.hid (HK2.out.trans (KeepQ.of_below hal))
    clear hpr hal
    go_wp2_with (at_builtin;go_loud (refine wpList_append_rd _ rfl (.tmp 13) (.tmp 25) _ rfl (w0.heap.size+1) 186 ip (.agg #[.int .i64 0, .int .i64 0]) 2 16 Tryz.underlying184 hi hz0 hz1 hz2 rfl (by decide) _ _ _ rfl (own_below HVO.out (below_one W2 (.cells #[.int .i64 y.idx, .int .i64 x.idx] 186))) (W2.heap.size+1) (some ⟨W2.heap.size,0,none⟩) 1 1 [.int .i64 y.idx, .int .i64 x.idx] rfl (new_pr W2 _ _ _) (by intro u hu;simp at hu;rcases hu with rfl |rfl<;>rfl) (by unfold maxLen;omega) (by omega) (by simp;omega) ?_);intro v' w3 hown hg;obtain ⟨nA,nc,rfl,_⟩:=own_form hown;obtain ⟨cc,ff⟩:=HP3.out.cellg HV3.out hg)
    obtain ⟨k3,k4⟩:=HP3.out.push (p:=prOf x y) HV3.out (by rw [HPR.out];exact hown) hg
    have HP4:=Lib.hid k3
    have HK4:=Lib.hid (HK3.out.trans k4)
    clear hown hg cc ff k3 k4 v0 vf c2 b2' hmn hmx
    go_wp2
    go_roundw
    case rel=>exact ⟨k+1,by omega,by go_num,Lib.hid (by rw [HTK.out];exact HP4.out),HK4⟩
    case measure=>simp [intOf];omega
   ·have HPR:=Lib.hid hpr
    have hle1: ¬y.idx≤x.idx:=by omega
    have hmn:min x.idx y.idx=x.idx:=Int.min_eq_left (by omega)
    have hmx:max x.idx y.idx=y.idx:=Int.max_eq_right (by omega)
    have hal:=below_one W2 (.cells #[.int .i64 x.idx, .int .i64 y.idx] 186)
    have HP3:=Lib.hid (HP2.out.up hal)
    have HV3:=Lib.hid ((hal.cell (p:=⟨w0.heap.size,0,none⟩) vz).trans HV0.out)
    have HK3:=Lib.hid (HK2.out.trans (KeepQ.of_below hal))
    clear hpr hal
    go_wp2_with (at_builtin;go_loud (refine wpList_append_rd _ rfl (.tmp 13) (.tmp 25) _ rfl (w0.heap.size+1) 186 ip (.agg #[.int .i64 0, .int .i64 0]) 2 16 Tryz.underlying184 hi hz0 hz1 hz2 rfl (by decide) _ _ _ rfl (own_below HVO.out (below_one W2 (.cells #[.int .i64 x.idx, .int .i64 y.idx] 186))) (W2.heap.size+1) (some ⟨W2.heap.size,0,none⟩) 1 1 [.int .i64 x.idx, .int .i64 y.idx] rfl (new_pr W2 _ _ _) (by intro u hu;simp at hu;rcases hu with rfl |rfl<;>rfl) (by unfold maxLen;omega) (by omega) (by simp;omega) ?_);intro v' w3 hown hg;obtain ⟨nA,nc,rfl,_⟩:=own_form hown;obtain ⟨cc,ff⟩:=HP3.out.cellg HV3.out hg)
    obtain ⟨k3,k4⟩:=HP3.out.push (p:=prOf x y) HV3.out (by rw [HPR.out];exact hown) hg
    have HP4:=Lib.hid k3
    have HK4:=Lib.hid (HK3.out.trans k4)
    clear hown hg cc ff k3 k4 v0 vf c2 b2' hmn hmx
    go_wp2
    go_roundw
    case rel=>exact ⟨k+1,by omega,by go_num,Lib.hid (by rw [HTK.out];exact HP4.out),HK4⟩
    case measure=>simp [intOf];omega
  ·obtain rfl:k=op.length:=by omega
   go_wp2
   go_end0
   exact ⟨rfl,by have:=HPk.out;rwa [List.take_length] at this,HK1.out.trans HK.out⟩
end Go.Proofs.YtdmgpdanlfmadaaGreat
namespace Go.Proofs.YtdmgpdanlfmadaaGreat
open Go.RowKit Go.Shelf Go.Sort
instance:Inhabited Pr:=⟨⟨0,0⟩⟩
def orI (a b:Int):Int:=if a=0 then b else a
def prCmp (x y:Pr):Int:=orI (Lib.compareInt x.i y.i) (Lib.compareInt x.j y.j)
theorem prCmp_lt (x y:Pr):ltOf prCmp x y=decide (x.i <y.i∨(x.i=y.i∧x.j <y.j)):=by
 unfold ltOf prCmp orI Lib.compareInt
 by_cases h1:x.i <y.i
 ·simp [h1]
 ·by_cases h2:y.i <x.i
  ·simp [h1,h2,show ¬x.i=y.i by omega]
  ·have h3:x.i=y.i:=by omega
   by_cases h4:x.j <y.j
   ·simp [h3,h4]
   ·by_cases h5:y.j <x.j<;>simp [h3,h4,h5]
theorem prSWO:SWO (ltOf prCmp) where
 irrefl x:=by rw [prCmp_lt];simp
 trans x y z h1 h2:=by rw [prCmp_lt] at*;simp at*;omega
 ntrans x y z h1 h2:=by rw [prCmp_lt] at*;simp at*;omega
theorem cmpInt_ok (x y:Int) (w:World):Calls Tryz.prog 146 #[.int .i64 x, .int .i64 y] w fun e w'=>e= .returned (.int .i64 (Lib.compareInt x y))∧w'=w:=AnyG.cmp_Compare_int Tryz.layCmpInt x y w
set_option maxRecDepth 100000 in
set_option maxHeartbeats 1000000 in
theorem cmpOr_ok (a b:Int) (bl:Nat) (W:World) (h0:W.cell? ⟨bl,0,none⟩=some (.int .i64 a)) (h1:W.cell? ⟨bl,1,none⟩=some (.int .i64 b)):
  Calls Tryz.prog 117 #[.slice (some ⟨bl,0,none⟩) 2 2] W fun e w'=>e= .returned (.int .i64 (orI a b))∧w'=W:=by
 by_cases ha:a=0
 ·subst ha
  by_cases hb:b=0
  ·subst hb
   go_enter Tryz.func117,Tryz.ntmps117
   go_wp2
   go_loopw [8] (fun i wr=> ∃k:Nat,k≤2∧i= .int .i64 k∧wr=W) (fun i _=>2 -(intOf i).toNat)
   case atStart=>exact ⟨0,by omega,rfl,rfl⟩
   case round=>
    obtain ⟨k,hk,rfl,rfl⟩:=hrel
    rcases (show k=0∨k=1∨k=2 by omega) with rfl |rfl |rfl
    ·go_wp2
     go_roundw
     case rel=>exact ⟨1,by omega,by go_num,trivial⟩
     case measure=>simp [intOf]
    ·go_wp2
     go_roundw
     case rel=>exact ⟨2,by omega,by go_num,trivial⟩
     case measure=>simp [intOf]
    ·go_wp2
     go_ret
     exact ⟨rfl,rfl⟩
  ·go_enter Tryz.func117,Tryz.ntmps117
   go_wp2
   go_loopw [8] (fun i wr=> ∃k:Nat,k≤1∧i= .int .i64 k∧wr=W) (fun i _=>2 -(intOf i).toNat)
   case atStart=>exact ⟨0,by omega,rfl,rfl⟩
   case round=>
    obtain ⟨k,hk,rfl,rfl⟩:=hrel
    rcases (show k=0∨k=1 by omega) with rfl |rfl
    ·go_wp2
     go_roundw
     case rel=>exact ⟨1,by omega,by go_num,trivial⟩
     case measure=>simp [intOf]
    ·go_wp2
     go_ret
     exact ⟨rfl,rfl⟩
 ·go_enter Tryz.func117,Tryz.ntmps117
  go_wp2
  go_loopw [8] (fun i wr=>i= .int .i64 (0:Nat)∧wr=W) (fun i _=>2 -(intOf i).toNat)
  case atStart=>exact ⟨rfl,rfl⟩
  case round=>
   obtain ⟨rfl,rfl⟩:=hrel
   go_wp2
   go_ret
   exact ⟨by simp [orI,ha],rfl⟩
theorem cmpOr_new (a b:Int) (W0:World) (bl:Nat) (hbl:bl=W0.heap.size) (t:TypeId):
  Calls Tryz.prog 117 #[.slice (some ⟨bl,0,none⟩) 2 2] (W0.alloc (.cells #[.int .i64 a, .int .i64 b] t)).drew fun e w'=>e= .returned (.int .i64 (orI a b))∧w'=(W0.alloc (.cells #[.int .i64 a, .int .i64 b] t)).drew:=by
 subst hbl
 exact cmpOr_ok a b _ _ (by show (W0.alloc _).cell? _=_;simp) (by show (W0.alloc _).cell? _=_;simp)
set_option maxRecDepth 100000 in
set_option maxHeartbeats 2000000 in
theorem prClosure_ok (x y:Pr) (W:World):Calls Tryz.prog 145 #[.agg #[.int .i64 x.i, .int .i64 x.j], .agg #[.int .i64 y.i, .int .i64 y.j]] W fun e w'=>e= .returned (.int .i64 (prCmp x y))∧ ∃q os',w'=grow (W.drewN q) os':=by
 have hcmp:=cmpInt_ok
 unfold prCmp
 generalize Lib.compareInt=cI at hcmp ⊢
 go_enter Tryz.func145,Tryz.ntmps145
 go_upto_region 1 with (fail)
 have c0:((W.alloc (.cells #[.int .i64 x.i, .int .i64 x.j] 186)).alloc (.cells #[.int .i64 y.i, .int .i64 y.j] 186)).cell? ⟨W.heap.size,0,none⟩=some (.int .i64 x.i):=by simp
 have c1:((W.alloc (.cells #[.int .i64 x.i, .int .i64 x.j] 186)).alloc (.cells #[.int .i64 y.i, .int .i64 y.j] 186)).cell? ⟨W.heap.size,1,none⟩=some (.int .i64 x.j):=by simp
 have c2:((W.alloc (.cells #[.int .i64 x.i, .int .i64 x.j] 186)).alloc (.cells #[.int .i64 y.i, .int .i64 y.j] 186)).cell? ⟨W.heap.size+1,0,none⟩=some (.int .i64 y.i):=by simp
 have c3:((W.alloc (.cells #[.int .i64 x.i, .int .i64 x.j] 186)).alloc (.cells #[.int .i64 y.i, .int .i64 y.j] 186)).cell? ⟨W.heap.size+1,1,none⟩=some (.int .i64 y.j):=by simp
 have hsz:((W.alloc (.cells #[.int .i64 x.i, .int .i64 x.j] 186)).alloc (.cells #[.int .i64 y.i, .int .i64 y.j] 186)).heap.size=W.heap.size+2:=by simp
 have hgr:((W.alloc (.cells #[.int .i64 x.i, .int .i64 x.j] 186)).alloc (.cells #[.int .i64 y.i, .int .i64 y.j] 186))=grow (W.drewN 0) #[.cells #[.int .i64 x.i, .int .i64 x.j] 186, .cells #[.int .i64 y.i, .int .i64 y.j] 186]:=by
  rw [alloc_eq_grow,alloc_eq_grow,grow_grow];rfl
 have hb0:W.heap.size <((W.alloc (.cells #[.int .i64 x.i, .int .i64 x.j] 186)).alloc (.cells #[.int .i64 y.i, .int .i64 y.j] 186)).heap.size:=by rw [hsz];omega
 have hb1:W.heap.size+1 <((W.alloc (.cells #[.int .i64 x.i, .int .i64 x.j] 186)).alloc (.cells #[.int .i64 y.i, .int .i64 y.j] 186)).heap.size:=by rw [hsz];omega
 clear hsz
 generalize World.alloc (World.alloc W _) _=V at c0 c1 c2 c3 hb0 hb1 hgr ⊢
 generalize W.heap.size+1=b1 at c2 c3 hb1 ⊢
 generalize W.heap.size=b0 at c0 c1 hb0 ⊢
 have HGR:=Lib.hid hgr
 clear hgr
 have KEEP: ∀U,Below V.heap.size V U→(fun w'=>w'.cell? ⟨b0,0,none⟩=some (.int .i64 x.i)∧w'.cell? ⟨b0,1,none⟩=some (.int .i64 x.j)∧w'.cell? ⟨b1,0,none⟩=some (.int .i64 y.i)∧w'.cell? ⟨b1,1,none⟩=some (.int .i64 y.j)) U:=fun U hU=>by
  have q: ∀b o,b <V.heap.size→U.cell? ⟨b,o,none⟩=V.cell? ⟨b,o,none⟩:=fun b o h=>hU.cell (p:=⟨b,o,none⟩) h
  exact ⟨(q _ _ hb0).trans c0,(q _ _ hb0).trans c1,(q _ _ hb1).trans c2,(q _ _ hb1).trans c3⟩
 have HKP:=Lib.hid KEEP
 clear KEEP
 go_region_held3 (fun w'=>w'.cell? ⟨b0,0,none⟩=some (.int .i64 x.i)∧w'.cell? ⟨b0,1,none⟩=some (.int .i64 x.j)∧w'.cell? ⟨b1,0,none⟩=some (.int .i64 y.i)∧w'.cell? ⟨b1,1,none⟩=some (.int .i64 y.j))
  (first |(refine HKP.out _ ?_;(repeat (first |with_reducible exact HBW.out |with_reducible exact Below.refl _ _ |with_reducible refine Below.drew ?_ |(with_reducible refine Below.alloc ?_ (by first |(simp;done) |(have hq:=HBW.out.size;simp at hq ⊢;omega)) _) |(with_reducible refine Below.setCell ?_ (by first |(simp;done) |(have hq:=HBW.out.size;simp at hq ⊢;omega)) _)));done) |go_keep)
  (first
  |(go_at_call 146;refine (hcmp _ _ _).mono ?_;rintro e w' ⟨rfl,rfl⟩)
  |(go_at_call 117;refine (cmpOr_new _ _ _ _ (by simp) _).mono ?_;rintro e w' ⟨rfl,rfl⟩))
 go_wp2
 go_ret
 exact ⟨rfl,1,_,by rw [HGR.out,alloc_eq_grow,grow_grow];rfl⟩
end Go.Proofs.YtdmgpdanlfmadaaGreat
namespace Go.Proofs.YtdmgpdanlfmadaaGreat
open Go.RowKit Go.Shelf Go.Sort
theorem pairs_cb (w0:World) (l:List Spn) (hlen:l.length≤1048576):Cb 143 #[.pointer (some ⟨w0.heap.size,0,none⟩)] (w0.heap.size+1) (itemsOf l) (PJ w0) where
 ent:=enters_of Tryz.func143 (by kernel_rfl) rfl
 st d W V h ho:=by
  obtain ⟨L,h1,h2,h3⟩:=h
  exact ⟨L,h1.st ho,h2,h3⟩
 call d op r x A c W hx hle hop hp hB hj hR:=by
  obtain ⟨L,h1,h2,h3⟩:=hj
  have hd:d.length <l.length:=by
   have:=hp.length_eq
   rw [itemsOf_len] at this
   simp at this
   omega
  have hol:op.length≤d.length:=hop.length_eq▸List.length_filter_le _ _
  have hne:=idx_new hp
  refine (pairsFn_ok (op:=op) (x:=x) (L:=L) (by omega) (by omega) h1 (fun y hy=>hne y (List.mem_filter.1 (hop.mem_iff.1 hy)).1) hR).mono ?_
  rintro e w' ⟨he,hst,hk⟩
  exact ⟨he,⟨_,hst,h2.next hx hle hop hne,by simp;omega⟩,hk⟩
theorem PairsOf.perm {d d':List Itm} {L M:List Pr} (h:PairsOf d L) (hd:d.Perm d') (hL:M.Perm L):PairsOf d' M:=by
 intro p
 rw [hL.mem_iff,h p]
 constructor
 ·rintro ⟨x,hx,y,hy,r⟩
  exact ⟨x,hd.mem_iff.1 hx,y,hd.mem_iff.1 hy,r⟩
 ·rintro ⟨x,hx,y,hy,r⟩
  exact ⟨x,hd.mem_iff.2 hx,y,hd.mem_iff.2 hy,r⟩
theorem permIn_list {d d':Array Pr} (h:PermIn 0 d.size d d'):d'.toList.Perm d.toList:=by
 obtain ⟨h1,_,h3⟩:=h
 have e1:d'.extract 0 d.size=d':=by rw [←h1];exact Array.extract_size
 have e2:d.extract 0 d.size=d:=Array.extract_size
 rw [e1,e2] at h3
 exact h3
theorem sortPr_ok {L:List Pr} {A:Option Addr} {c base:Nat} {w:World} (hbase:base≤w.heap.size) (hL:L.length≤1099511627776) (h:w.ownsRow base 186 2 (.slice A L.length c) L.length (L.flatMap Pr.cells)):
  Calls Tryz.prog 144 #[.slice A L.length c, .func (.func 145) #[] #[]] w fun e w'=>e= .returned (.tuple #[])∧ ∃M:List Pr,M.Perm L∧w'.ownsRow base 186 2 (.slice A L.length c) M.length (M.flatMap Pr.cells)∧Below base w w':=by
 rcases h.2 with ⟨h2,h3⟩ |⟨g,cap,cur,e1,hb,hh,_⟩
 ·obtain rfl:L= []:=List.eq_nil_of_length_eq_zero h3
  refine (AnyF.slices_SortFunc_none Tryz.layPairs A c _ w).mono ?_
  rintro e w' ⟨rfl,rfl⟩
  exact ⟨rfl,[],List.Perm.refl _,h,Below.refl _ _⟩
 ·injection e1 with e1 _ e2
  subst e1;subst e2
  have hlt:g <w.heap.size:=(Array.getElem?_eq_some_iff.1 hh).1
  have eg: ∀args w,(callFunc 145 args).run Tryz.prog w= .ok (.enter 145 args) w:=enters_of Tryz.func145 (by kernel_rfl) rfl
  have hcon:=AnyQ.slices_SortFunc Tryz.layPairs 2 (fun w=>by kernel_rfl) (fun w=>by kernel_rfl) Pr.cells (fun _=>rfl) (fun x v hv=>by simp [Pr.cells] at hv;rcases hv with rfl |rfl<;>rfl) prCmp prSWO 145 #[] g 0 c L.toArray w eg (fun _ _ _ _ x y=>prClosure_ok x y _) (holdsK_own (enc:=Pr.cells) (k:=2) (fun _=>rfl) rfl h) hlt (by simp;omega)
  refine Calls.mono (show Calls Tryz.prog 144 #[.slice (some ⟨g,0,none⟩) L.toArray.size c, .func (.func 145) #[] #[]] w _ from hcon) ?_
  rintro e w' ⟨rfl,d',n,os,hp,_,rfl⟩
  have hpl:=permIn_list (d:=L.toArray) (by exact hp)
  have hsz:d'.size=L.length:=hp.1
  refine ⟨rfl,d'.toList,by simpa using hpl, ?_,belowK_sorted (Below.refl _ _) hbase hb⟩
  have:=ownK_sorted (enc:=Pr.cells) (k:=2) (m:=n) (os:=os) (fun _=>rfl) h hsz
  rw [show d'.toList.length=L.length by simpa using hsz]
  exact this
set_option maxRecDepth 100000 in
set_option maxHeartbeats 2000000 in
theorem pairs_ok {w:World} {l:List Spn} {A:Option Addr} {cp:Nat} (hlen:l.length≤1048576) (hsp: ∀s ∈ l,okSp s.lo s.len) (hR:Rd w w.heap.size 2 A l.length (l.flatMap Spn.cells)):
  Calls Tryz.prog 91 #[.slice A l.length cp] w fun e w'=> ∃v L,e= .returned v∧(PairsOf (itemsOf l) L∧L.length≤1099511627776)∧w'.ownsRow w.heap.size 186 2 v L.length (L.flatMap Pr.cells)∧Below w.heap.size w w':=by
 have HR:=Lib.hid hR
 clear hR
 go_enter Tryz.func91,Tryz.ntmps91
 go_upto_region 2 with (fail)
 have hbn:=below_one w (.cells #[.slice none 0 0] 184)
 have hst:PSt w (w.alloc (.cells #[.slice none 0 0] 184)) []:=⟨hbn,_,Blk.new w _ _,World.ownsRow_nil _ _ _ _⟩
 have hsz:(w.alloc (.cells #[.slice none 0 0] 184)).heap.size=w.heap.size+1:=by rw [World.size_alloc]
 generalize World.alloc w _=W1 at hbn hst hsz ⊢
 have HJ:=Lib.hid (show PJ w [] W1 from ⟨[],hst,fun p=>by simp,by simp⟩)
 have HR1:=Lib.hid (HR.out.up hbn)
 have HCB:=Lib.hid (show Cb 143 #[.pointer (some ⟨w.heap.size,0,none⟩)] W1.heap.size (itemsOf l) (PJ w) by rw [hsz];exact pairs_cb w l hlen)
 clear hbn hst hsz
 go_wp2_with fail
 refine (visit_ok hlen hsp HR1.out HCB.out HJ.out).mono ?_
 rintro e w2 ⟨rfl,d,hd,L,hP,hL,hLl⟩
 have hdl:d.length≤1048576:=by rw [hd.length_eq,itemsOf_len];exact hlen
 have hLm:L.length≤1099511627776:=by omega
 have HP:=Lib.hid hP
 have HL:=Lib.hid hL
 have HD:=Lib.hid hd
 obtain ⟨RA,rc,c0,cf,cz,ho⟩:=hP.cells
 have HO:=Lib.hid ho
 clear hP hL hd hLl ho
 go_wp2_with fail
 refine (sortPr_ok (by omega) hLm HO.out).mono ?_
 rintro e w3 ⟨rfl,M,hM,hO3,hb3⟩
 have hML:=hM.length_eq
 have c3:=(hb3.cell (p:=⟨w.heap.size,0,none⟩) (Nat.lt_succ_self _)).trans c0
 have HO3:=Lib.hid hO3
 have HB3:=Lib.hid (HP.out.bel.trans (hb3.mono (Nat.le_succ _)))
 have HM:=Lib.hid hM
 clear hb3 hM hO3 c0 cf
 go_wp2
 go_ret
 exact ⟨_,M,rfl,⟨HL.out.perm HD.out HM.out,by omega⟩,own_lessM (by rw [hML] at*;exact HO3.out) (by omega),HB3.out⟩
end Go.Proofs.YtdmgpdanlfmadaaGreat
