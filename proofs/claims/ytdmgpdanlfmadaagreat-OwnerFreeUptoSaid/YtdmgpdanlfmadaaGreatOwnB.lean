/-
  The regions that stand open, of package owner, in memory: a heap in a variable; its methods. No condition but on sizes.
-/
import Derived.Test.YtdmgpdanlfmadaaGreatSwpA
import Derived.Test.YtdmgpdanlfmadaaGreatOwnA
import Derived.BigRegion
namespace Go.Proofs.YtdmgpdanlfmadaaGreat
open Go.RowKit Go.Shelf
attribute [local go_sem] ext_cell
def Opn.cells (x:Opn):List Value:= [.int .u64 x.r.base, .int .u64 x.r.size, .int .u16 x.r.part, .int .u8 x.r.rights, .bool x.r.shared, .int .i64 x.k]
@[reducible] def Opn.val (x:Opn):Value:= .agg #[.int .u64 x.r.base, .int .u64 x.r.size, .int .u16 x.r.part, .int .u8 x.r.rights, .bool x.r.shared, .int .i64 x.k]
theorem oneOpn (l:List Opn): ∀u ∈ l.flatMap Opn.cells,u.oneCell'=true:=by
 intro u hu
 obtain ⟨x,_,hx⟩:=List.mem_flatMap.1 hu
 simp [Opn.cells] at hx
 rcases hx with rfl |rfl |rfl |rfl |rfl |rfl<;>rfl
theorem opn_at {w:World} {B:Nat} {A:Option Addr} {l:List Opn} {k:Nat} {x:Opn} (h:Rd w B 6 A l.length (l.flatMap Opn.cells)) (hk:l[k]? =some x):
  ∃b o,A=some ⟨b,o,none⟩∧b <B∧w.cell? ⟨b,o+k*6,none⟩=some (.int .u64 x.r.base)∧w.cell? ⟨b,o+k*6+1,none⟩=some (.int .u64 x.r.size)∧w.cell? ⟨b,o+k*6+2,none⟩=some (.int .u16 x.r.part)∧w.cell? ⟨b,o+k*6+3,none⟩=some (.int .u8 x.r.rights)∧w.cell? ⟨b,o+k*6+4,none⟩=some (.bool x.r.shared)∧w.cell? ⟨b,o+k*6+5,none⟩=some (.int .i64 x.k):=by
 obtain ⟨b,o,e,hb,hc⟩:=Rd.get (f:=Opn.cells) (sz:=6) (fun _=>rfl) h hk
 exact ⟨b,o,e,hb,hc 0 _ rfl,hc 1 _ rfl,hc 2 _ rfl,hc 3 _ rfl,hc 4 _ rfl,hc 5 _ rfl⟩
def okO (x:Opn):Prop:=okSp x.r.base x.r.size
def lastO (x:Opn):Int:=lastR x.r
structure OQ (W:World) (q base:Nat) (v:Value) (l:List Opn):Prop where
 bk:Blk W q 63 #[v]
 own:W.ownsRow base 66 6 v l.length (l.flatMap Opn.cells)
 qb:q <base
 len:l.length≤4194304
section
variable {W V:World} {q base:Nat} {v:Value} {l:List Opn}
theorem OQ.up (h:OQ W q base v l) (hb:Below W.heap.size W V):OQ V q base v l:=⟨h.bk.below hb h.bk.lt,own_below h.own hb,h.qb,h.len⟩
theorem OQ.form (h:OQ W q base v l): ∃A c,v= .slice A l.length c∧Rd W W.heap.size 6 A l.length (l.flatMap Opn.cells):=by
 obtain ⟨A,c,e,_,_,h3⟩:=own_form h.own
 exact ⟨A,c,e,h3⟩
theorem OQ.cells (h:OQ W q base v l):W.cell? ⟨q,0,none⟩=some v∧q <W.heap.size:=by
 refine ⟨?_,h.bk.lt⟩
 have:=h.bk.cell 0;simpa using this
end
end Go.Proofs.YtdmgpdanlfmadaaGreat
namespace Go.Proofs.YtdmgpdanlfmadaaGreat
open Go.RowKit Go.Shelf
attribute [local go_sem] ext_cell
theorem oLast_ok (x:Opn) (w:World) (h:okO x):Calls Tryz.prog 25 #[x.val] w fun e w'=>e= .returned (.int .u64 (lastO x))∧Below w.heap.size w w':=by
 obtain ⟨h0,h1,h2⟩:=h
 go_enter Tryz.func25,Tryz.ntmps25
 go_wp2
 go_ret
 exact ⟨ret_int (by unfold lastO lastR;omega),below_one _ _⟩
theorem oLast_val (x:Opn) (v:Int) (hv:Hid (lastO x=v)) (w:World) (h:okO x):Calls Tryz.prog 25 #[x.val] w fun e w'=>e= .returned (.int .u64 v)∧Below w.heap.size w w':=by
 rw [←hv.out]
 exact oLast_ok x w h
theorem oLen_ok {W:World} {q base:Nat} {v:Value} {l:List Opn} (h:OQ W q base v l):Calls Tryz.prog 304 #[v] W fun e w'=>e= .returned (.int .i64 l.length)∧W=w':=by
 obtain ⟨A,c,rfl,_⟩:=h.form
 clear h
 go_enter Tryz.func304,Tryz.ntmps304
 go_wp2
 go_ret
 exact ⟨rfl,rfl⟩
set_option maxRecDepth 100000 in
set_option maxHeartbeats 4000000 in
theorem oLess_ok {W:World} {q base:Nat} {v:Value} {l:List Opn} (h:OQ W q base v l) (hall: ∀x ∈ l,okO x) (i j:Nat) (hi:i <l.length) (hj:j <l.length):
  Calls Tryz.prog 305 #[v, .int .i64 i, .int .i64 j] W fun e w'=>e= .returned (.bool (decide (kv lastO l i <kv lastO l j)))∧Below W.heap.size W w':=by
 obtain ⟨x,hx⟩:=get_lt hi
 obtain ⟨y,hy⟩:=get_lt hj
 rw [kv_at hx,kv_at hy]
 obtain ⟨lx,hlx⟩: ∃z,lastO x=z:=⟨_,rfl⟩
 obtain ⟨ly,hly⟩: ∃z,lastO y=z:=⟨_,rfl⟩
 have HLX:=Lib.hid hlx
 have HLY:=Lib.hid hly
 rw [hlx,hly]
 obtain ⟨A,c,rfl,hr⟩:=h.form
 obtain ⟨b,o,rfl,hb,p0,p1,p2,p3,p4,p5⟩:=opn_at hr hx
 obtain ⟨b',o',e',hb',r0,r1,r2,r3,r4,r5⟩:=opn_at hr hy
 obtain ⟨rfl,rfl⟩:b=b'∧o=o':=by simpa using e'
 have HX:=Lib.hid (hall x (List.mem_of_getElem? hx))
 have HY:=Lib.hid (hall y (List.mem_of_getElem? hy))
 have hlen:=h.len
 have i0:(0:Int)≤(i:Int):=by omega
 have i1:(i:Int) <(l.length:Int):=by omega
 have j0:(0:Int)≤(j:Int):=by omega
 have j1:(j:Int) <(l.length:Int):=by omega
 clear h hx hy hr e' hall hi hj hlx hly
 go_enter Tryz.func305,Tryz.ntmps305
 go_wp2
 refine wp_region_ext (by kernel_rfl) (by kernel_rfl) ?_
 repeat (go_big_quiet_step ((first
  |(go_at_call_of 25 x.r.base;exact Calls.quiet_ext (oLast_val x lx HLX _ HX.out))
  |(go_at_call_of 25 y.r.base;exact Calls.quiet_ext (oLast_val y ly HLY _ HY.out)))))
 refine wpQuiet_nil ?_
 intro xq
 go_wp2
 go_ret
 exact ⟨rfl,ext_below _ xq⟩
theorem cells6 {l:List Opn} {k:Nat} (hk:k <l.length*6):(l.flatMap Opn.cells)[k]? =((l[k/6]?).map fun x=>(x.cells)[k%6]?).join:=by
 have hq:k/6 <l.length:=by omega
 have h:=flat_at Opn.cells 6 (fun _=>rfl) l (k/6) l[k/6] (k%6) (List.getElem?_eq_getElem hq) (Nat.mod_lt _ (by decide))
 rw [show k/6*6+k%6=k from by omega] at h
 rw [h,List.getElem?_eq_getElem hq]
 rfl
def putO (W:World) (g i:Nat) (x:Opn):World:=
 (((((W.setCell ⟨g,i*6,none⟩ (.int .u64 x.r.base)).setCell ⟨g,i*6+1,none⟩ (.int .u64 x.r.size)).setCell ⟨g,i*6+2,none⟩ (.int .u16 x.r.part)).setCell ⟨g,i*6+3,none⟩ (.int .u8 x.r.rights)).setCell ⟨g,i*6+4,none⟩ (.bool x.r.shared)).setCell ⟨g,i*6+5,none⟩ (.int .i64 x.k)
theorem own_opn {W:World} {base g n c i:Nat} {t:TypeId} {l:List Opn} (h:W.ownsRow base t 6 (.slice (some ⟨g,0,none⟩) n c) l.length (l.flatMap Opn.cells)) (hi:i <l.length) (x:Opn):
  (putO W g i x).ownsRow base t 6 (.slice (some ⟨g,0,none⟩) n c) l.length ((l.set i x).flatMap Opn.cells):=by
 have hlen:((l.set i x).flatMap Opn.cells).length=l.length*6:=by rw [flat_len Opn.cells 6 (fun _=>rfl),List.length_set]
 rcases h.2 with ⟨e,_⟩ |⟨g',cap,cur,e,hb,hh,h1,h2,h3,h4⟩
 ·exact (show False by cases e).elim
 ·have e':g=g'∧n=l.length∧c=cap:=by
   injection e with e e2 e3
   injection e with e
   injection e with e _
   exact ⟨e,e2,e3⟩
  clear e
  obtain ⟨rfl,e2,e3⟩:=e'
  have hbk:Blk W g t cur:=hh
  refine ⟨hlen, .inr ⟨g,cap,_,by rw [e2,e3],hb,(((((hbk.set_ (i*6) (.int .u64 x.r.base)).set_ (i*6+1) (.int .u64 x.r.size)).set_ (i*6+2) (.int .u16 x.r.part)).set_ (i*6+3) (.int .u8 x.r.rights)).set_ (i*6+4) (.bool x.r.shared)).set_ (i*6+5) (.int .i64 x.k),h1,h2,by simpa using h3, ?_⟩⟩
  apply List.ext_getElem?
  intro k
  by_cases hk:k <l.length*6
  ·rw [List.getElem?_take_of_lt hk,Array.getElem?_toList,cells6 (by rw [List.length_set];exact hk)]
   have hold:cur[k]? =((l[k/6]?).map fun x=>(x.cells)[k%6]?).join:=by
    rw [←cells6 hk, ←h4,List.getElem?_take_of_lt hk,Array.getElem?_toList]
   have hsz:k <cur.size:=by
    rw [h3]
    have:=Nat.mul_le_mul_right 6 h1
    omega
   have hkd:k/6 <l.length:=by omega
   rw [Array.getElem?_setIfInBounds,Array.getElem?_setIfInBounds,Array.getElem?_setIfInBounds,Array.getElem?_setIfInBounds,Array.getElem?_setIfInBounds,Array.getElem?_setIfInBounds]
   by_cases hki:k/6=i
   ·rw [hki,List.getElem?_set_self hi]
    have hm:k%6=0∨k%6=1∨k%6=2∨k%6=3∨k%6=4∨k%6=5:=by omega
    rcases hm with hm |hm |hm |hm |hm |hm
    ·rw [if_neg (by omega),if_neg (by omega),if_neg (by omega),if_neg (by omega),if_neg (by omega),if_pos (by omega),if_pos (by first |omega |(simp;omega)),hm];rfl
    ·rw [if_neg (by omega),if_neg (by omega),if_neg (by omega),if_neg (by omega),if_pos (by omega),if_pos (by first |omega |(simp;omega)),hm];rfl
    ·rw [if_neg (by omega),if_neg (by omega),if_neg (by omega),if_pos (by omega),if_pos (by first |omega |(simp;omega)),hm];rfl
    ·rw [if_neg (by omega),if_neg (by omega),if_pos (by omega),if_pos (by first |omega |(simp;omega)),hm];rfl
    ·rw [if_neg (by omega),if_pos (by omega),if_pos (by first |omega |(simp;omega)),hm];rfl
    ·rw [if_pos (by omega),if_pos (by first |omega |(simp;omega)),hm];rfl
   ·rw [if_neg (by omega),if_neg (by omega),if_neg (by omega),if_neg (by omega),if_neg (by omega),if_neg (by omega),List.getElem?_set_ne (fun e=>hki e.symm)]
    exact hold
  ·rw [List.getElem?_eq_none (by rw [List.length_take];omega),List.getElem?_eq_none (by rw [hlen];omega)]
theorem set_swpO {l:List Opn} {i j:Nat} {x y:Opn} (hx:l[i]? =some x) (hy:l[j]? =some y):(l.set i y).set j x=swp l i j:=(swp_eq hx hy).symm
theorem blk_putO {W:World} {q g i:Nat} {t:TypeId} {cs:Array Value} {x:Opn} (h:Blk W q t cs) (hne:q≠g):Blk (putO W g i x) q t cs:=
 (((((h.far (p:=⟨g,i*6,none⟩) hne _).far (p:=⟨g,i*6+1,none⟩) hne _).far (p:=⟨g,i*6+2,none⟩) hne _).far (p:=⟨g,i*6+3,none⟩) hne _).far (p:=⟨g,i*6+4,none⟩) hne _).far (p:=⟨g,i*6+5,none⟩) hne _
theorem grown_putO {W:World} {g i:Nat} {v:Value} (hv:v.ownBlock=some g) (x:Opn):W.grownBy (putO W g i x) v.ownBlock:=
 gR_trans (gR_trans (gR_trans (gR_trans (gR_trans (grown_row hv _ _) (grown_row hv _ _)) (grown_row hv _ _)) (grown_row hv _ _)) (grown_row hv _ _)) (grown_row hv _ _)
theorem OQ.swap {W:World} {q base g cap:Nat} {l:List Opn} (h:OQ W q base (.slice (some ⟨g,0,none⟩) l.length cap) l) {i j:Nat} {x y:Opn} (hx:l[i]? =some x) (hy:l[j]? =some y):
  OQ (putO (putO W g i y) g j x).drew q base (.slice (some ⟨g,0,none⟩) l.length cap) (swp l i j)∧W.grownBy (putO (putO W g i y) g j x).drew (some g):=by
 have hi:=(List.getElem?_eq_some_iff.1 hx).1
 have hj:=(List.getElem?_eq_some_iff.1 hy).1
 have hb:base≤g:=(own_lt0 h.own rfl).1
 have hne:q≠g:=by have:=h.qb;omega
 have o1:=own_opn h.own hi y
 rw [show l.length=(l.set i y).length by simp] at o1
 have o2:=own_opn o1 (i:=j) (by simpa using hj) x
 have hv:(Value.slice (some ⟨g,0,none⟩) l.length cap).ownBlock=some g:=rfl
 refine ⟨⟨?_, ?_,h.qb,by rw [swp_len];exact h.len⟩, ?_⟩
 ·have hk:=blk_putO (i:=j) (x:=x) (blk_putO (i:=i) (x:=y) h.bk hne) hne
  exact hk.below (below_drew _) hk.lt
 ·rw [swp_eq hx hy]
  have:=own_below o2 (below_drew _)
  simpa using this
 ·rw [←hv]
  exact gR_trans (gR_trans (grown_putO hv y) (grown_putO hv x)) (grown_drew _ _)
end Go.Proofs.YtdmgpdanlfmadaaGreat
namespace Go.Proofs.YtdmgpdanlfmadaaGreat
open Go.RowKit Go.Shelf
set_option maxRecDepth 100000 in
set_option maxHeartbeats 8000000 in
theorem oSwap_ok {W:World} {q base:Nat} {v:Value} {l:List Opn} (h:OQ W q base v l) (i j:Nat) (hi:i <l.length) (hj:j <l.length) (hij:i≠j):
  Calls Tryz.prog 306 #[v, .int .i64 i, .int .i64 j] W fun e w'=>e= .returned (.tuple #[])∧OQ w' q base v (swp l i j)∧W.grownBy w' v.ownBlock:=by
 obtain ⟨x,hx⟩:=get_lt hi
 obtain ⟨y,hy⟩:=get_lt hj
 have hlen:=h.len
 have HQ:=Lib.hid h
 rcases h.own.2 with ⟨rfl,h0⟩ |⟨g,cap,cur,rfl,hb,hh,h1,h2,h3,h4⟩
 ·omega
 ·obtain ⟨A,c',e1,_,_,hr⟩:=own_form h.own
  obtain rfl:some ⟨g,0,none⟩=A:=by injection e1
  obtain ⟨b,o,e,hbb,p0,p1,p2,p3,p4,p5⟩:=opn_at hr hx
  obtain ⟨b',o',e',hbb',r0,r1,r2,r3,r4,r5⟩:=opn_at hr hy
  obtain ⟨rfl,rfl⟩:g=b∧0=o:=by simpa using e
  obtain ⟨rfl,rfl⟩:g=b'∧0=o':=by simpa using e'
  have hbk:Blk W g 66 cur:=hh
  have hfr:=hbk.frozen
  have HX:=Lib.hid hx
  have HY:=Lib.hid hy
  have i0:(0:Int)≤(i:Int):=by omega
  have i1:(i:Int) <(l.length:Int):=by omega
  have j0:(0:Int)≤(j:Int):=by omega
  have j1:(j:Int) <(l.length:Int):=by omega
  have n00: ¬j*6=i*6:=by omega
  have n01: ¬j*6=i*6+1:=by omega
  have n02: ¬j*6=i*6+2:=by omega
  have n03: ¬j*6=i*6+3:=by omega
  have n04: ¬j*6=i*6+4:=by omega
  have n05: ¬j*6=i*6+5:=by omega
  have n10: ¬j*6+1=i*6:=by omega
  have n11: ¬j*6+1=i*6+1:=by omega
  have n12: ¬j*6+1=i*6+2:=by omega
  have n13: ¬j*6+1=i*6+3:=by omega
  have n14: ¬j*6+1=i*6+4:=by omega
  have n15: ¬j*6+1=i*6+5:=by omega
  have n20: ¬j*6+2=i*6:=by omega
  have n21: ¬j*6+2=i*6+1:=by omega
  have n22: ¬j*6+2=i*6+2:=by omega
  have n23: ¬j*6+2=i*6+3:=by omega
  have n24: ¬j*6+2=i*6+4:=by omega
  have n25: ¬j*6+2=i*6+5:=by omega
  have n30: ¬j*6+3=i*6:=by omega
  have n31: ¬j*6+3=i*6+1:=by omega
  have n32: ¬j*6+3=i*6+2:=by omega
  have n33: ¬j*6+3=i*6+3:=by omega
  have n34: ¬j*6+3=i*6+4:=by omega
  have n35: ¬j*6+3=i*6+5:=by omega
  have n40: ¬j*6+4=i*6:=by omega
  have n41: ¬j*6+4=i*6+1:=by omega
  have n42: ¬j*6+4=i*6+2:=by omega
  have n43: ¬j*6+4=i*6+3:=by omega
  have n44: ¬j*6+4=i*6+4:=by omega
  have n45: ¬j*6+4=i*6+5:=by omega
  have n50: ¬j*6+5=i*6:=by omega
  have n51: ¬j*6+5=i*6+1:=by omega
  have n52: ¬j*6+5=i*6+2:=by omega
  have n53: ¬j*6+5=i*6+3:=by omega
  have n54: ¬j*6+5=i*6+4:=by omega
  have n55: ¬j*6+5=i*6+5:=by omega
  have m00: ¬i*6=j*6:=by omega
  have m01: ¬i*6=j*6+1:=by omega
  have m02: ¬i*6=j*6+2:=by omega
  have m03: ¬i*6=j*6+3:=by omega
  have m04: ¬i*6=j*6+4:=by omega
  have m05: ¬i*6=j*6+5:=by omega
  have m10: ¬i*6+1=j*6:=by omega
  have m11: ¬i*6+1=j*6+1:=by omega
  have m12: ¬i*6+1=j*6+2:=by omega
  have m13: ¬i*6+1=j*6+3:=by omega
  have m14: ¬i*6+1=j*6+4:=by omega
  have m15: ¬i*6+1=j*6+5:=by omega
  have m20: ¬i*6+2=j*6:=by omega
  have m21: ¬i*6+2=j*6+1:=by omega
  have m22: ¬i*6+2=j*6+2:=by omega
  have m23: ¬i*6+2=j*6+3:=by omega
  have m24: ¬i*6+2=j*6+4:=by omega
  have m25: ¬i*6+2=j*6+5:=by omega
  have m30: ¬i*6+3=j*6:=by omega
  have m31: ¬i*6+3=j*6+1:=by omega
  have m32: ¬i*6+3=j*6+2:=by omega
  have m33: ¬i*6+3=j*6+3:=by omega
  have m34: ¬i*6+3=j*6+4:=by omega
  have m35: ¬i*6+3=j*6+5:=by omega
  have m40: ¬i*6+4=j*6:=by omega
  have m41: ¬i*6+4=j*6+1:=by omega
  have m42: ¬i*6+4=j*6+2:=by omega
  have m43: ¬i*6+4=j*6+3:=by omega
  have m44: ¬i*6+4=j*6+4:=by omega
  have m45: ¬i*6+4=j*6+5:=by omega
  have m50: ¬i*6+5=j*6:=by omega
  have m51: ¬i*6+5=j*6+1:=by omega
  have m52: ¬i*6+5=j*6+2:=by omega
  have m53: ¬i*6+5=j*6+3:=by omega
  have m54: ¬i*6+5=j*6+4:=by omega
  have m55: ¬i*6+5=j*6+5:=by omega
  simp only [Nat.zero_add] at p0 p1 p2 p3 p4 p5 r0 r1 r2 r3 r4 r5
  clear h hx hy hr e e' e1 hi hj hh h4 hbb'
  go_enter Tryz.func306,Tryz.ntmps306
  go_wp2
  go_region
  go_end0
  obtain ⟨k1,k2⟩:=HQ.out.swap HX.out HY.out
  unfold putO at k1 k2
  exact ⟨rfl,k1,k2⟩
set_option maxRecDepth 100000 in
set_option maxHeartbeats 8000000 in
theorem oSwap_same {W:World} {q base:Nat} {v:Value} {l:List Opn} (h:OQ W q base v l) (i:Nat) (hi:i <l.length):
  Calls Tryz.prog 306 #[v, .int .i64 i, .int .i64 i] W fun e w'=>e= .returned (.tuple #[])∧OQ w' q base v (swp l i i)∧W.grownBy w' v.ownBlock:=by
 obtain ⟨x,hx⟩:=get_lt hi
 have hlen:=h.len
 have HQ:=Lib.hid h
 rcases h.own.2 with ⟨rfl,h0⟩ |⟨g,cap,cur,rfl,hb,hh,h1,h2,h3,h4⟩
 ·omega
 ·obtain ⟨A,c',e1,_,_,hr⟩:=own_form h.own
  obtain rfl:some ⟨g,0,none⟩=A:=by injection e1
  obtain ⟨b,o,e,hbb,p0,p1,p2,p3,p4,p5⟩:=opn_at hr hx
  obtain ⟨rfl,rfl⟩:g=b∧0=o:=by simpa using e
  have hbk:Blk W g 66 cur:=hh
  have hfr:=hbk.frozen
  have HX:=Lib.hid hx
  have i0:(0:Int)≤(i:Int):=by omega
  have i1:(i:Int) <(l.length:Int):=by omega
  simp only [Nat.zero_add] at p0 p1 p2 p3 p4 p5
  clear h hx hr e e1 hi hh h4
  go_enter Tryz.func306,Tryz.ntmps306
  go_wp2
  go_region
  go_end0
  obtain ⟨k1,k2⟩:=HQ.out.swap HX.out HX.out
  unfold putO at k1 k2
  exact ⟨rfl,k1,k2⟩
theorem oSwap_any {W:World} {q base:Nat} {v:Value} {l:List Opn} (h:OQ W q base v l) (i j:Nat) (hi:i <l.length) (hj:j <l.length):
  Calls Tryz.prog 306 #[v, .int .i64 i, .int .i64 j] W fun e w'=>e= .returned (.tuple #[])∧OQ w' q base v (swp l i j)∧W.grownBy w' v.ownBlock:=by
 by_cases hij:i=j
 ·subst hij;exact oSwap_same h i hi
 ·exact oSwap_ok h i j hi hj hij
theorem oSwap_at {W:World} {q base:Nat} {v:Value} {l:List Opn} (h:OQ W q base v l) (i j:Nat) (hi:i <l.length) (hj:j <l.length) (a b:Int) (ha:a=(i:Int)) (hb:b=(j:Int)):
  Calls Tryz.prog 306 #[v, .int .i64 a, .int .i64 b] W fun e w'=>e= .returned (.tuple #[])∧OQ w' q base v (swp l i j)∧W.grownBy w' v.ownBlock:=by
 subst ha hb
 exact oSwap_any h i j hi hj
theorem oLess_at {W:World} {q base:Nat} {v:Value} {l:List Opn} (h:OQ W q base v l) (hall: ∀x ∈ l,okO x) (i j:Nat) (hi:i <l.length) (hj:j <l.length) (a b:Int) (ha:a=(i:Int)) (hb:b=(j:Int)) (c:Bool) (hc:c=decide (kv lastO l i <kv lastO l j)):
  Calls Tryz.prog 305 #[v, .int .i64 a, .int .i64 b] W fun e w'=>e= .returned (.bool c)∧Below W.heap.size W w':=by
 subst ha hb hc
 exact oLess_ok h hall i j hi hj
theorem infoOpn:(Tryz.prog.info? 66).map (fun i=>(i.zero,i.size,i.bytes))=some (some (.agg #[.int .u64 0, .int .u64 0, .int .u16 0, .int .u8 0, .bool false, .int .i64 0]),6,32):=by kernel_rfl
theorem assertOpn (v:Value) (w:World):(Instr.typeAssert (.iface 66 v) 20 66 false).run Tryz.prog w= .ok v w:=by kernel_rfl
section
variable {W W1 V:World} {q base:Nat} {v:Value} {l:List Opn}
theorem pushO_bk (h:OQ W q base v l) (hb:Below W.heap.size W W1) (hg:W1.grownBy V v.ownBlock):V.cell? ⟨q,0,none⟩=some v∧V.frozen? ⟨q,0,none⟩=false:=by
 have h1:=h.up hb
 have hbk:Blk V q 63 #[v]:=(hg.block q h1.bk.lt (fun e=>by have:=(own_lt0 h1.own e.symm).1;have:=h.qb;omega)).trans h1.bk
 have:=hbk.cell 0
 exact ⟨by simpa using this,hbk.frozen 0⟩
theorem pushO_row {g2 cap:Nat} {x:Opn} (h:OQ W q base v l) (hb:Below W.heap.size W W1) (hown:V.ownsRow base 66 6 (.slice (some ⟨g2,0,none⟩) (l.length+1) cap) (l.length+1) (l.flatMap Opn.cells++x.cells)) (hg:W1.grownBy V v.ownBlock)
  (hat:v.ownBlock=some g2∨g2=W1.heap.size) (hl:l.length <4194304):
  OQ (V.setCell ⟨q,0,none⟩ (.slice (some ⟨g2,0,none⟩) (l.length+1) cap)) q base (.slice (some ⟨g2,0,none⟩) (l.length+1) cap) (l++ [x])∧QStep W (V.setCell ⟨q,0,none⟩ (.slice (some ⟨g2,0,none⟩) (l.length+1) cap)) q v (.slice (some ⟨g2,0,none⟩) (l.length+1) cap):=by
 have h1:=h.up hb
 have hqb:=h.qb
 have hbk:Blk V q 63 #[v]:=(hg.block q h1.bk.lt (fun e=>by have:=(own_lt0 h1.own e.symm).1;omega)).trans h1.bk
 refine ⟨⟨by have:=hbk.set_ 0 (.slice (some ⟨g2,0,none⟩) (l.length+1) cap);simpa using this, ?_,hqb,by simp;omega⟩, ?_⟩
 ·have:=own_set hown (p:=⟨q,0,none⟩) (by show q <base;omega) (.slice (some ⟨g2,0,none⟩) (l.length+1) cap)
  simpa using this
 ·refine ⟨hg.os.trans hb.os,hg.tape.trans hb.tape,hg.output.trans hb.output,Nat.le_trans hb.size (by simpa [World.setCell] using hg.size),fun k hk h2 h3=> ?_,fun g e=> ?_⟩
  ·exact (Below.heap_setCell _ _ _ k h2).trans ((hg.block k (Nat.lt_of_lt_of_le hk hb.size) h3).trans (hb.block k hk))
  ·have e2:g2=g:=by simpa [Value.ownBlock] using e
   subst e2
   rcases hat with h4 |h4
   ·exact .inl h4
   ·exact .inr (by rw [h4];exact hb.size)
end
set_option maxRecDepth 100000 in
set_option maxHeartbeats 8000000 in
theorem ePush_ok {W:World} {q base:Nat} {v:Value} {l:List Opn} (h:OQ W q base v l) (x:Opn) (hl:l.length <4194304) (hbs:base≤W.heap.size):
  Calls Tryz.prog 308 #[.pointer (some ⟨q,0,none⟩), .iface 66 x.val] W fun e w'=>e= .returned (.tuple #[])∧ ∃v',OQ w' q base v' (l++ [x])∧QStep W w' q v v':=by
 obtain ⟨ii,hi,hz0,hz1,hz2⟩:=info_parts infoOpn
 have HQ:=Lib.hid h
 obtain ⟨x0,hz⟩:=h.cells
 obtain ⟨A,c,rfl,_⟩:=h.form
 have hlen:=h.len
 have hta: ∀w,(Instr.typeAssert (.iface 66 x.val) 20 66 false).run Tryz.prog w= .ok x.val w:=fun w=>assertOpn _ w
 clear h
 go_enter Tryz.func308,Tryz.ntmps308
 go_wp2
 go_region_law ((refine step_append_lies _ (by rfl) (.tmp 7) (.tmp 10) _ (by rfl) base 66 ii (.agg #[.int .u64 0, .int .u64 0, .int .u16 0, .int .u8 0, .bool false, .int .i64 0]) 6 32 Tryz.underlying63 hi hz0 hz1 hz2 rfl (by decide) _ l.length _ (by rfl) ((HQ.out.up (show Below W.heap.size W _ from (by repeat (first |with_reducible exact Below.refl _ _ |with_reducible refine Below.drew ?_ |(with_reducible refine Below.alloc ?_ (by simp) _) |(with_reducible refine Below.setCell ?_ (by simp) _))))).own) ⟨W.heap.size,0,none⟩ 1 1 x.cells (by rfl) (by rfl) (World.news_of_block (heap_alloc_new W _)) (by intro u hu;simp [Opn.cells] at hu;rcases hu with rfl |rfl |rfl |rfl |rfl |rfl<;>rfl) (by omega) (by unfold maxLen;omega) (by omega) (by simp;omega) _ rfl ?_;intro g2 cap w7 hown hgrow hat hlt7;have hb7:=pushO_bk HQ.out (show Below W.heap.size W _ from (by repeat (first |with_reducible exact Below.refl _ _ |with_reducible refine Below.drew ?_ |(with_reducible refine Below.alloc ?_ (by simp) _) |(with_reducible refine Below.setCell ?_ (by simp) _)))) hgrow;have HP:=Lib.hid (pushO_row HQ.out (show Below W.heap.size W _ from (by repeat (first |with_reducible exact Below.refl _ _ |with_reducible refine Below.drew ?_ |(with_reducible refine Below.alloc ?_ (by simp) _) |(with_reducible refine Below.setCell ?_ (by simp) _)))) hown hgrow hat hl);have c7:=hb7.1;have f7:=hb7.2;clear hown hgrow hat hb7))
 all_goals (go_end0;exact ⟨rfl,_,HP.out.1,HP.out.2⟩)
theorem own_initO {w:World} {base:Nat} {e:TypeId} {A:Option Addr} {cap:Nat} {l:List Opn} {x:Opn} (h:w.ownsRow base e 6 (.slice A (l.length+1) cap) (l.length+1) ((l++ [x]).flatMap Opn.cells)):w.ownsRow base e 6 (.slice A l.length cap) l.length (l.flatMap Opn.cells):=by
 have hl:=flat_len Opn.cells 6 (fun _=>rfl) l
 rcases h.2 with ⟨e1,_⟩ |⟨g,cap',cur,e1,hb,hh,h1,h2,h3,h4⟩
 ·cases e1
 ·injection e1 with e1 _ e3
  subst e1 e3
  refine ⟨hl, .inr ⟨g,cap,cur,rfl,hb,hh,by omega,h2,h3, ?_⟩⟩
  have:=congrArg (List.take (l.length*6)) h4
  rw [List.take_take,show min (l.length*6) ((l.length+1)*6)=l.length*6 from by omega] at this
  rw [this,List.flatMap_append,List.take_append_of_le_length (by rw [hl];exact Nat.le_refl _),List.take_of_length_le (by rw [hl];exact Nat.le_refl _)]
theorem OQ.pop {W V:World} {q base cap:Nat} {A:Option Addr} {l:List Opn} {x:Opn} (h:OQ W q base (.slice A (l.length+1) cap) (l++ [x])) (hb:Below W.heap.size W V):
  OQ (V.setCell ⟨q,0,none⟩ (.slice A l.length cap)) q base (.slice A l.length cap) l∧QStep W (V.setCell ⟨q,0,none⟩ (.slice A l.length cap)) q (.slice A (l.length+1) cap) (.slice A l.length cap):=by
 have h1:=h.up hb
 have hqb:=h.qb
 have hle:=h.len
 rw [List.length_append,List.length_singleton] at hle
 have ho:=h1.own
 rw [List.length_append,List.length_singleton] at ho
 refine ⟨⟨by have:=h1.bk.set_ 0 (.slice A l.length cap);simpa using this,own_set (own_initO ho) (p:=⟨q,0,none⟩) (by show q <base;omega) _,hqb,by omega⟩, ?_⟩
 refine ⟨hb.os,hb.tape,hb.output,by simpa [World.setCell] using hb.size,fun k hk h2 h3=>(Below.heap_setCell _ _ _ k h2).trans (hb.block k hk),fun g e=> .inl ?_⟩
 cases A with
 |none=>simp [Value.ownBlock] at e
 |some a=>simpa [Value.ownBlock] using e
set_option maxRecDepth 100000 in
set_option maxHeartbeats 4000000 in
theorem ePop_ok {W:World} {q base:Nat} {v:Value} {l:List Opn} {x:Opn} (h:OQ W q base v (l++ [x])):
  Calls Tryz.prog 307 #[.pointer (some ⟨q,0,none⟩)] W fun e w'=>e= .returned (.iface 66 x.val)∧ ∃v',OQ w' q base v' l∧QStep W w' q v v':=by
 have HQ:=Lib.hid h
 obtain ⟨x0,hz⟩:=h.cells
 obtain ⟨A,c,rfl,hr⟩:=h.form
 have hle:=h.len
 have hlast:(l++ [x])[l.length]? =some x:=by simp
 obtain ⟨b,o,rfl,hb,p0,p1,p2,p3,p4,p5⟩:=opn_at hr hlast
 obtain ⟨q1,q2⟩:=(own_slice h.own).1
 have hfr:=h.bk.frozen 0
 rw [List.length_append,List.length_singleton] at x0 hle HQ q1
 have n1:(l.length:Int) <((l.length+1:Nat):Int):=by omega
 clear h hr hlast
 go_enter Tryz.func307,Tryz.ntmps307
 go_wp2
 go_ret
 obtain ⟨k1,k2⟩:=HQ.out.pop (Below.refl _ _)
 exact ⟨rfl,_,k1.up (below_one _ _),by rw [List.length_append,List.length_singleton];exact k2.trans (.of_below (below_one _ _))⟩
@[reducible] def oI (q:Nat):Value:= .iface 73 (.pointer (some ⟨q,0,none⟩))
theorem run_via (f:FuncId) {w:World} {q:Nat} {v:Value} (h:w.cell? ⟨q,0,none⟩=some v):((load ⟨q,0,none⟩ >>=fun x=>pure (f,x)):Sem (FuncId × Value)).run Tryz.prog w= .ok (f,v) w:=by
 simp [h]
theorem oMPush (q : Nat) (w : World) : (method 477 73 (.pointer (some ⟨q, 0, none⟩)) "Push").run Tryz.prog w = .ok (308, .pointer (some ⟨q, 0, none⟩)) w := by kernel_rfl
theorem oMPop (q : Nat) (w : World) : (method 477 73 (.pointer (some ⟨q, 0, none⟩)) "Pop").run Tryz.prog w = .ok (307, .pointer (some ⟨q, 0, none⟩)) w := by kernel_rfl
theorem oMeth_at {W:World} {q:Nat} {v:Value} (h:W.cell? ⟨q,0,none⟩=some v):
  (method 477 73 (.pointer (some ⟨q, 0, none⟩)) "Len").run Tryz.prog W = .ok (304, v) W ∧
  (method 477 73 (.pointer (some ⟨q, 0, none⟩)) "Less").run Tryz.prog W = .ok (305, v) W ∧
  (method 477 73 (.pointer (some ⟨q, 0, none⟩)) "Swap").run Tryz.prog W = .ok (306, v) W := by
 refine ⟨?_, ?_, ?_⟩
 ·rw [show (method 477 73 (.pointer (some ⟨q, 0, none⟩)) "Len").run Tryz.prog W = ((load ⟨q, 0, none⟩ >>= fun x => pure (304, x)) : Sem (FuncId × Value)).run Tryz.prog W from by kernel_rfl]
  exact run_via _ h
 ·rw [show (method 477 73 (.pointer (some ⟨q, 0, none⟩)) "Less").run Tryz.prog W = ((load ⟨q, 0, none⟩ >>= fun x => pure (305, x)) : Sem (FuncId × Value)).run Tryz.prog W from by kernel_rfl]
  exact run_via _ h
 ·rw [show (method 477 73 (.pointer (some ⟨q, 0, none⟩)) "Swap").run Tryz.prog W = ((load ⟨q, 0, none⟩ >>= fun x => pure (306, x)) : Sem (FuncId × Value)).run Tryz.prog W from by kernel_rfl]
  exact run_via _ h
theorem oMeth {W:World} {q base:Nat} {v:Value} {l:List Opn} (h:OQ W q base v l):
  (method 477 73 (.pointer (some ⟨q, 0, none⟩)) "Len").run Tryz.prog W = .ok (304, v) W ∧
  (method 477 73 (.pointer (some ⟨q, 0, none⟩)) "Less").run Tryz.prog W = .ok (305, v) W ∧
  (method 477 73 (.pointer (some ⟨q, 0, none⟩)) "Swap").run Tryz.prog W = .ok (306, v) W ∧
  (method 477 73 (.pointer (some ⟨q, 0, none⟩)) "Push").run Tryz.prog W = .ok (308, .pointer (some ⟨q, 0, none⟩)) W ∧
  (method 477 73 (.pointer (some ⟨q, 0, none⟩)) "Pop").run Tryz.prog W = .ok (307, .pointer (some ⟨q, 0, none⟩)) W :=
 ⟨(oMeth_at h.cells.1).1,(oMeth_at h.cells.1).2.1,(oMeth_at h.cells.1).2.2,oMPush q W,oMPop q W⟩
end Go.Proofs.YtdmgpdanlfmadaaGreat
