/-
  Heaps as lists: what sifting down and up keeps. Plain lists; no program in sight; no condition.
-/
import Derived.Test.YtdmgpdanlfmadaaGreatCore
import Derived.IntWalk
import Derived.Shelf.Abstract
import Derived.BigRegion
import Derived.Deep.AppendLies
import Derived.Deep.RegionLaw
import Derived.Deep.Cut
import Derived.Deep.CutBlock
import Derived.Deep.DeepCutAuto
namespace Go.Proofs.YtdmgpdanlfmadaaGreat
structure Itm where
 lo:Int
 len:Int
 idx:Int
instance:Inhabited Itm:=⟨⟨0,0,0⟩⟩
section
variable {α:Type}
def kv (key:α→Int) (l:List α) (j:Nat):Int:=match l[j]? with
 |some x=>key x
 |none=>0
def swp (l:List α) (i j:Nat):List α:=match l[i]?,l[j]? with
 |some x,some y=>(l.set i y).set j x
 |_,_=>l
theorem kv_at {key:α→Int} {l:List α} {j:Nat} {x:α} (h:l[j]? =some x):kv key l j=key x:=by simp [kv,h]
theorem swp_eq {l:List α} {i j:Nat} {x y:α} (hx:l[i]? =some x) (hy:l[j]? =some y):swp l i j=(l.set i y).set j x:=by simp [swp,hx,hy]
theorem swp_len (l:List α) (i j:Nat):(swp l i j).length=l.length:=by
 unfold swp
 split<;>simp
theorem swp_get {l:List α} {i j:Nat} (hi:i <l.length) (hj:j <l.length) (k:Nat):(swp l i j)[k]? =if k=j then l[i]? else if k=i then l[j]? else l[k]? :=by
 obtain ⟨x,hx⟩: ∃x,l[i]? =some x:=⟨_,List.getElem?_eq_getElem hi⟩
 obtain ⟨y,hy⟩: ∃y,l[j]? =some y:=⟨_,List.getElem?_eq_getElem hj⟩
 rw [swp_eq hx hy]
 by_cases h1:k=j
 ·subst h1
  rw [if_pos rfl,List.getElem?_set_self (by simpa using hj),hx]
 ·rw [if_neg h1,List.getElem?_set_ne (fun e=>h1 e.symm)]
  by_cases h2:k=i
  ·subst h2
   rw [if_pos rfl,List.getElem?_set_self hi,hy]
  ·rw [if_neg h2,List.getElem?_set_ne (fun e=>h2 e.symm)]
theorem kv_swp {key:α→Int} {l:List α} {i j:Nat} (hi:i <l.length) (hj:j <l.length) (k:Nat):kv key (swp l i j) k=if k=j then kv key l i else if k=i then kv key l j else kv key l k:=by
 unfold kv
 rw [swp_get hi hj]
 by_cases h1:k=j
 ·rw [if_pos h1,if_pos h1]
 ·rw [if_neg h1,if_neg h1]
  by_cases h2:k=i
  ·rw [if_pos h2,if_pos h2]
  ·rw [if_neg h2,if_neg h2]
theorem perm_set_cons {l:List α} {i:Nat} {x y:α} (h:l[i]? =some x):(y::l).Perm (x::l.set i y):=by
 induction l generalizing i with
 |nil=>simp at h
 |cons z r ih=>
  cases i with
  |zero=>
   simp at h
   subst h
   exact List.Perm.swap _ _ _
  |succ i=>
   have h':r[i]? =some x:=by simpa using h
   rw [List.set_cons_succ]
   exact ((List.Perm.swap _ _ _).trans ((ih h').cons z)).trans (List.Perm.swap _ _ _)
theorem swp_perm (l:List α) (i j:Nat):(swp l i j).Perm l:=by
 rcases hx:l[i]? with _ |x
 ·simp [swp,hx]
 ·rcases hy:l[j]? with _ |y
  ·simp [swp,hx,hy]
  ·rw [swp_eq hx hy]
   by_cases hij:i=j
   ·subst hij
    rw [hx] at hy;injection hy with hy;subst hy
    rw [List.set_set]
    have hlt:=(List.getElem?_eq_some_iff.1 hx)
    obtain ⟨hl,he⟩:=hlt
    rw [←he,List.set_getElem_self]
   ·have h1:(y::l).Perm (x::l.set i y):=perm_set_cons hx
    have hy2:(l.set i y)[j]? =some y:=by rw [List.getElem?_set_ne hij];exact hy
    have h2:(x::l.set i y).Perm (y::(l.set i y).set j x):=perm_set_cons hy2
    exact ((List.perm_cons y).1 (h1.trans h2)).symm
def HeapFrom (key:α→Int) (l:List α) (n s:Nat):Prop:= ∀j,0 <j→j <n→s≤(j -1)/2→kv key l ((j -1)/2)≤kv key l j
theorem HeapFrom.less {key:α→Int} {l:List α} {n m s:Nat} (h:HeapFrom key l n s) (hm:m≤n):HeapFrom key l m s:=fun j h0 h1 h2=>h j h0 (by omega) h2
theorem HeapFrom.none {key:α→Int} {l:List α} {n s:Nat} (h:n≤2*s+1):HeapFrom key l n s:=fun j h0 h1 h2=>by omega
theorem heap_min {key:α→Int} {l:List α} {n:Nat} (h:HeapFrom key l n 0): ∀j,j <n→kv key l 0≤kv key l j:=by
 intro j
 induction j using Nat.strongRecOn with
 |_ j ih=>
  intro hj
  rcases Nat.eq_zero_or_pos j with h0 |h0
  ·subst h0;exact Int.le_refl _
  ·exact Int.le_trans (ih ((j -1)/2) (by omega) (by omega)) (h j h0 hj (Nat.zero_le _))
theorem heap_append {key:α→Int} {l m:List α} {n s:Nat} (hn:n≤l.length):HeapFrom key (l++m) n s↔HeapFrom key l n s:=by
 have e: ∀j,j <n→kv key (l++m) j=kv key l j:=fun j hj=>by unfold kv;rw [List.getElem?_append_left (by omega)]
 constructor
 ·intro h j h0 h1 h2
  have:=h j h0 h1 h2
  rwa [e _ h1,e _ (by omega)] at this
 ·intro h j h0 h1 h2
  rw [e _ h1,e _ (by omega)]
  exact h j h0 h1 h2
structure DnInv (key:α→Int) (l0 l:List α) (n i0 i:Nat):Prop where
 len:l.length=l0.length
 perm:l.Perm l0
 tail: ∀j,n≤j→l[j]? =l0[j]?
 nl:n≤l0.length
 ge:i0≤i
 up:i≠i0→i0≤(i -1)/2
 c1: ∀j,0 <j→j <n→i0≤(j -1)/2→(j -1)/2≠i→kv key l ((j -1)/2)≤kv key l j
 c2:i≠i0→ ∀j,0 <j→j <n→(j -1)/2=i→kv key l ((i -1)/2)≤kv key l j
theorem DnInv.start {key:α→Int} {l:List α} {n i0:Nat} (hn:n≤l.length) (h:HeapFrom key l n (i0+1)):DnInv key l l n i0 i0:=
 ⟨rfl,List.Perm.refl _,fun _ _=>rfl,hn,Nat.le_refl _,fun h=>absurd rfl h,fun j h0 h1 h2 h3=>h j h0 h1 (by omega),fun h=>absurd rfl h⟩
theorem DnInv.done {key:α→Int} {l0 l:List α} {n i0 i:Nat} (h:DnInv key l0 l n i0 i) (hc: ∀j,0 <j→j <n→(j -1)/2=i→kv key l i≤kv key l j):HeapFrom key l n i0:=fun j h0 h1 h2=>by
 by_cases hj:(j -1)/2=i
 ·rw [hj];exact hc j h0 h1 hj
 ·exact h.c1 j h0 h1 h2 hj
theorem DnInv.step {key:α→Int} {l0 l:List α} {n i0 i j:Nat} (h:DnInv key l0 l n i0 i) (hj0:0 <j) (hj:j <n) (hp:(j -1)/2=i) (hlt:kv key l j <kv key l i) (hmin: ∀k,0 <k→k <n→(k -1)/2=i→kv key l j≤kv key l k):
  DnInv key l0 (swp l i j) n i0 j:=by
 have hlen:=h.len
 have hnl:=h.nl
 have hij:i <j:=by omega
 have hi:i <l.length:=by omega
 have hjl:j <l.length:=by omega
 have hge:=h.ge
 have e:=fun k=>kv_swp (key:=key) hi hjl k
 refine ⟨by rw [swp_len,hlen],(swp_perm l i j).trans h.perm,fun k hk=> ?_,hnl,by omega,fun _=>by omega,fun k h0 h1 h2 h3=> ?_,fun _ k h0 h1 h2=> ?_⟩
 ·rw [swp_get hi hjl,if_neg (by omega),if_neg (by omega)];exact h.tail k hk
 ·rw [e,e,if_neg h3]
  by_cases hki:(k -1)/2=i
  ·rw [if_pos hki]
   by_cases hkj:k=j
   ·rw [if_pos hkj];omega
   ·rw [if_neg hkj,if_neg (by omega)]
    exact hmin k h0 h1 hki
  ·rw [if_neg hki]
   by_cases hkj:k=j
   ·subst hkj;exact absurd hp hki
   ·rw [if_neg hkj]
    by_cases hk:k=i
    ·rw [if_pos hk]
     subst hk
     exact h.c2 (by omega) j hj0 hj hp
    ·rw [if_neg hk]
     exact h.c1 k h0 h1 h2 hki
 ·rw [e,e,hp,if_neg (by omega),if_pos rfl,if_neg (by omega),if_neg (by omega)]
  have:=h.c1 k h0 h1 (by omega) (by omega)
  rwa [h2] at this
structure UpInv (key:α→Int) (l0 l:List α) (n j:Nat):Prop where
 len:l.length=l0.length
 perm:l.Perm l0
 nl:n≤l0.length
 jn:j <n
 c1: ∀k,0 <k→k <n→k≠j→kv key l ((k -1)/2)≤kv key l k
 c2:0 <j→ ∀k,0 <k→k <n→(k -1)/2=j→kv key l ((j -1)/2)≤kv key l k
theorem UpInv.start {key:α→Int} {l:List α} {n:Nat} (hn:n+1≤l.length) (h:HeapFrom key l n 0):UpInv key l l (n+1) n:=
 ⟨rfl,List.Perm.refl _,hn,by omega,fun k h0 h1 h2=>h k h0 (by omega) (Nat.zero_le _),fun _ k h0 h1 h2=>by omega⟩
theorem UpInv.done {key:α→Int} {l0 l:List α} {n j:Nat} (h:UpInv key l0 l n j) (hc:j=0∨kv key l ((j -1)/2)≤kv key l j):HeapFrom key l n 0:=fun k h0 h1 _=>by
 by_cases hk:k=j
 ·subst hk
  rcases hc with hc |hc
  ·omega
  ·exact hc
 ·exact h.c1 k h0 h1 hk
theorem UpInv.step {key:α→Int} {l0 l:List α} {n j:Nat} (h:UpInv key l0 l n j) (hj0:0 <j) (hlt:kv key l j <kv key l ((j -1)/2)):UpInv key l0 (swp l ((j -1)/2) j) n ((j -1)/2):=by
 have hlen:=h.len
 have hnl:=h.nl
 have hjn:=h.jn
 generalize hi:(j -1)/2=i at*
 have hil:i <l.length:=by omega
 have hjl:j <l.length:=by omega
 have e:=fun k=>kv_swp (key:=key) hil hjl k
 refine ⟨by rw [swp_len,hlen],(swp_perm l i j).trans h.perm,hnl,by omega,fun k h0 h1 h2=> ?_,fun h0 k h1 h2 h3=> ?_⟩
 ·rw [e,e]
  by_cases hkj:k=j
  ·subst hkj
   rw [if_pos rfl,hi,if_neg (by omega),if_pos rfl];omega
  ·rw [if_neg hkj,if_neg h2]
   by_cases hpj:(k -1)/2=j
   ·rw [if_pos hpj]
    have:=h.c2 hj0 k h0 h1 hpj
    rwa [hi] at this
   ·rw [if_neg hpj]
    by_cases hpi:(k -1)/2=i
    ·rw [if_pos hpi]
     have:=h.c1 k h0 h1 hkj
     rw [hpi] at this
     omega
    ·rw [if_neg hpi]
     exact h.c1 k h0 h1 hkj
 ·have hpi:(i -1)/2≠i:=by omega
  have hpj:(i -1)/2≠j:=by omega
  rw [e,e,if_neg hpj,if_neg hpi]
  have hp:=h.c1 i h0 (by omega) (by omega)
  by_cases hkj:k=j
  ·rw [if_pos hkj];exact hp
  ·rw [if_neg hkj,if_neg (by omega)]
   have:=h.c1 k h1 h2 hkj
   rw [h3] at this
   omega
end
end Go.Proofs.YtdmgpdanlfmadaaGreat
namespace Go.Proofs.YtdmgpdanlfmadaaGreat
open Go.RowKit Go.Shelf
attribute [local go_sem] ext_cell
def Itm.cells (x:Itm):List Value:= [.int .u64 x.lo, .int .u64 x.len, .int .i64 x.idx]
@[reducible] def Itm.val (x:Itm):Value:= .agg #[.int .u64 x.lo, .int .u64 x.len, .int .i64 x.idx]
theorem oneItm (l:List Itm): ∀u ∈ l.flatMap Itm.cells,u.oneCell'=true:=by
 intro u hu
 obtain ⟨x,_,hx⟩:=List.mem_flatMap.1 hu
 simp [Itm.cells] at hx
 rcases hx with rfl |rfl |rfl<;>rfl
theorem itm_at {w:World} {B:Nat} {A:Option Addr} {l:List Itm} {k:Nat} {x:Itm} (h:Rd w B 3 A l.length (l.flatMap Itm.cells)) (hk:l[k]? =some x):
  ∃b o,A=some ⟨b,o,none⟩∧b <B∧w.cell? ⟨b,o+k*3,none⟩=some (.int .u64 x.lo)∧w.cell? ⟨b,o+k*3+1,none⟩=some (.int .u64 x.len)∧w.cell? ⟨b,o+k*3+2,none⟩=some (.int .i64 x.idx):=by
 obtain ⟨b,o,e,hb,hc⟩:=Rd.get (f:=Itm.cells) (sz:=3) (fun _=>rfl) h hk
 exact ⟨b,o,e,hb,hc 0 _ rfl,hc 1 _ rfl,hc 2 _ rfl⟩
def okSp (lo len:Int):Prop:=0≤lo∧1≤len∧lo+len≤18446744073709551616
theorem spanLast_ok (lo len:Int) (w:World) (h:okSp lo len):Calls Tryz.prog 141 #[.agg #[.int .u64 lo, .int .u64 len]] w fun e w'=>e= .returned (.int .u64 (lo+len -1))∧Below w.heap.size w w':=by
 obtain ⟨h0,h1,h2⟩:=h
 have e1:IntKind.u64.wrap (IntKind.u64.wrap (lo+len) -1)=lo+len -1:=by
  rw [IntKind.wrap_u64,IntKind.wrap_u64];omega
 have E:=Lib.hid e1
 clear e1
 go_enter Tryz.func141,Tryz.ntmps141
 go_wp2
 go_ret
 exact ⟨ret_int E.out,below_one _ _⟩
def LessF (f:FuncId) (key:Itm→Int) (ok:Itm→Prop):Prop:= ∀(x y:Itm) (W:World),ok x→ok y→Calls Tryz.prog f #[x.val,y.val] W fun e w'=>e= .returned (.bool (decide (key x <key y)))∧Below W.heap.size W w'
def okItm (x:Itm):Prop:=okSp x.lo x.len
def lastOf (x:Itm):Int:=x.lo+x.len -1
theorem byLo_ok:LessF 189 (·.lo) okItm:=fun x y W _ _=>by
 go_enter Tryz.func189,Tryz.ntmps189
 go_wp2
 go_ret
 exact ⟨rfl,Below.then_ (below_one _ _) (below_one _ _)⟩
set_option maxRecDepth 100000 in
set_option maxHeartbeats 1000000 in
theorem byLast_ok:LessF 190 lastOf okItm:=fun x y W hx hy=>by
 have HX:=Lib.hid hx
 have HY:=Lib.hid hy
 clear hx hy
 go_enter Tryz.func190,Tryz.ntmps190
 go_wp2
 refine wp_region_ext (by kernel_rfl) (by kernel_rfl) ?_
 repeat (go_big_quiet_step ((first
  |(go_at_call 141;exact Calls.quiet_ext (spanLast_ok _ _ _ HX.out))
  |(go_at_call 141;exact Calls.quiet_ext (spanLast_ok _ _ _ HY.out)))))
 refine wpQuiet_nil ?_
 intro xq
 go_wp2
 go_ret
 exact ⟨ret_bool (by unfold lastOf;exact decide_eq_decide.2 (by omega)),Below.then_ (Below.then_ (below_one _ _) (below_one _ _)) (ext_below _ xq)⟩
structure Que (W:World) (q base:Nat) (f:FuncId) (v:Value) (l:List Itm):Prop where
 bk:Blk W q 293 #[v, .func (.func f) #[] #[]]
 own:W.ownsRow base 245 3 v l.length (l.flatMap Itm.cells)
 qb:q <base
 len:l.length≤4194304
section
variable {W V:World} {q base:Nat} {f:FuncId} {v:Value} {l:List Itm}
theorem Que.up (h:Que W q base f v l) (hb:Below W.heap.size W V):Que V q base f v l:=⟨h.bk.below hb h.bk.lt,own_below h.own hb,h.qb,h.len⟩
theorem Que.form (h:Que W q base f v l): ∃A c,v= .slice A l.length c∧Rd W W.heap.size 3 A l.length (l.flatMap Itm.cells):=by
 obtain ⟨A,c,e,_,_,h3⟩:=own_form h.own
 exact ⟨A,c,e,h3⟩
theorem Que.cells (h:Que W q base f v l):W.cell? ⟨q,0,none⟩=some v∧W.cell? ⟨q,1,none⟩=some (.func (.func f) #[] #[])∧q <W.heap.size:=by
 refine ⟨?_, ?_,h.bk.lt⟩
 ·have:=h.bk.cell 0;simpa using this
 ·have:=h.bk.cell 1;simpa using this
theorem qLen_ok (h:Que W q base f v l):Calls Tryz.prog 193 #[.pointer (some ⟨q,0,none⟩)] W fun e w'=>e= .returned (.int .i64 l.length)∧W=w':=by
 obtain ⟨A,c,rfl,_⟩:=h.form
 obtain ⟨x0,x1,hz⟩:=h.cells
 clear h
 go_enter Tryz.func193,Tryz.ntmps193
 go_wp2
 go_ret
 exact ⟨rfl,rfl⟩
end
set_option maxRecDepth 100000 in
set_option maxHeartbeats 2000000 in
theorem qLess_ok {W:World} {q base:Nat} {f:FuncId} {v:Value} {l:List Itm} {key:Itm→Int} {ok:Itm→Prop} (h:Que W q base f v l) (hL:LessF f key ok) (hf: ∀a w,(callFunc f a).run Tryz.prog w= .ok (.enter f a) w) (hall: ∀x ∈ l,ok x) (i j:Nat) (hi:i <l.length) (hj:j <l.length):
  Calls Tryz.prog 312 #[.pointer (some ⟨q,0,none⟩), .int .i64 i, .int .i64 j] W fun e w'=>e= .returned (.bool (decide (kv key l i <kv key l j)))∧Below W.heap.size W w':=by
 obtain ⟨x,hx⟩:=get_lt hi
 obtain ⟨y,hy⟩:=get_lt hj
 rw [kv_at hx,kv_at hy]
 obtain ⟨A,c,rfl,hr⟩:=h.form
 obtain ⟨x0,x1,hz⟩:=h.cells
 obtain ⟨b,o,rfl,hb,p0,p1,p2⟩:=itm_at hr hx
 obtain ⟨b',o',e',hb',r0,r1,r2⟩:=itm_at hr hy
 obtain ⟨rfl,rfl⟩:b=b'∧o=o':=by simpa using e'
 have HX:=Lib.hid (hall x (List.mem_of_getElem? hx))
 have HY:=Lib.hid (hall y (List.mem_of_getElem? hy))
 have HL:=Lib.hid hL
 have hlen:=h.len
 have i0:(0:Int)≤(i:Int):=by omega
 have i1:(i:Int) <(l.length:Int):=by omega
 have j0:(0:Int)≤(j:Int):=by omega
 have j1:(j:Int) <(l.length:Int):=by omega
 clear h hx hy hr e' hall hL hi hj
 go_enter Tryz.func312,Tryz.ntmps312
 go_wp2
 refine wp_region_ext (by kernel_rfl) (by kernel_rfl) ?_
 repeat (go_big_quiet_step ((go_at_fn f;exact Calls.quiet_ext (HL.out x y _ HX.out HY.out))))
 refine wpQuiet_nil ?_
 intro xq
 go_wp2
 go_ret
 exact ⟨rfl,ext_below _ xq⟩
end Go.Proofs.YtdmgpdanlfmadaaGreat
namespace Go.Proofs.YtdmgpdanlfmadaaGreat
open Go.RowKit Go.Shelf
theorem cells3 {l:List Itm} {k:Nat} (hk:k <l.length*3):(l.flatMap Itm.cells)[k]? =((l[k/3]?).map fun x=>(x.cells)[k%3]?).join:=by
 have hq:k/3 <l.length:=by omega
 have h:=flat_at Itm.cells 3 (fun _=>rfl) l (k/3) l[k/3] (k%3) (List.getElem?_eq_getElem hq) (Nat.mod_lt _ (by decide))
 rw [show k/3*3+k%3=k from by omega] at h
 rw [h,List.getElem?_eq_getElem hq]
 rfl
theorem own_item {W:World} {base g n c i:Nat} {t:TypeId} {l:List Itm} (h:W.ownsRow base t 3 (.slice (some ⟨g,0,none⟩) n c) l.length (l.flatMap Itm.cells)) (hi:i <l.length) (x:Itm):
  (((W.setCell ⟨g,i*3,none⟩ (.int .u64 x.lo)).setCell ⟨g,i*3+1,none⟩ (.int .u64 x.len)).setCell ⟨g,i*3+2,none⟩ (.int .i64 x.idx)).ownsRow base t 3 (.slice (some ⟨g,0,none⟩) n c) l.length ((l.set i x).flatMap Itm.cells):=by
 have hlen:((l.set i x).flatMap Itm.cells).length=l.length*3:=by rw [flat_len Itm.cells 3 (fun _=>rfl),List.length_set]
 rcases h.2 with ⟨e,_⟩ |⟨g',cap,cur,e,hb,hh,h1,h2,h3,h4⟩
 ·cases e
 ·injection e with e e2 e3
  injection e with e
  injection e with e _
  subst e
  have hbk:Blk W g t cur:=hh
  refine ⟨hlen, .inr ⟨g,cap,_,by rw [e2,e3],hb,((hbk.set_ (i*3) (.int .u64 x.lo)).set_ (i*3+1) (.int .u64 x.len)).set_ (i*3+2) (.int .i64 x.idx),h1,h2,by simpa using h3, ?_⟩⟩
  apply List.ext_getElem?
  intro k
  by_cases hk:k <l.length*3
  ·rw [List.getElem?_take_of_lt hk,Array.getElem?_toList,cells3 (by rw [List.length_set];exact hk)]
   have hold:cur[k]? =((l[k/3]?).map fun x=>(x.cells)[k%3]?).join:=by
    rw [←cells3 hk, ←h4,List.getElem?_take_of_lt hk,Array.getElem?_toList]
   have hsz:k <cur.size:=by
    rw [h3]
    have:=Nat.mul_le_mul_right 3 h1
    omega
   have hkd:k/3 <l.length:=by omega
   rw [Array.getElem?_setIfInBounds,Array.getElem?_setIfInBounds,Array.getElem?_setIfInBounds]
   by_cases hki:k/3=i
   ·rw [hki,List.getElem?_set_self hi]
    have hm:k%3=0∨k%3=1∨k%3=2:=by omega
    rcases hm with hm |hm |hm
    ·rw [if_neg (by omega),if_neg (by omega),if_pos (by omega),if_pos (by first |omega |(simp;omega)),hm];rfl
    ·rw [if_neg (by omega),if_pos (by omega),if_pos (by first |omega |(simp;omega)),hm];rfl
    ·rw [if_pos (by omega),if_pos (by first |omega |(simp;omega)),hm];rfl
   ·rw [if_neg (by omega),if_neg (by omega),if_neg (by omega),List.getElem?_set_ne (fun e=>hki e.symm)]
    exact hold
  ·rw [List.getElem?_eq_none (by rw [List.length_take];omega),List.getElem?_eq_none (by rw [hlen];omega)]
theorem set_swp {l:List Itm} {i j:Nat} {x y:Itm} (hx:l[i]? =some x) (hy:l[j]? =some y):(l.set j x).set i y=swp l i j:=by
 rw [swp_eq hx hy]
 by_cases hij:i=j
 ·subst hij
  rw [hx] at hy;injection hy with hy;subst hy
  rfl
 ·rw [List.set_comm _ _ (fun e=>hij e.symm)]
theorem own_lt0 {w:World} {base:Nat} {e:TypeId} {size n:Nat} {v:Value} {xs:List Value} (h:w.ownsRow base e size v n xs) {g:Nat} (hg:v.ownBlock=some g):base≤g∧g <w.heap.size:=h.lt g hg
theorem grown_row {W:World} {g:Nat} {v:Value} (hv:v.ownBlock=some g) (o:Nat) (u:Value):W.grownBy (W.setCell ⟨g,o,none⟩ u) v.ownBlock:=
 ⟨rfl,rfl,rfl,by simp [World.setCell],fun k _ hk=>Below.heap_setCell _ _ _ k (fun e=>hk (by rw [hv,e]))⟩
theorem gR_trans {W V U:World} {r:Option Nat} (h:W.grownBy V r) (k:V.grownBy U r):W.grownBy U r:=
 ⟨k.os.trans h.os,k.tape.trans h.tape,k.output.trans h.output,Nat.le_trans h.size k.size,fun b hb hne=>(k.block b (Nat.lt_of_lt_of_le hb h.size) hne).trans (h.block b hb hne)⟩
theorem grown_drew (W:World) (r:Option Nat):W.grownBy W.drew r:=⟨rfl,rfl,rfl,Nat.le_refl _,fun _ _ _=>rfl⟩
theorem gR_below {W V:World} {r:Option Nat} (h:Below W.heap.size W V):W.grownBy V r:=⟨h.os,h.tape,h.output,h.size,fun b hb _=>h.block b hb⟩
theorem below_drew (W:World):Below W.heap.size W W.drew:=⟨rfl,rfl,rfl,Nat.le_refl _,fun _ _=>rfl⟩
theorem Que.swap {W:World} {q base g cap:Nat} {f:FuncId} {l:List Itm} (h:Que W q base f (.slice (some ⟨g,0,none⟩) l.length cap) l) {i j:Nat} {x y:Itm} (hx:l[i]? =some x) (hy:l[j]? =some y):
  Que ((((((((W.setCell ⟨g,i*3,none⟩ (.int .u64 y.lo)).setCell ⟨g,i*3+1,none⟩ (.int .u64 y.len)).setCell ⟨g,i*3+2,none⟩ (.int .i64 y.idx)).setCell ⟨g,j*3,none⟩ (.int .u64 x.lo)).setCell ⟨g,j*3+1,none⟩ (.int .u64 x.len)).setCell ⟨g,j*3+2,none⟩ (.int .i64 x.idx)))).drew q base f (.slice (some ⟨g,0,none⟩) l.length cap) (swp l i j)∧
  W.grownBy ((((((((W.setCell ⟨g,i*3,none⟩ (.int .u64 y.lo)).setCell ⟨g,i*3+1,none⟩ (.int .u64 y.len)).setCell ⟨g,i*3+2,none⟩ (.int .i64 y.idx)).setCell ⟨g,j*3,none⟩ (.int .u64 x.lo)).setCell ⟨g,j*3+1,none⟩ (.int .u64 x.len)).setCell ⟨g,j*3+2,none⟩ (.int .i64 x.idx)))).drew (some g):=by
 have hi:=(List.getElem?_eq_some_iff.1 hx).1
 have hj:=(List.getElem?_eq_some_iff.1 hy).1
 have hb:base≤g:=(own_lt0 h.own rfl).1
 have hne:q≠g:=by have:=h.qb;omega
 have o1:=own_item h.own hi y
 rw [show l.length=(l.set i y).length by simp] at o1
 have o2:=own_item o1 (i:=j) (by simpa using hj) x
 refine ⟨⟨?_, ?_,h.qb,by rw [swp_len];exact h.len⟩, ?_⟩
 ·exact (((((((h.bk.far (p:=⟨g,i*3,none⟩) hne _).far (p:=⟨g,i*3+1,none⟩) hne _).far (p:=⟨g,i*3+2,none⟩) hne _).far (p:=⟨g,j*3,none⟩) hne _).far (p:=⟨g,j*3+1,none⟩) hne _).far (p:=⟨g,j*3+2,none⟩) hne _).below (below_drew _) (by have:=h.bk.lt;simpa [World.setCell] using this))
 ·rw [swp_eq hx hy]
  have:=own_below o2 (below_drew _)
  simpa using this
 ·have hv:(Value.slice (some ⟨g,0,none⟩) l.length cap).ownBlock=some g:=rfl
  rw [←hv]
  exact gR_trans (gR_trans (gR_trans (gR_trans (gR_trans (gR_trans (grown_row hv _ _) (grown_row hv _ _)) (grown_row hv _ _)) (grown_row hv _ _)) (grown_row hv _ _)) (grown_row hv _ _)) (grown_drew _ _)
set_option maxRecDepth 100000 in
set_option maxHeartbeats 4000000 in
theorem qSwap_ok {W:World} {q base:Nat} {f:FuncId} {v:Value} {l:List Itm} (h:Que W q base f v l) (i j:Nat) (hi:i <l.length) (hj:j <l.length) (hij:i≠j):
  Calls Tryz.prog 314 #[.pointer (some ⟨q,0,none⟩), .int .i64 i, .int .i64 j] W fun e w'=>e= .returned (.tuple #[])∧Que w' q base f v (swp l i j)∧W.grownBy w' v.ownBlock:=by
 obtain ⟨x,hx⟩:=get_lt hi
 obtain ⟨y,hy⟩:=get_lt hj
 have hlen:=h.len
 have HQ:=Lib.hid h
 obtain ⟨x0,x1,hz⟩:=h.cells
 rcases h.own.2 with ⟨rfl,h0⟩ |⟨g,cap,cur,rfl,hb,hh,h1,h2,h3,h4⟩
 ·omega
 ·obtain ⟨A,c',e1,_,_,hr⟩:=own_form h.own
  obtain rfl:some ⟨g,0,none⟩=A:=by injection e1
  obtain ⟨b,o,e,hbb,p0,p1,p2⟩:=itm_at hr hx
  obtain ⟨b',o',e',hbb',r0,r1,r2⟩:=itm_at hr hy
  obtain ⟨rfl,rfl⟩:g=b∧0=o:=by simpa using e
  obtain ⟨rfl,rfl⟩:g=b'∧0=o':=by simpa using e'
  have hbk:Blk W g 245 cur:=hh
  have hfr:=hbk.frozen
  have HX:=Lib.hid hx
  have HY:=Lib.hid hy
  have i0:(0:Int)≤(i:Int):=by omega
  have i1:(i:Int) <(l.length:Int):=by omega
  have j0:(0:Int)≤(j:Int):=by omega
  have j1:(j:Int) <(l.length:Int):=by omega
  have n00: ¬j*3=i*3:=by omega
  have n01: ¬j*3=i*3+1:=by omega
  have n02: ¬j*3=i*3+2:=by omega
  have n10: ¬j*3+1=i*3:=by omega
  have n12: ¬j*3+1=i*3+2:=by omega
  have n20: ¬j*3+2=i*3:=by omega
  have n21: ¬j*3+2=i*3+1:=by omega
  have m00: ¬i*3=j*3:=by omega
  have m01: ¬i*3=j*3+1:=by omega
  have m02: ¬i*3=j*3+2:=by omega
  have m10: ¬i*3+1=j*3:=by omega
  have m12: ¬i*3+1=j*3+2:=by omega
  have m20: ¬i*3+2=j*3:=by omega
  have m21: ¬i*3+2=j*3+1:=by omega
  simp only [Nat.zero_add] at p0 p1 p2 r0 r1 r2
  clear h hx hy hr e e' e1 hi hj hh h4 hbb'
  go_enter Tryz.func314,Tryz.ntmps314
  go_wp2
  go_region
  go_end0
  obtain ⟨k1,k2⟩:=HQ.out.swap HX.out HY.out
  exact ⟨rfl,k1,k2⟩
set_option maxRecDepth 100000 in
set_option maxHeartbeats 4000000 in
theorem qSwap_same {W:World} {q base:Nat} {f:FuncId} {v:Value} {l:List Itm} (h:Que W q base f v l) (i:Nat) (hi:i <l.length):
  Calls Tryz.prog 314 #[.pointer (some ⟨q,0,none⟩), .int .i64 i, .int .i64 i] W fun e w'=>e= .returned (.tuple #[])∧Que w' q base f v (swp l i i)∧W.grownBy w' v.ownBlock:=by
 obtain ⟨x,hx⟩:=get_lt hi
 have hlen:=h.len
 have HQ:=Lib.hid h
 obtain ⟨x0,x1,hz⟩:=h.cells
 rcases h.own.2 with ⟨rfl,h0⟩ |⟨g,cap,cur,rfl,hb,hh,h1,h2,h3,h4⟩
 ·omega
 ·obtain ⟨A,c',e1,_,_,hr⟩:=own_form h.own
  obtain rfl:some ⟨g,0,none⟩=A:=by injection e1
  obtain ⟨b,o,e,hbb,p0,p1,p2⟩:=itm_at hr hx
  obtain ⟨rfl,rfl⟩:g=b∧0=o:=by simpa using e
  have hbk:Blk W g 245 cur:=hh
  have hfr:=hbk.frozen
  have HX:=Lib.hid hx
  have i0:(0:Int)≤(i:Int):=by omega
  have i1:(i:Int) <(l.length:Int):=by omega
  simp only [Nat.zero_add] at p0 p1 p2
  clear h hx hr e e1 hi hh h4
  go_enter Tryz.func314,Tryz.ntmps314
  go_wp2
  go_region
  go_end0
  obtain ⟨k1,k2⟩:=HQ.out.swap HX.out HX.out
  exact ⟨rfl,k1,k2⟩
theorem qSwap_any {W:World} {q base:Nat} {f:FuncId} {v:Value} {l:List Itm} (h:Que W q base f v l) (i j:Nat) (hi:i <l.length) (hj:j <l.length):
  Calls Tryz.prog 314 #[.pointer (some ⟨q,0,none⟩), .int .i64 i, .int .i64 j] W fun e w'=>e= .returned (.tuple #[])∧Que w' q base f v (swp l i j)∧W.grownBy w' v.ownBlock:=by
 by_cases hij:i=j
 ·subst hij;exact qSwap_same h i hi
 ·exact qSwap_ok h i j hi hj hij
end Go.Proofs.YtdmgpdanlfmadaaGreat
namespace Go.Proofs.YtdmgpdanlfmadaaGreat
open Go.RowKit Go.Shelf
structure QStep (W V:World) (q:Nat) (v v':Value):Prop where
 os:V.os=W.os
 tape:V.tape=W.tape
 output:V.output=W.output
 size:W.heap.size≤V.heap.size
 block: ∀k,k <W.heap.size→k≠q→some k≠v.ownBlock→V.heap[k]? =W.heap[k]?
 own: ∀g,v'.ownBlock=some g→v.ownBlock=some g∨W.heap.size≤g
section
variable {W V U:World} {q q2 base:Nat} {f f2:FuncId} {v v' v'' v2:Value} {l l2:List Itm}
theorem QStep.of_grown (h:W.grownBy V v.ownBlock):QStep W V q v v:=⟨h.os,h.tape,h.output,h.size,fun k hk _ hne=>h.block k hk hne,fun _ e=> .inl e⟩
theorem QStep.of_below (h:Below W.heap.size W V):QStep W V q v v:=⟨h.os,h.tape,h.output,h.size,fun k hk _ _=>h.block k hk,fun _ e=> .inl e⟩
theorem QStep.trans (h:QStep W V q v v') (k:QStep V U q v' v''):QStep W U q v v'':=
 ⟨k.os.trans h.os,k.tape.trans h.tape,k.output.trans h.output,Nat.le_trans h.size k.size,fun b hb h1 h2=>(k.block b (Nat.lt_of_lt_of_le hb h.size) h1 (fun e=>by
  rcases h.own b e.symm with e2 |e2
  ·exact h2 e2.symm
  ·omega)).trans (h.block b hb h1 h2),fun g e=>by
  rcases k.own g e with e2 |e2
  ·exact h.own g e2
  ·exact .inr (Nat.le_trans h.size e2)⟩
theorem QStep.below {B:Nat} (h:QStep W V q v v') (hq:B≤q) (hv: ∀g,v.ownBlock=some g→B≤g) (hB:B≤W.heap.size):Below B W V:=
 ⟨h.os,h.tape,h.output,h.size,fun k hk=>h.block k (by omega) (by omega) (fun e=>by have:=hv k e.symm;omega)⟩
theorem Que.other (h2:Que W q2 base f2 v2 l2) (h:QStep W V q v v') (hq:q≠q2) (hqb:q <base) (hv: ∀g,v.ownBlock=some g→base≤g∧v2.ownBlock≠some g):Que V q2 base f2 v2 l2∧ ∀g,v'.ownBlock=some g→v2.ownBlock≠some g:=by
 have hqb2:=h2.qb
 refine ⟨⟨(h.block q2 h2.bk.lt (fun e=>hq e.symm) (fun e=>by have:=(hv _ e.symm).1;omega)).trans h2.bk, ?_,h2.qb,h2.len⟩,fun g e e2=> ?_⟩
 ·refine ⟨h2.own.1, ?_⟩
  rcases h2.own.2 with h3 |⟨g,cap,cur,rfl,hb,hh,r⟩
  ·exact .inl h3
  ·exact .inr ⟨g,cap,cur,rfl,hb,(h.block g (Array.getElem?_eq_some_iff.1 hh).1 (by omega) (fun e=>(hv g e.symm).2 rfl)).trans hh,r⟩
 ·rcases h.own g e with e3 |e3
  ·exact (hv g e3).2 e2
  ·have:=(own_lt0 h2.own e2).2
   omega
end
theorem infoItem:(Tryz.prog.info? 245).map (fun i=>(i.zero,i.size,i.bytes))=some (some (.agg #[.int .u64 0, .int .u64 0, .int .i64 0]),3,24):=by kernel_rfl
theorem assertItem (v:Value) (w:World):(Instr.typeAssert (.iface 245 v) 20 245 false).run Tryz.prog w= .ok v w:=by kernel_rfl
section
variable {W W1 V:World} {q base:Nat} {f:FuncId} {v:Value} {l:List Itm}
theorem push_bk (h:Que W q base f v l) (hb:Below W.heap.size W W1) (hg:W1.grownBy V v.ownBlock):V.cell? ⟨q,0,none⟩=some v∧V.frozen? ⟨q,0,none⟩=false:=by
 have h1:=h.up hb
 have hbk:Blk V q 293 #[v, .func (.func f) #[] #[]]:=(hg.block q h1.bk.lt (fun e=>by have:=(own_lt0 h1.own e.symm).1;have:=h.qb;omega)).trans h1.bk
 have:=hbk.cell 0
 exact ⟨by simpa using this,hbk.frozen 0⟩
theorem push_row {g2 cap:Nat} {x:Itm} (h:Que W q base f v l) (hb:Below W.heap.size W W1) (hown:V.ownsRow base 245 3 (.slice (some ⟨g2,0,none⟩) (l.length+1) cap) (l.length+1) (l.flatMap Itm.cells++x.cells)) (hg:W1.grownBy V v.ownBlock)
  (hat:v.ownBlock=some g2∨g2=W1.heap.size) (hl:l.length <4194304):
  Que (V.setCell ⟨q,0,none⟩ (.slice (some ⟨g2,0,none⟩) (l.length+1) cap)) q base f (.slice (some ⟨g2,0,none⟩) (l.length+1) cap) (l++ [x])∧QStep W (V.setCell ⟨q,0,none⟩ (.slice (some ⟨g2,0,none⟩) (l.length+1) cap)) q v (.slice (some ⟨g2,0,none⟩) (l.length+1) cap):=by
 have h1:=h.up hb
 have hqb:=h.qb
 have hbk:Blk V q 293 #[v, .func (.func f) #[] #[]]:=(hg.block q h1.bk.lt (fun e=>by have:=(own_lt0 h1.own e.symm).1;omega)).trans h1.bk
 refine ⟨⟨by have:=hbk.set_ 0 (.slice (some ⟨g2,0,none⟩) (l.length+1) cap);simpa using this, ?_,hqb,by simp;omega⟩, ?_⟩
 ·have:=own_set hown (p:=⟨q,0,none⟩) (by show q <base;omega) (.slice (some ⟨g2,0,none⟩) (l.length+1) cap)
  simpa using this
 ·refine ⟨hg.os.trans hb.os,hg.tape.trans hb.tape,hg.output.trans hb.output,Nat.le_trans hb.size (by simpa [World.setCell] using hg.size),fun k hk h2 h3=> ?_,fun g e=> ?_⟩
  ·exact (Below.heap_setCell _ _ _ k h2).trans ((hg.block k (Nat.lt_of_lt_of_le hk hb.size) h3).trans (hb.block k hk))
  ·have e2:g2=g:=by simpa [Value.ownBlock] using e
   subst e2
   rcases hat with h4 |h4
   ·exact .inl h4
   ·exact .inr (by rw [h4];exact hb.size)
end
set_option maxRecDepth 100000 in
set_option maxHeartbeats 4000000 in
theorem qPush_ok {W:World} {q base:Nat} {f:FuncId} {v:Value} {l:List Itm} (h:Que W q base f v l) (x:Itm) (hl:l.length <4194304) (hbs:base≤W.heap.size):
  Calls Tryz.prog 192 #[.pointer (some ⟨q,0,none⟩), .iface 245 x.val] W fun e w'=>e= .returned (.tuple #[])∧ ∃v',Que w' q base f v' (l++ [x])∧QStep W w' q v v':=by
 obtain ⟨ii,hi,hz0,hz1,hz2⟩:=info_parts infoItem
 have HQ:=Lib.hid h
 obtain ⟨x0,x1,hz⟩:=h.cells
 obtain ⟨A,c,rfl,_⟩:=h.form
 have hlen:=h.len
 have hta: ∀w,(Instr.typeAssert (.iface 245 x.val) 20 245 false).run Tryz.prog w= .ok x.val w:=fun w=>assertItem _ w
 clear h
 go_enter Tryz.func192,Tryz.ntmps192
 go_wp2
 go_region_law ((refine step_append_lies _ (by rfl) (.tmp 8) (.tmp 11) _ (by rfl) base 245 ii (.agg #[.int .u64 0, .int .u64 0, .int .i64 0]) 3 24 Tryz.underlying246 hi hz0 hz1 hz2 rfl (by decide) _ l.length _ (by rfl) ((HQ.out.up (show Below W.heap.size W _ from (by repeat (first |with_reducible exact Below.refl _ _ |with_reducible refine Below.drew ?_ |(with_reducible refine Below.alloc ?_ (by simp) _) |(with_reducible refine Below.setCell ?_ (by simp) _))))).own) ⟨W.heap.size,0,none⟩ 1 1 x.cells (by rfl) (by rfl) (World.news_of_block (heap_alloc_new W _)) (by intro u hu;simp [Itm.cells] at hu;rcases hu with rfl |rfl |rfl<;>rfl) (by omega) (by unfold maxLen;omega) (by omega) (by simp;omega) _ rfl ?_;intro g2 cap w7 hown hgrow hat hlt7;have hb7:=push_bk HQ.out (show Below W.heap.size W _ from (by repeat (first |with_reducible exact Below.refl _ _ |with_reducible refine Below.drew ?_ |(with_reducible refine Below.alloc ?_ (by simp) _) |(with_reducible refine Below.setCell ?_ (by simp) _)))) hgrow;have HP:=Lib.hid (push_row HQ.out (show Below W.heap.size W _ from (by repeat (first |with_reducible exact Below.refl _ _ |with_reducible refine Below.drew ?_ |(with_reducible refine Below.alloc ?_ (by simp) _) |(with_reducible refine Below.setCell ?_ (by simp) _)))) hown hgrow hat hl);have c7:=hb7.1;have f7:=hb7.2;clear hown hgrow hat hb7))
 all_goals (go_end0;exact ⟨rfl,_,HP.out.1,HP.out.2⟩)
theorem own_init {w:World} {base:Nat} {e:TypeId} {A:Option Addr} {cap:Nat} {l:List Itm} {x:Itm} (h:w.ownsRow base e 3 (.slice A (l.length+1) cap) (l.length+1) ((l++ [x]).flatMap Itm.cells)):w.ownsRow base e 3 (.slice A l.length cap) l.length (l.flatMap Itm.cells):=by
 have hl:=flat_len Itm.cells 3 (fun _=>rfl) l
 rcases h.2 with ⟨e1,_⟩ |⟨g,cap',cur,e1,hb,hh,h1,h2,h3,h4⟩
 ·cases e1
 ·injection e1 with e1 _ e3
  subst e1 e3
  refine ⟨hl, .inr ⟨g,cap,cur,rfl,hb,hh,by omega,h2,h3, ?_⟩⟩
  have:=congrArg (List.take (l.length*3)) h4
  rw [List.take_take,show min (l.length*3) ((l.length+1)*3)=l.length*3 from by omega] at this
  rw [this,List.flatMap_append,List.take_append_of_le_length (by rw [hl];exact Nat.le_refl _),List.take_of_length_le (by rw [hl];exact Nat.le_refl _)]
theorem Que.pop {W V:World} {q base cap:Nat} {f:FuncId} {A:Option Addr} {l:List Itm} {x:Itm} (h:Que W q base f (.slice A (l.length+1) cap) (l++ [x])) (hb:Below W.heap.size W V):
  Que (V.setCell ⟨q,0,none⟩ (.slice A l.length cap)) q base f (.slice A l.length cap) l∧QStep W (V.setCell ⟨q,0,none⟩ (.slice A l.length cap)) q (.slice A (l.length+1) cap) (.slice A l.length cap):=by
 have h1:=h.up hb
 have hqb:=h.qb
 have hle:=h.len
 rw [List.length_append,List.length_singleton] at hle
 have ho:=h1.own
 rw [List.length_append,List.length_singleton] at ho
 refine ⟨⟨by have:=h1.bk.set_ 0 (.slice A l.length cap);simpa using this,own_set (own_init ho) (p:=⟨q,0,none⟩) (by show q <base;omega) _,hqb,by omega⟩, ?_⟩
 refine ⟨hb.os,hb.tape,hb.output,by simpa [World.setCell] using hb.size,fun k hk h2 h3=>(Below.heap_setCell _ _ _ k h2).trans (hb.block k hk),fun g e=> .inl ?_⟩
 cases A with
 |none=>simp [Value.ownBlock] at e
 |some a=>simpa [Value.ownBlock] using e
set_option maxRecDepth 100000 in
set_option maxHeartbeats 4000000 in
theorem qPop_ok {W:World} {q base:Nat} {f:FuncId} {v:Value} {l:List Itm} {x:Itm} (h:Que W q base f v (l++ [x])):
  Calls Tryz.prog 313 #[.pointer (some ⟨q,0,none⟩)] W fun e w'=>e= .returned (.iface 245 x.val)∧ ∃v',Que w' q base f v' l∧QStep W w' q v v':=by
 have HQ:=Lib.hid h
 obtain ⟨x0,x1,hz⟩:=h.cells
 obtain ⟨A,c,rfl,hr⟩:=h.form
 have hle:=h.len
 have hlast:(l++ [x])[l.length]? =some x:=by simp
 obtain ⟨b,o,rfl,hb,p0,p1,p2⟩:=itm_at hr hlast
 obtain ⟨q1,q2⟩:=(own_slice h.own).1
 have hfr:=h.bk.frozen 0
 rw [List.length_append,List.length_singleton] at x0 hle HQ q1
 have n1:(l.length:Int) <((l.length+1:Nat):Int):=by omega
 clear h hr hlast
 go_enter Tryz.func313,Tryz.ntmps313
 go_wp2
 go_ret
 obtain ⟨k1,k2⟩:=HQ.out.pop (Below.refl _ _)
 exact ⟨rfl,_,k1.up (below_one _ _),by rw [List.length_append,List.length_singleton];exact k2.trans (.of_below (below_one _ _))⟩
end Go.Proofs.YtdmgpdanlfmadaaGreat
namespace Go.Proofs.YtdmgpdanlfmadaaGreat
open Go.RowKit Go.Shelf
@[reducible] def qI (q:Nat):Value:= .iface 289 (.pointer (some ⟨q,0,none⟩))
theorem mLess (q : Nat) (w : World) : (method 477 289 (.pointer (some ⟨q, 0, none⟩)) "Less").run Tryz.prog w = .ok (312, .pointer (some ⟨q, 0, none⟩)) w := by kernel_rfl
theorem mSwap (q : Nat) (w : World) : (method 477 289 (.pointer (some ⟨q, 0, none⟩)) "Swap").run Tryz.prog w = .ok (314, .pointer (some ⟨q, 0, none⟩)) w := by kernel_rfl
theorem mLen (q : Nat) (w : World) : (method 477 289 (.pointer (some ⟨q, 0, none⟩)) "Len").run Tryz.prog w = .ok (193, .pointer (some ⟨q, 0, none⟩)) w := by kernel_rfl
theorem mPop (q : Nat) (w : World) : (method 477 289 (.pointer (some ⟨q, 0, none⟩)) "Pop").run Tryz.prog w = .ok (313, .pointer (some ⟨q, 0, none⟩)) w := by kernel_rfl
theorem qLess_at {W:World} {q base:Nat} {f:FuncId} {v:Value} {l:List Itm} {key:Itm→Int} {ok:Itm→Prop} (h:Que W q base f v l) (hL:LessF f key ok) (hf: ∀a w,(callFunc f a).run Tryz.prog w= .ok (.enter f a) w) (hall: ∀x ∈ l,ok x) (i j:Nat) (hi:i <l.length) (hj:j <l.length) (a b:Int) (ha:a=(i:Int)) (hb:b=(j:Int)) (c:Bool) (hc:c=decide (kv key l i <kv key l j)):
  Calls Tryz.prog 312 #[.pointer (some ⟨q,0,none⟩), .int .i64 a, .int .i64 b] W fun e w'=>e= .returned (.bool c)∧Below W.heap.size W w':=by
 subst ha hb hc
 exact qLess_ok h hL hf hall i j hi hj
theorem qSwap_at {W:World} {q base:Nat} {f:FuncId} {v:Value} {l:List Itm} (h:Que W q base f v l) (i j:Nat) (hi:i <l.length) (hj:j <l.length) (a b:Int) (ha:a=(i:Int)) (hb:b=(j:Int)):
  Calls Tryz.prog 314 #[.pointer (some ⟨q,0,none⟩), .int .i64 a, .int .i64 b] W fun e w'=>e= .returned (.tuple #[])∧Que w' q base f v (swp l i j)∧W.grownBy w' v.ownBlock:=by
 subst ha hb
 exact qSwap_any h i j hi hj
theorem all_perm {l l':List Itm} {ok:Itm→Prop} (h: ∀x ∈ l,ok x) (hp:l'.Perm l): ∀x ∈ l',ok x:=fun x hx=>h x (hp.mem_iff.1 hx)
theorem dn_leaf {key:Itm→Int} {l0 l:List Itm} {n i0 i:Nat} (h:DnInv key l0 l n i0 i) (hn:n≤2*i+1):HeapFrom key l n i0:=h.done fun j h0 h1 h2=>by omega
theorem dn_one {key:Itm→Int} {l0 l:List Itm} {n i0 i:Nat} (h:DnInv key l0 l n i0 i) (hn:n≤2*i+2) (hc: ¬kv key l (2*i+1) <kv key l i):HeapFrom key l n i0:=h.done fun j h0 h1 h2=>by
 obtain rfl:j=2*i+1:=by omega
 omega
theorem dn_two {key:Itm→Int} {l0 l:List Itm} {n i0 i j:Nat} (h:DnInv key l0 l n i0 i) (hj: ∀k,k=2*i+1∨k=2*i+2→kv key l j≤kv key l k) (hc: ¬kv key l j <kv key l i):HeapFrom key l n i0:=h.done fun k h0 h1 h2=>by
 have:=hj k (by omega)
 omega
set_option maxRecDepth 100000 in
set_option maxHeartbeats 8000000 in
theorem hDown_ok {W:World} {q base:Nat} {f:FuncId} {v:Value} {l:List Itm} {key:Itm→Int} {ok:Itm→Prop} (h:Que W q base f v l) (hL:LessF f key ok) (hf: ∀a w,(callFunc f a).run Tryz.prog w= .ok (.enter f a) w) (hall: ∀x ∈ l,ok x) (i0 n:Nat) (hi0:i0≤4194304) (hn:n≤l.length) (hh:HeapFrom key l n (i0+1)):
  Calls Tryz.prog 49 #[qI q, .int .i64 i0, .int .i64 n] W fun e w'=> ∃(b:Bool) (l':List Itm),e= .returned (.bool b)∧Que w' q base f v l'∧QStep W w' q v v∧(l'.Perm l∧(∀j,n≤j→l'[j]? =l[j]?)∧HeapFrom key l' n i0∧(n≤2*i0+1→b=false∧l'=l)):=by
 have hlen:=h.len
 have hm1:=mLess q
 have hm2:=mSwap q
 have HS:=Lib.hid (DnInv.start (key:=key) hn hh)
 have HQ:=Lib.hid h
 have HL:=Lib.hid hL
 have HALL:=Lib.hid hall
 have HF:=Lib.hid hf
 clear h hL hall hh hf
 go_enter Tryz.func49,Tryz.ntmps49
 go_wp2
 go_loopw [7] (fun s wr=> ∃(i:Nat) (l':List Itm),s= .int .i64 i∧Hid (DnInv key l l' n i0 i)∧Hid (Que wr q base f v l')∧Hid (QStep W wr q v v)∧i≤4194304∧Hid (n≤2*i0+1→i=i0∧l'=l)) (fun s _=>n -(intOf s).toNat)
 case atStart=>exact ⟨i0,l,rfl,HS,HQ,Lib.hid (.of_below (Below.refl _ _)),hi0,Lib.hid (fun _=>⟨rfl,rfl⟩)⟩
 case round=>
  obtain ⟨i,l',rfl,HD,HQ',HST,hi,HE⟩:=hrel
  have hll:=HD.out.len
  have hpl:=HD.out.perm
  have HALL':=Lib.hid (all_perm HALL.out hpl)
  have hge:=HD.out.ge
  clear hpl
  by_cases h1:2*i+1 <n
  ·have m1:(2*(i:Int)+1) <(n:Int):=by omega
   by_cases h2:2*i+2 <n
   ·have m2:(2*(i:Int)+1+1) <(n:Int):=by omega
    have hc1: ∃c,c=decide (kv key l' (2*i+2) <kv key l' (2*i+1)):=⟨_,rfl⟩
    obtain ⟨c1,hc1⟩:=hc1
    have HC1:=Lib.hid hc1
    rcases Bool.eq_false_or_eq_true c1 with rfl |rfl
    ·have hcc:=of_decide_eq_true hc1.symm
     have HM:=Lib.hid (show ∀k,0 <k→k <n→(k -1)/2=i→kv key l' (2*i+2)≤kv key l' k from fun k h0 h1 h2=>by
      rcases (show k=2*i+1∨k=2*i+2 by omega) with rfl |rfl<;>omega)
     clear hc1 hcc
     go_wp2_with fail
     refine (qLess_at HQ'.out HL.out HF.out HALL'.out (2*i+2) (2*i+1) (by omega) (by omega) _ _ (by omega) (by omega) true HC1.out).mono ?_
     rintro e w1 ⟨rfl,hb1⟩
     have HQ1:=Lib.hid (HQ'.out.up hb1)
     have HST1:=Lib.hid (HST.out.trans (.of_below hb1))
     clear hb1
     go_wp2_with fail
     obtain ⟨c2,hc2⟩: ∃c,c=decide (kv key l' (2*i+2) <kv key l' i):=⟨_,rfl⟩
     have HC2:=Lib.hid hc2
     rcases Bool.eq_false_or_eq_true c2 with rfl |rfl
     ·have hlt:=of_decide_eq_true hc2.symm
      have HD2:=Lib.hid (HD.out.step (j:=2*i+2) (by omega) (by omega) (by omega) hlt HM.out)
      clear hc2 hlt
      refine (qLess_at HQ1.out HL.out HF.out HALL'.out (2*i+2) i (by omega) (by omega) _ _ (by omega) (by omega) true HC2.out).mono ?_
      rintro e w2 ⟨rfl,hb2⟩
      have HQ2:=Lib.hid (HQ1.out.up hb2)
      have HST2:=Lib.hid (HST1.out.trans (.of_below hb2))
      clear hb2
      go_wp2_with fail
      refine (qSwap_at HQ2.out i (2*i+2) (by omega) (by omega) _ _ (by omega) (by omega)).mono ?_
      rintro e w3 ⟨rfl,hq3,hg3⟩
      have HQ3:=Lib.hid hq3
      have HST3:=Lib.hid (HST2.out.trans (.of_grown hg3))
      clear hq3 hg3
      go_wp2
      go_roundw
      case rel=>exact ⟨2*i+2,_,by go_num,HD2,HQ3,HST3,by omega,Lib.hid (fun hh=>by omega)⟩
      case measure=>simp [intOf];omega
     ·have hnl:=of_decide_eq_false hc2.symm
      have HH:=Lib.hid (HD.out.done fun k h0 h1 h2=>by have:=HM.out k h0 h1 h2;omega)
      clear hc2 hnl
      refine (qLess_at HQ1.out HL.out HF.out HALL'.out (2*i+2) i (by omega) (by omega) _ _ (by omega) (by omega) false HC2.out).mono ?_
      rintro e w2 ⟨rfl,hb2⟩
      have HQ2:=Lib.hid (HQ1.out.up hb2)
      have HST2:=Lib.hid (HST1.out.trans (.of_below hb2))
      clear hb2
      go_wp2
      go_ret
      exact ⟨_,l',rfl,HQ2.out,HST2.out,HD.out.perm,fun j hj=>HD.out.tail j hj,HH.out,fun hh=>by omega⟩
    ·have hcc:=of_decide_eq_false hc1.symm
     have HM:=Lib.hid (show ∀k,0 <k→k <n→(k -1)/2=i→kv key l' (2*i+1)≤kv key l' k from fun k h0 h1 h2=>by
      rcases (show k=2*i+1∨k=2*i+2 by omega) with rfl |rfl<;>omega)
     clear hc1 hcc
     go_wp2_with fail
     refine (qLess_at HQ'.out HL.out HF.out HALL'.out (2*i+2) (2*i+1) (by omega) (by omega) _ _ (by omega) (by omega) false HC1.out).mono ?_
     rintro e w1 ⟨rfl,hb1⟩
     have HQ1:=Lib.hid (HQ'.out.up hb1)
     have HST1:=Lib.hid (HST.out.trans (.of_below hb1))
     clear hb1
     go_wp2_with fail
     obtain ⟨c2,hc2⟩: ∃c,c=decide (kv key l' (2*i+1) <kv key l' i):=⟨_,rfl⟩
     have HC2:=Lib.hid hc2
     rcases Bool.eq_false_or_eq_true c2 with rfl |rfl
     ·have hlt:=of_decide_eq_true hc2.symm
      have HD2:=Lib.hid (HD.out.step (j:=2*i+1) (by omega) (by omega) (by omega) hlt HM.out)
      clear hc2 hlt
      refine (qLess_at HQ1.out HL.out HF.out HALL'.out (2*i+1) i (by omega) (by omega) _ _ (by omega) (by omega) true HC2.out).mono ?_
      rintro e w2 ⟨rfl,hb2⟩
      have HQ2:=Lib.hid (HQ1.out.up hb2)
      have HST2:=Lib.hid (HST1.out.trans (.of_below hb2))
      clear hb2
      go_wp2_with fail
      refine (qSwap_at HQ2.out i (2*i+1) (by omega) (by omega) _ _ (by omega) (by omega)).mono ?_
      rintro e w3 ⟨rfl,hq3,hg3⟩
      have HQ3:=Lib.hid hq3
      have HST3:=Lib.hid (HST2.out.trans (.of_grown hg3))
      clear hq3 hg3
      go_wp2
      go_roundw
      case rel=>exact ⟨2*i+1,_,by go_num,HD2,HQ3,HST3,by omega,Lib.hid (fun hh=>by omega)⟩
      case measure=>simp [intOf];omega
     ·have hnl:=of_decide_eq_false hc2.symm
      have HH:=Lib.hid (HD.out.done fun k h0 h1 h2=>by have:=HM.out k h0 h1 h2;omega)
      clear hc2 hnl
      refine (qLess_at HQ1.out HL.out HF.out HALL'.out (2*i+1) i (by omega) (by omega) _ _ (by omega) (by omega) false HC2.out).mono ?_
      rintro e w2 ⟨rfl,hb2⟩
      have HQ2:=Lib.hid (HQ1.out.up hb2)
      have HST2:=Lib.hid (HST1.out.trans (.of_below hb2))
      clear hb2
      go_wp2
      go_ret
      exact ⟨_,l',rfl,HQ2.out,HST2.out,HD.out.perm,fun j hj=>HD.out.tail j hj,HH.out,fun hh=>by omega⟩
   ·have m2: ¬(2*(i:Int)+1+1) <(n:Int):=by omega
    have m3:(n:Int)≤2*(i:Int)+1+1:=by omega
    have HM:=Lib.hid (show ∀k,0 <k→k <n→(k -1)/2=i→kv key l' (2*i+1)≤kv key l' k from fun k h0 h1 h2=>by
     obtain rfl:k=2*i+1:=by omega
     exact Int.le_refl _)
    clear m2
    go_wp2_with fail
    obtain ⟨c2,hc2⟩: ∃c,c=decide (kv key l' (2*i+1) <kv key l' i):=⟨_,rfl⟩
    have HC2:=Lib.hid hc2
    rcases Bool.eq_false_or_eq_true c2 with rfl |rfl
    ·have hlt:=of_decide_eq_true hc2.symm
     have HD2:=Lib.hid (HD.out.step (j:=2*i+1) (by omega) (by omega) (by omega) hlt HM.out)
     clear hc2 hlt
     refine (qLess_at HQ'.out HL.out HF.out HALL'.out (2*i+1) i (by omega) (by omega) _ _ (by omega) (by omega) true HC2.out).mono ?_
     rintro e w2 ⟨rfl,hb2⟩
     have HQ2:=Lib.hid (HQ'.out.up hb2)
     have HST2:=Lib.hid (HST.out.trans (.of_below hb2))
     clear hb2
     go_wp2_with fail
     refine (qSwap_at HQ2.out i (2*i+1) (by omega) (by omega) _ _ (by omega) (by omega)).mono ?_
     rintro e w3 ⟨rfl,hq3,hg3⟩
     have HQ3:=Lib.hid hq3
     have HST3:=Lib.hid (HST2.out.trans (.of_grown hg3))
     clear hq3 hg3
     go_wp2
     go_roundw
     case rel=>exact ⟨2*i+1,_,by go_num,HD2,HQ3,HST3,by omega,Lib.hid (fun hh=>by omega)⟩
     case measure=>simp [intOf];omega
    ·have hnl:=of_decide_eq_false hc2.symm
     have HH:=Lib.hid (HD.out.done fun k h0 h1 h2=>by have:=HM.out k h0 h1 h2;omega)
     clear hc2 hnl
     refine (qLess_at HQ'.out HL.out HF.out HALL'.out (2*i+1) i (by omega) (by omega) _ _ (by omega) (by omega) false HC2.out).mono ?_
     rintro e w2 ⟨rfl,hb2⟩
     have HQ2:=Lib.hid (HQ'.out.up hb2)
     have HST2:=Lib.hid (HST.out.trans (.of_below hb2))
     clear hb2
     go_wp2
     go_ret
     exact ⟨_,l',rfl,HQ2.out,HST2.out,HD.out.perm,fun j hj=>HD.out.tail j hj,HH.out,fun hh=>by omega⟩
  ·have m1:(n:Int)≤2*(i:Int)+1:=by omega
   have HH:=Lib.hid (dn_leaf HD.out (by omega))
   go_wp2
   go_ret
   exact ⟨_,l',rfl,HQ'.out,HST.out,HD.out.perm,fun j hj=>HD.out.tail j hj,HH.out,fun hh=>by obtain ⟨rfl,rfl⟩:=HE.out hh;exact ⟨decide_eq_false (by omega),rfl⟩⟩
end Go.Proofs.YtdmgpdanlfmadaaGreat
namespace Go.Proofs.YtdmgpdanlfmadaaGreat
open Go.RowKit Go.Shelf
set_option maxRecDepth 100000 in
set_option maxHeartbeats 4000000 in
theorem hUp_ok {W:World} {q base:Nat} {f:FuncId} {v:Value} {l:List Itm} {key:Itm→Int} {ok:Itm→Prop} (h:Que W q base f v l) (hL:LessF f key ok) (hf: ∀a w,(callFunc f a).run Tryz.prog w= .ok (.enter f a) w) (hall: ∀x ∈ l,ok x) (j0 n:Nat) (hn:n≤l.length) (hs:UpInv key l l n j0):
  Calls Tryz.prog 72 #[qI q, .int .i64 j0] W fun e w'=>e= .returned (.tuple #[])∧ ∃(l':List Itm),Que w' q base f v l'∧QStep W w' q v v∧l'.Perm l∧HeapFrom key l' n 0:=by
 have hlen:=h.len
 have hm1:=mLess q
 have hm2:=mSwap q
 have HS:=Lib.hid hs
 have HQ:=Lib.hid h
 have HL:=Lib.hid hL
 have HALL:=Lib.hid hall
 have HF:=Lib.hid hf
 clear h hL hall hs hf
 go_enter Tryz.func72,Tryz.ntmps72
 go_wp2
 go_loopw [1] (fun s wr=> ∃(j:Nat) (l':List Itm),s= .int .i64 j∧Hid (UpInv key l l' n j)∧Hid (Que wr q base f v l')∧Hid (QStep W wr q v v)) (fun s _=>(intOf s).toNat)
 case atStart=>exact ⟨j0,l,rfl,HS,HQ,Lib.hid (.of_below (Below.refl _ _))⟩
 case round=>
  obtain ⟨j,l',rfl,HD,HQ',HST⟩:=hrel
  have hll:=HD.out.len
  have hjn:=HD.out.jn
  have HALL':=Lib.hid (all_perm HALL.out HD.out.perm)
  rcases Nat.eq_zero_or_pos j with rfl |hj
  ·have HH:=Lib.hid (HD.out.done (.inl rfl))
   go_wp2
   go_end0
   exact ⟨rfl,l',HQ'.out,HST.out,HD.out.perm,HH.out⟩
  ·have j1:(0:Int)≤(j:Int) -1:=by omega
   have j2:(1:Int)≤(j:Int):=by omega
   have hne: ¬((j:Int) -1)/2=(j:Int):=by omega
   have hne2:(((j:Int) -1)/2==(j:Int))=false:=by simpa using hne
   obtain ⟨c2,hc2⟩: ∃c,c=decide (kv key l' j <kv key l' ((j -1)/2)):=⟨_,rfl⟩
   have HC2:=Lib.hid hc2
   rcases Bool.eq_false_or_eq_true c2 with rfl |rfl
   ·have hlt:=of_decide_eq_true hc2.symm
    have HD2:=Lib.hid (HD.out.step hj hlt)
    clear hc2 hlt
    go_wp2_with fail
    refine (qLess_at HQ'.out HL.out HF.out HALL'.out j ((j -1)/2) (by omega) (by omega) _ _ (by omega) (by omega) true HC2.out).mono ?_
    rintro e w1 ⟨rfl,hb1⟩
    have HQ1:=Lib.hid (HQ'.out.up hb1)
    have HST1:=Lib.hid (HST.out.trans (.of_below hb1))
    clear hb1
    go_wp2_with fail
    refine (qSwap_at HQ1.out ((j -1)/2) j (by omega) (by omega) _ _ (by omega) (by omega)).mono ?_
    rintro e w2 ⟨rfl,hq3,hg3⟩
    have HQ2:=Lib.hid hq3
    have HST2:=Lib.hid (HST1.out.trans (.of_grown hg3))
    clear hq3 hg3
    go_wp2
    go_roundw
    case rel=>exact ⟨(j -1)/2,_,by rw [show ((j:Int) -1)/2=(((j -1)/2:Nat):Int) by omega],HD2,HQ2,HST2⟩
    case measure=>simp [intOf];omega
   ·have hnl:=of_decide_eq_false hc2.symm
    have HH:=Lib.hid (HD.out.done (.inr (by omega)))
    clear hc2 hnl
    go_wp2_with fail
    refine (qLess_at HQ'.out HL.out HF.out HALL'.out j ((j -1)/2) (by omega) (by omega) _ _ (by omega) (by omega) false HC2.out).mono ?_
    rintro e w1 ⟨rfl,hb1⟩
    have HQ1:=Lib.hid (HQ'.out.up hb1)
    have HST1:=Lib.hid (HST.out.trans (.of_below hb1))
    clear hb1
    go_wp2
    go_end0
    exact ⟨rfl,l',HQ1.out,HST1.out,HD.out.perm,HH.out⟩
theorem hDown_at {W:World} {q base:Nat} {f:FuncId} {v:Value} {l:List Itm} {key:Itm→Int} {ok:Itm→Prop} (h:Que W q base f v l) (hL:LessF f key ok) (hf: ∀a w,(callFunc f a).run Tryz.prog w= .ok (.enter f a) w) (hall: ∀x ∈ l,ok x) (i0 n:Nat) (hi0:i0≤4194304) (hn:n≤l.length) (hh:HeapFrom key l n (i0+1)) (a b:Int) (ha:a=(i0:Int)) (hb:b=(n:Int)):
  Calls Tryz.prog 49 #[qI q, .int .i64 a, .int .i64 b] W fun e w'=> ∃(b:Bool) (l':List Itm),e= .returned (.bool b)∧Que w' q base f v l'∧QStep W w' q v v∧(l'.Perm l∧(∀j,n≤j→l'[j]? =l[j]?)∧HeapFrom key l' n i0∧(n≤2*i0+1→b=false∧l'=l)):=by
 subst ha hb
 exact hDown_ok h hL hf hall i0 n hi0 hn hh
set_option maxRecDepth 100000 in
set_option maxHeartbeats 4000000 in
theorem hInit_ok {W:World} {q base:Nat} {f:FuncId} {v:Value} {l:List Itm} {key:Itm→Int} {ok:Itm→Prop} (h:Que W q base f v l) (hL:LessF f key ok) (hf: ∀a w,(callFunc f a).run Tryz.prog w= .ok (.enter f a) w) (hall: ∀x ∈ l,ok x):
  Calls Tryz.prog 191 #[qI q] W fun e w'=>e= .returned (.tuple #[])∧ ∃(l':List Itm),Que w' q base f v l'∧QStep W w' q v v∧l'.Perm l∧HeapFrom key l' l'.length 0:=by
 have hlen:=h.len
 have hm:=mLen q
 have HQ:=Lib.hid h
 have HL:=Lib.hid hL
 have HALL:=Lib.hid hall
 have HF:=Lib.hid hf
 have HS:=Lib.hid (HeapFrom.none (key:=key) (l:=l) (n:=l.length) (s:=l.length/2) (by omega))
 clear h hL hall hf
 go_enter Tryz.func191,Tryz.ntmps191
 go_wp2_with fail
 refine (qLen_ok HQ.out).mono ?_
 rintro e w1 ⟨rfl,rfl⟩
 go_wp2
 go_loopw [3] (fun s wr=> ∃(k:Nat) (j:Int) (l':List Itm),s= .int .i64 j∧ -1≤j∧j <4194304∧Hid ((k:Int)=j+1)∧l'.length=l.length∧Hid (HeapFrom key l' l.length k)∧Hid (l'.Perm l)∧Hid (Que wr q base f v l')∧Hid (QStep W wr q v v)) (fun s _=>(intOf s+1).toNat)
 case atStart=>exact ⟨l.length/2,(l.length:Int)/2 -1,l,rfl,by omega,by omega,Lib.hid (by omega),rfl,HS,Lib.hid (List.Perm.refl _),HQ,Lib.hid (.of_below (Below.refl _ _))⟩
 case round=>
  obtain ⟨k,j,l',rfl,hj0,hj1,HK,hll,HH,HP,HQ',HST⟩:=hrel
  by_cases hj:0≤j
  ·obtain ⟨m,rfl⟩: ∃m:Nat,j=(m:Int):=⟨j.toNat,by omega⟩
   obtain rfl:k=m+1:=by have:=HK.out;omega
   go_wp2_with fail
   refine (hDown_at HQ'.out HL.out HF.out (all_perm HALL.out HP.out) m l.length (by omega) (by omega) HH.out _ _ rfl rfl).mono ?_
   rintro e w2 ⟨b,l2,rfl,hq2,hs2,hp2,_,hh2,_⟩
   have HQ2:=Lib.hid hq2
   have HS2:=Lib.hid (HST.out.trans hs2)
   have HP2:=Lib.hid (hp2.trans HP.out)
   have hl2:l2.length=l.length:=by rw [hp2.length_eq];exact hll
   have HH2:=Lib.hid hh2
   clear hq2 hs2 hp2 hh2
   go_wp2
   go_roundw
   case rel=>exact ⟨m,(m:Int) -1,l2,by go_num,by omega,by omega,Lib.hid (by omega),hl2,HH2,HP2,HQ2,HS2⟩
   case measure=>first |(simp [intOf];done) |(simp [intOf];omega)
  ·obtain rfl:j= -1:=by omega
   obtain rfl:k=0:=by have:=HK.out;omega
   go_wp2
   go_end0
   exact ⟨rfl,l',HQ'.out,HST.out,HP.out,by rw [hll];exact HH.out⟩
theorem pop_plain {key:Itm→Int} {l l2:List Itm} {m:Nat} (hm:l.length=m+1) (hh:HeapFrom key l l.length 0) (hp:l2.Perm (swp l 0 m)) (ht: ∀j,m≤j→l2[j]? =(swp l 0 m)[j]?) (h2:HeapFrom key l2 m 0):
  ∃x l3,l2=l3++ [x]∧l3.length=m∧(x::l3).Perm l∧HeapFrom key l3 l3.length 0∧ ∀y ∈ l,key x≤key y:=by
 obtain ⟨x,hx⟩:=get_lt (l:=l) (k:=0) (by omega)
 have hlast:l2[m]? =some x:=by rw [ht m (Nat.le_refl _),swp_get (by omega) (by omega),if_pos rfl,hx]
 have hl2:l2.length=m+1:=by rw [hp.length_eq,swp_len,hm]
 have e:l2=l2.take m++ [x]:=by
  have:=take_next hlast
  rw [←this,List.take_of_length_le (by omega)]
 refine ⟨x,l2.take m,e,by simp;omega, ?_, ?_, ?_⟩
 ·have h1:(x::l2.take m).Perm l2:=by
   have:=(List.perm_append_singleton x (l2.take m)).symm
   rw [←e] at this
   exact this
  exact (h1.trans hp).trans (swp_perm l 0 m)
 ·have hlm:(l2.take m).length=m:=by simp;omega
  rw [hlm]
  rw [e] at h2
  exact (heap_append (by rw [hlm];exact Nat.le_refl _)).1 h2
 ·intro y hy
  obtain ⟨j,hj⟩:=List.mem_iff_getElem?.1 hy
  have:=heap_min hh j (List.getElem?_eq_some_iff.1 hj).1
  rwa [kv_at hx,kv_at hj] at this
theorem swap_heap {key:Itm→Int} {l:List Itm} {m:Nat} (hm:l.length=m+1) (hh:HeapFrom key l l.length 0):HeapFrom key (swp l 0 m) m 1:=fun j h0 h1 h2=>by
 rw [kv_swp (by omega) (by omega),kv_swp (by omega) (by omega),if_neg (by omega),if_neg (by omega),if_neg (by omega),if_neg (by omega)]
 exact hh j h0 (by omega) (Nat.zero_le _)
set_option maxRecDepth 100000 in
set_option maxHeartbeats 4000000 in
theorem hPop_ok {W:World} {q base:Nat} {f:FuncId} {v:Value} {l:List Itm} {key:Itm→Int} {ok:Itm→Prop} (h:Que W q base f v l) (hL:LessF f key ok) (hf: ∀a w,(callFunc f a).run Tryz.prog w= .ok (.enter f a) w) (hall: ∀x ∈ l,ok x) (hh:HeapFrom key l l.length 0) (hpos:0 <l.length):
  Calls Tryz.prog 26 #[qI q] W fun e w'=> ∃(x:Itm) (l':List Itm) (v':Value),e= .returned (.iface 245 x.val)∧Que w' q base f v' l'∧QStep W w' q v v'∧(x::l').Perm l∧HeapFrom key l' l'.length 0∧ ∀y ∈ l,key x≤key y:=by
 obtain ⟨m,hm⟩: ∃m,l.length=m+1:=⟨l.length -1,by omega⟩
 have hlen:=h.len
 have hm1:=mLen q
 have hm2:=mSwap q
 have hm3:=mPop q
 have HQ:=Lib.hid h
 have HL:=Lib.hid hL
 have HALL:=Lib.hid hall
 have HF:=Lib.hid hf
 have HH:=Lib.hid hh
 have HM:=Lib.hid hm
 have HSW:=Lib.hid (swap_heap hm hh)
 clear h hL hall hf hh hpos
 go_enter Tryz.func26,Tryz.ntmps26
 go_wp2_with fail
 refine (qLen_ok HQ.out).mono ?_
 rintro e w1 ⟨rfl,rfl⟩
 rw [hm]
 have hmb:m≤4194304:=by omega
 clear hm
 go_wp2_with fail
 refine (qSwap_at HQ.out 0 m (by have:=HM.out;omega) (by have:=HM.out;omega) _ _ (by omega) (by omega)).mono ?_
 rintro e w2 ⟨rfl,hq2,hg2⟩
 have HQ2:=Lib.hid hq2
 have HS2:=Lib.hid (QStep.of_grown (q:=q) hg2)
 clear hq2 hg2
 go_wp2_with fail
 refine (hDown_at HQ2.out HL.out HF.out (all_perm HALL.out (swp_perm l 0 m)) 0 m (by omega) (by rw [swp_len];have:=HM.out;omega) HSW.out _ _ (by omega) (by omega)).mono ?_
 rintro e w3 ⟨b,l2,rfl,hq3,hs3,hp3,ht3,hh3,_⟩
 obtain ⟨x,l3,rfl,hl3,hp,hh4,hmin⟩:=pop_plain HM.out HH.out hp3 ht3 hh3
 have HQ3:=Lib.hid hq3
 have HS3:=Lib.hid (HS2.out.trans hs3)
 have HR:=Lib.hid (And.intro hp (And.intro hh4 hmin))
 clear hq3 hs3 hp3 ht3 hh3 hp hh4 hmin
 go_wp2_with fail
 refine (qPop_ok HQ3.out).mono ?_
 rintro e w4 ⟨rfl,v',hq4,hs4⟩
 have HQ4:=Lib.hid hq4
 have HS4:=Lib.hid (HS3.out.trans hs4)
 clear hq4 hs4
 go_wp2
 go_ret
 exact ⟨x,l3,v',rfl,HQ4.out,HS4.out,HR.out.1,HR.out.2.1,HR.out.2.2⟩
set_option maxRecDepth 100000 in
set_option maxHeartbeats 4000000 in
theorem hFix_ok {W:World} {q base:Nat} {f:FuncId} {v:Value} {l:List Itm} {x:Itm} {key:Itm→Int} {ok:Itm→Prop} (h:Que W q base f v (l++ [x])) (hL:LessF f key ok) (hf: ∀a w,(callFunc f a).run Tryz.prog w= .ok (.enter f a) w) (hall: ∀y ∈ l++ [x],ok y) (hh:HeapFrom key l l.length 0):
  Calls Tryz.prog 194 #[qI q, .int .i64 l.length] W fun e w'=>e= .returned (.tuple #[])∧ ∃(l':List Itm),Que w' q base f v l'∧QStep W w' q v v∧l'.Perm (l++ [x])∧HeapFrom key l' l'.length 0:=by
 have hlen:=h.len
 have hln:(l++ [x]).length=l.length+1:=by simp
 have hm1:=mLen q
 have HQ:=Lib.hid h
 have HL:=Lib.hid hL
 have HALL:=Lib.hid hall
 have HF:=Lib.hid hf
 have HU:=Lib.hid (UpInv.start (key:=key) (l:=l++ [x]) (n:=l.length) (by simp) ((heap_append (Nat.le_refl _)).2 hh))
 have HD:=Lib.hid (HeapFrom.none (key:=key) (l:=l++ [x]) (n:=l.length+1) (s:=l.length+1) (by omega))
 have HLN:=Lib.hid hln
 rw [hln] at hlen
 clear h hL hall hf hh
 go_enter Tryz.func194,Tryz.ntmps194
 go_wp2_with fail
 refine (qLen_ok HQ.out).mono ?_
 rintro e w1 ⟨rfl,rfl⟩
 rw [hln]
 clear hln
 go_wp2_with fail
 refine (hDown_at HQ.out HL.out HF.out HALL.out l.length (l.length+1) (by omega) (by rw [HLN.out];exact Nat.le_refl _) HD.out _ _ rfl (by omega)).mono ?_
 rintro e w2 ⟨b,l2,rfl,hq2,hs2,_,_,_,hb2⟩
 obtain ⟨rfl,rfl⟩:=hb2 (by omega)
 have HQ2:=Lib.hid hq2
 have HS2:=Lib.hid hs2
 clear hq2 hs2 hb2
 go_wp2_with fail
 refine (hUp_ok HQ2.out HL.out HF.out HALL.out l.length (l.length+1) (by rw [HLN.out];exact Nat.le_refl _) HU.out).mono ?_
 rintro e w3 ⟨rfl,l3,hq3,hs3,hp3,hh3⟩
 have HQ3:=Lib.hid hq3
 have HS3:=Lib.hid (HS2.out.trans hs3)
 have HP3:=Lib.hid hp3
 have HH3:=Lib.hid hh3
 clear hq3 hs3 hp3 hh3
 go_wp2
 go_end0
 exact ⟨rfl,l3,HQ3.out,HS3.out,HP3.out,by rw [HP3.out.length_eq,HLN.out];exact HH3.out⟩
end Go.Proofs.YtdmgpdanlfmadaaGreat
namespace Go.Proofs.YtdmgpdanlfmadaaGreat
open Go.RowKit Go.Shelf
structure Spn where
 lo:Int
 len:Int
def Spn.cells (x:Spn):List Value:= [.int .u64 x.lo, .int .u64 x.len]
theorem oneSpn (l:List Spn): ∀u ∈ l.flatMap Spn.cells,u.oneCell'=true:=by
 intro u hu
 obtain ⟨x,_,hx⟩:=List.mem_flatMap.1 hu
 simp [Spn.cells] at hx
 rcases hx with rfl |rfl<;>rfl
theorem spn_at {w:World} {B:Nat} {A:Option Addr} {l:List Spn} {k:Nat} {x:Spn} (h:Rd w B 2 A l.length (l.flatMap Spn.cells)) (hk:l[k]? =some x):
  ∃b o,A=some ⟨b,o,none⟩∧b <B∧w.cell? ⟨b,o+k*2,none⟩=some (.int .u64 x.lo)∧w.cell? ⟨b,o+k*2+1,none⟩=some (.int .u64 x.len):=by
 obtain ⟨b,o,e,hb,hc⟩:=Rd.get (f:=Spn.cells) (sz:=2) (fun _=>rfl) h hk
 exact ⟨b,o,e,hb,hc 0 _ rfl,hc 1 _ rfl⟩
def itemsOf (l:List Spn):List Itm:=l.mapIdx fun i s=>⟨s.lo,s.len,(i:Int)⟩
theorem itemsOf_next {l:List Spn} {k:Nat} {x:Spn} (h:l[k]? =some x):itemsOf (l.take (k+1))=itemsOf (l.take k)++ [⟨x.lo,x.len,(k:Int)⟩]:=by
 have hk:=(List.getElem?_eq_some_iff.1 h).1
 rw [take_next h]
 unfold itemsOf
 rw [List.mapIdx_concat]
 simp [Nat.min_eq_left (Nat.le_of_lt hk)]
theorem itemsOf_len (l:List Spn):(itemsOf l).length=l.length:=by simp [itemsOf]
theorem itemsOf_at {l:List Spn} {k:Nat} {x:Itm}:(itemsOf l)[k]? =some x↔ ∃s,l[k]? =some s∧x=⟨s.lo,s.len,(k:Int)⟩:=by
 unfold itemsOf
 rw [List.getElem?_mapIdx]
 cases l[k]? <;>simp [eq_comm]
theorem itemsOf_ok {l:List Spn} (h: ∀s ∈ l,okSp s.lo s.len): ∀x ∈ itemsOf l,okItm x:=by
 intro x hx
 obtain ⟨k,hk⟩:=List.mem_iff_getElem?.1 hx
 obtain ⟨s,hs,rfl⟩:=itemsOf_at.1 hk
 exact h s (List.mem_of_getElem? hs)
structure OffQ (B:Nat) (W V:World):Prop where
 os:V.os=W.os
 tape:V.tape=W.tape
 output:V.output=W.output
 size:W.heap.size≤V.heap.size
 block: ∀k,k <W.heap.size→(k <B∨((∀cs fr,W.heap[k]? ≠some (.cells cs 293 fr))∧(∀cs fr,W.heap[k]? ≠some (.cells cs 245 fr))))→V.heap[k]? =W.heap[k]?
structure KeepQ (W V:World):Prop where
 os:V.os=W.os
 tape:V.tape=W.tape
 output:V.output=W.output
 size:W.heap.size≤V.heap.size
 block: ∀(k:Nat) (cs:Array Value) (t:TypeId) (fr:Nat × Nat),W.heap[k]? =some (.cells cs t fr)→(t=293∨t=245)→V.heap[k]? =W.heap[k]?
theorem OffQ.of_below {B:Nat} {W V:World} (h:Below W.heap.size W V):OffQ B W V:=⟨h.os,h.tape,h.output,h.size,fun k hk _=>h.block k hk⟩
theorem KeepQ.of_below {W V:World} (h:Below W.heap.size W V):KeepQ W V:=⟨h.os,h.tape,h.output,h.size,fun k _ _ _ hh _=>h.block k (Array.getElem?_eq_some_iff.1 hh).1⟩
theorem KeepQ.trans {W V U:World} (h:KeepQ W V) (k:KeepQ V U):KeepQ W U:=⟨k.os.trans h.os,k.tape.trans h.tape,k.output.trans h.output,Nat.le_trans h.size k.size,fun b cs t fr hh ht=>(k.block b cs t fr ((h.block b cs t fr hh ht).trans hh) ht).trans (h.block b cs t fr hh ht)⟩
theorem QStep.offq {W V:World} {q base B:Nat} {f:FuncId} {v v':Value} {l:List Itm} (h:Que W q base f v l) (hs:QStep W V q v v') (hB:B≤q):OffQ B W V:=by
 have hqb:=h.qb
 refine ⟨hs.os,hs.tape,hs.output,hs.size,fun k hk hc=>hs.block k hk (fun e=> ?_) (fun e=> ?_)⟩
 ·subst e
  rcases hc with hc |⟨hc,_⟩
  ·omega
  ·exact hc _ _ h.bk
 ·rcases h.own.2 with ⟨rfl,_⟩ |⟨g,cap,cur,rfl,hb,hh,_⟩
  ·simp [Value.ownBlock] at e
  ·have e2:k=g:=by simpa [Value.ownBlock] using e
   subst e2
   rcases hc with hc |⟨_,hc⟩
   ·omega
   ·exact hc _ _ hh
theorem own_keepq {W V:World} {base n:Nat} {v:Value} {xs:List Value} (h:W.ownsRow base 245 3 v n xs) (hk:KeepQ W V):V.ownsRow base 245 3 v n xs:=by
 refine ⟨h.1, ?_⟩
 rcases h.2 with h2 |⟨g,cap,cur,rfl,hb,hh,r⟩
 ·exact .inl h2
 ·exact .inr ⟨g,cap,cur,rfl,hb,(hk.block g _ _ _ hh (.inr rfl)).trans hh,r⟩
theorem Que.keepq {W V:World} {q base:Nat} {f:FuncId} {v:Value} {l:List Itm} (h:Que W q base f v l) (hk:KeepQ W V):Que V q base f v l:=by
 refine ⟨(hk.block q _ _ _ h.bk (.inl rfl)).trans h.bk,⟨h.own.1, ?_⟩,h.qb,h.len⟩
 rcases h.own.2 with h2 |⟨g,cap,cur,rfl,hb,hh,r⟩
 ·exact .inl h2
 ·exact .inr ⟨g,cap,cur,rfl,hb,(hk.block g _ _ _ hh (.inr rfl)).trans hh,r⟩
structure Cb (fv:FuncId) (lb:Array Value) (B:Nat) (its:List Itm) (J:List Itm→World→Prop):Prop where
 ent: ∀a w,(callFunc fv a).run Tryz.prog w= .ok (.enter fv a) w
 st: ∀d W V,J d W→OffQ B W V→J d V
 call: ∀(d op r:List Itm) (x:Itm) (A:Option Addr) (c:Nat) (W:World),okItm x→(∀y ∈ d,y.lo≤x.lo)→op.Perm (d.filter fun y=>decide (x.lo≤lastOf y))→(d++x::r).Perm its→B≤W.heap.size→J d W→W.ownsRow 0 245 3 (.slice A op.length c) op.length (op.flatMap Itm.cells)→
  Calls Tryz.prog fv (#[x.val, .slice A op.length c]++lb) W fun e W'=>e= .returned (.tuple #[])∧J (d++ [x]) W'∧KeepQ W W'
structure VSt (W:World) (q:Nat) (its:List Itm) (J:List Itm→World→Prop) (d lw lo:List Itm) (v1 v2:Value) (m:Int):Prop where
 q1:Que W q (q+2) 189 v1 lw
 q2:Que W (q+1) (q+2) 190 v2 lo
 sep: ∀g,v1.ownBlock=some g→v2.ownBlock≠some g
 h1:HeapFrom (·.lo) lw lw.length 0
 h2:HeapFrom lastOf lo lo.length 0
 perm:(d++lw).Perm its
 bw: ∀y ∈ lw,m≤y.lo
 bd: ∀y ∈ d,y.lo≤m
 op:lo.Perm (d.filter fun y=>decide (m≤lastOf y))
 j:J d W
structure VIn (W:World) (q:Nat) (its:List Itm) (J:List Itm→World→Prop) (d lw:List Itm) (x:Itm) (cur:List Itm) (v1 v2:Value):Prop where
 q1:Que W q (q+2) 189 v1 lw
 q2:Que W (q+1) (q+2) 190 v2 cur
 sep: ∀g,v1.ownBlock=some g→v2.ownBlock≠some g
 h1:HeapFrom (·.lo) lw lw.length 0
 h2:HeapFrom lastOf cur cur.length 0
 perm:(d++x::lw).Perm its
 bw: ∀y ∈ lw,x.lo≤y.lo
 bd: ∀y ∈ d,y.lo≤x.lo
 sub: ∀y ∈ cur,y ∈ d
 op: ∃pp,(∀y ∈ pp,lastOf y <x.lo)∧((pp++cur).filter fun y=>decide (x.lo≤lastOf y)).Perm (d.filter fun y=>decide (x.lo≤lastOf y))
 j:J d W
section
variable {W V:World} {q B:Nat} {its d lw lw' lo cur cur':List Itm} {J:List Itm→World→Prop} {v1 v2 v':Value} {m:Int} {x y:Itm} {fv:FuncId} {lb:Array Value}
theorem VSt.up (h:VSt W q its J d lw lo v1 v2 m) (hc:Cb fv lb B its J) (hb:Below W.heap.size W V):VSt V q its J d lw lo v1 v2 m:=
 ⟨h.q1.up hb,h.q2.up hb,h.sep,h.h1,h.h2,h.perm,h.bw,h.bd,h.op,hc.st _ _ _ h.j (.of_below hb)⟩
theorem VIn.up (h:VIn W q its J d lw x cur v1 v2) (hc:Cb fv lb B its J) (hb:Below W.heap.size W V):VIn V q its J d lw x cur v1 v2:=
 ⟨h.q1.up hb,h.q2.up hb,h.sep,h.h1,h.h2,h.perm,h.bw,h.bd,h.sub,h.op,hc.st _ _ _ h.j (.of_below hb)⟩
theorem VSt.take_ (h:VSt W q its J d lw lo v1 v2 m) (hc:Cb fv lb B its J) (hB:B≤q) (hq:Que V q (q+2) 189 v' lw') (hs:QStep W V q v1 v') (hp:(x::lw').Perm lw) (hh:HeapFrom (·.lo) lw' lw'.length 0) (hm: ∀y ∈ lw,x.lo≤y.lo):VIn V q its J d lw' x lo v' v2:=by
 obtain ⟨k1,k2⟩:=h.q2.other hs (by omega) (by have:=h.q1.qb;omega) (fun g e=>⟨(own_lt0 h.q1.own e).1,h.sep g e⟩)
 have hxm:m≤x.lo:=h.bw x (hp.mem_iff.1 (by simp))
 refine ⟨hq,k1,k2,hh,h.h2,((List.Perm.append_left d hp).trans h.perm),fun y hy=>hm y (hp.mem_iff.1 (by simp [hy])),fun y hy=>Int.le_trans (h.bd y hy) hxm,fun y hy=>(List.mem_filter.1 (h.op.mem_iff.1 hy)).1,⟨[],by simp, ?_⟩,hc.st _ _ _ h.j (hs.offq h.q1 hB)⟩
 rw [List.nil_append]
 have:=h.op.filter (fun y=>decide (x.lo≤lastOf y))
 rw [List.filter_filter] at this
 refine this.trans (List.Perm.of_eq ?_)
 congr 1
 funext y
 by_cases hy:x.lo≤lastOf y
 ·simp [hy,Int.le_trans hxm hy]
 ·simp [hy]
theorem VIn.drop_ (h:VIn W q its J d lw x cur v1 v2) (hc:Cb fv lb B its J) (hB:B≤q) (hq:Que V (q+1) (q+2) 190 v' cur') (hs:QStep W V (q+1) v2 v') (hp:(y::cur').Perm cur) (hh:HeapFrom lastOf cur' cur'.length 0) (hy:lastOf y <x.lo):VIn V q its J d lw x cur' v1 v':=by
 obtain ⟨k1,k2⟩:=h.q1.other hs (by omega) (by have:=h.q2.qb;omega) (fun g e=>⟨(own_lt0 h.q2.own e).1,fun e2=>h.sep g e2 e⟩)
 obtain ⟨pp,hpp,hperm⟩:=h.op
 refine ⟨k1,hq,fun g e e2=>k2 g e2 e,h.h1,hh,h.perm,h.bw,h.bd,fun z hz=>h.sub z (hp.mem_iff.1 (by simp [hz])),⟨pp++ [y],fun z hz=> ?_, ?_⟩,hc.st _ _ _ h.j (hs.offq h.q2 (by omega))⟩
 ·rcases List.mem_append.1 hz with hz |hz
  ·exact hpp z hz
  ·rw [List.mem_singleton] at hz;rw [hz];exact hy
 ·refine List.Perm.trans ?_ hperm
  rw [List.append_assoc]
  exact (List.Perm.append_left pp hp).filter _
theorem VIn.allOk (h:VIn W q its J d lw x cur v1 v2) (ha: ∀y ∈ its,okItm y): ∀y ∈ cur,okItm y:=fun y hy=>ha y (h.perm.mem_iff.1 (by simp [h.sub y hy]))
theorem Blk.qstep {k:Nat} {t:TypeId} {cs:Array Value} {v:Value} (h:Blk W k t cs) (hs:QStep W V q v v') (h1:k≠q) (h2:v.ownBlock≠some k):Blk V k t cs:=(hs.block k h.lt h1 (fun e=>h2 e.symm)).trans h
theorem Blk.keepq {k:Nat} {cs:Array Value} (h:Blk W k 245 cs) (hk:KeepQ W V):Blk V k 245 cs:=(hk.block k _ _ _ h (.inr rfl)).trans h
theorem VIn.opened (h:VIn W q its J d lw x cur v1 v2) (hx: ∀y ∈ cur,x.lo≤lastOf y):cur.Perm (d.filter fun y=>decide (x.lo≤lastOf y)):=by
 obtain ⟨pp,hpp,hperm⟩:=h.op
 refine List.Perm.trans (List.Perm.of_eq ?_) hperm
 rw [List.filter_append,List.filter_eq_nil_iff.2 (fun z hz=>by have:=hpp z hz;simp;omega),List.nil_append,List.filter_eq_self.2 (fun z hz=>by simpa using hx z hz)]
theorem VIn.called (h:VIn W q its J d lw x cur v1 v2) (hk:KeepQ W V) (hj:J (d++ [x]) V):Que V q (q+2) 189 v1 lw∧Que V (q+1) (q+2) 190 v2 cur∧J (d++ [x]) V:=⟨h.q1.keepq hk,h.q2.keepq hk,hj⟩
theorem VIn.next {U:World} (h:VIn W q its J d lw x cur v1 v2) (hx: ∀y ∈ cur,x.lo≤lastOf y) (hox:okItm x) (hc:Cb fv lb B its J) (hB:B≤q) (q1:Que V q (q+2) 189 v1 lw) (q2:Que V (q+1) (q+2) 190 v2 cur) (hj:J (d++ [x]) V)
  (hq:Que U (q+1) (q+2) 190 v' lo) (hs:QStep V U (q+1) v2 v') (hp:lo.Perm (cur++ [x])) (hh:HeapFrom lastOf lo lo.length 0):VSt U q its J (d++ [x]) lw lo v1 v' x.lo:=by
 obtain ⟨k1,k2⟩:=q1.other hs (by omega) (by have:=q2.qb;omega) (fun g e=>⟨(own_lt0 q2.own e).1,fun e2=>h.sep g e2 e⟩)
 refine ⟨k1,hq,fun g e e2=>k2 g e2 e,h.h1,hh,by rw [List.append_assoc];exact h.perm,h.bw,fun y hy=> ?_, ?_,hc.st _ _ _ hj (hs.offq q2 (by omega))⟩
 ·rcases List.mem_append.1 hy with hy |hy
  ·exact h.bd y hy
  ·rw [List.mem_singleton] at hy;rw [hy];exact Int.le_refl _
 ·refine hp.trans ?_
  rw [List.filter_append]
  have e: [x].filter (fun y=>decide (x.lo≤lastOf y))= [x]:=by
   have h1:=hox.2.1
   have:x.lo≤lastOf x:=by unfold lastOf;omega
   simp [this]
  rw [e]
  exact List.Perm.append_right _ (h.opened hx)
end
end Go.Proofs.YtdmgpdanlfmadaaGreat
namespace Go.Proofs.YtdmgpdanlfmadaaGreat
open Go.RowKit Go.Shelf
attribute [local go_sem] ext_cell
theorem ent_byLo: ∀a w,(callFunc 189 a).run Tryz.prog w= .ok (.enter 189 a) w:=enters_of Tryz.func189 (by kernel_rfl) rfl
theorem ent_byLast: ∀a w,(callFunc 190 a).run Tryz.prog w= .ok (.enter 190 a) w:=enters_of Tryz.func190 (by kernel_rfl) rfl
def wlen (w:World) (q:Nat):Nat:=match w.cell? ⟨q,0,none⟩ with
 |some (.slice _ n _)=>n
 |_=>0
theorem Que.wlen {W:World} {q base:Nat} {f:FuncId} {v:Value} {l:List Itm} (h:Que W q base f v l):wlen W q=l.length:=by
 obtain ⟨A,c,rfl,_⟩:=h.form
 unfold Go.Proofs.YtdmgpdanlfmadaaGreat.wlen
 rw [h.cells.1]
theorem qLen_b {W:World} {q base:Nat} {f:FuncId} {v:Value} {l:List Itm} (h:Que W q base f v l):Calls Tryz.prog 193 #[.pointer (some ⟨q,0,none⟩)] W fun e w'=>e= .returned (.int .i64 l.length)∧Below W.heap.size W w':=
 (qLen_ok h).mono fun _ _ ⟨he,hw⟩=>⟨he,hw▸Below.refl _ _⟩
theorem own_k {W:World} {base k:Nat} {t:TypeId} {A:Option Addr} {c:Nat} {l:List Spn} (hk:k≤l.length) (h:W.ownsRow base t 3 (.slice A k c) (itemsOf (l.take k)).length ((itemsOf (l.take k)).flatMap Itm.cells)):W.ownsRow base t 3 (.slice A k c) k ((itemsOf (l.take k)).flatMap Itm.cells):=by
 rwa [itemsOf_len,List.length_take,Nat.min_eq_left hk] at h
theorem own_k2 {W:World} {base k g cap:Nat} {t:TypeId} {l:List Spn} {xs:List Value} (hk:k≤l.length) (h:W.ownsRow base t 3 (.slice (some ⟨g,0,none⟩) (k+1) cap) (k+1) xs):W.ownsRow base t 3 (.slice (some ⟨g,0,none⟩) ((itemsOf (l.take k)).length+1) cap) ((itemsOf (l.take k)).length+1) xs:=by
 rwa [itemsOf_len,List.length_take,Nat.min_eq_left hk]
theorem hFix_at {W:World} {q base:Nat} {f:FuncId} {v:Value} {l:List Itm} {x:Itm} {key:Itm→Int} {ok:Itm→Prop} (h:Que W q base f v (l++ [x])) (hL:LessF f key ok) (hf: ∀a w,(callFunc f a).run Tryz.prog w= .ok (.enter f a) w) (hall: ∀y ∈ l++ [x],ok y) (hh:HeapFrom key l l.length 0) (a:Int) (ha:a=(l.length:Int)):
  Calls Tryz.prog 194 #[qI q, .int .i64 a] W fun e w'=>e= .returned (.tuple #[])∧ ∃(l':List Itm),Que w' q base f v l'∧QStep W w' q v v∧l'.Perm (l++ [x])∧HeapFrom key l' l'.length 0:=by
 subst ha
 exact hFix_ok h hL hf hall hh
theorem qLen_0 {W:World} {q base:Nat} {f:FuncId} {v:Value} {l:List Itm} (h:Que W q base f v l) (h0:Hid (l.length=0)):Calls Tryz.prog 193 #[.pointer (some ⟨q,0,none⟩)] W fun e w'=>e= .returned (.int .i64 0)∧Below W.heap.size W w':=by
 have:=qLen_b h
 rw [h0.out] at this
 exact this
structure LSt (W0 W:World) (l:List Spn) (k:Nat) (v1:Value):Prop where
 q1:Que W W0.heap.size (W0.heap.size+2) 189 v1 (itemsOf (l.take k))
 q2:Que W (W0.heap.size+1) (W0.heap.size+2) 190 (.slice none 0 0) []
 bel:Below W0.heap.size W0 W
theorem LSt.start (W:World) (l:List Spn):LSt W ((W.alloc (.cells #[.slice none 0 0, .func (.func 189) #[] #[]] 293)).alloc (.cells #[.slice none 0 0, .func (.func 190) #[] #[]] 293)) l 0 (.slice none 0 0):=by
 refine ⟨⟨(Blk.new W _ _).alloc _,World.ownsRow_nil _ _ _ _,by omega,by simp [itemsOf]⟩,⟨?_,World.ownsRow_nil _ _ _ _,by omega,by simp⟩,Below.then_ (below_one _ _) (below_one _ _)⟩
 have:=Blk.new (W.alloc (.cells #[.slice none 0 0, .func (.func 189) #[] #[]] 293)) 293 #[.slice none 0 0, .func (.func 190) #[] #[]]
 simpa using this
theorem LSt.up {W0 W V:World} {l:List Spn} {k:Nat} {v1:Value} (h:LSt W0 W l k v1) (hb:Below W.heap.size W V):LSt W0 V l k v1:=⟨h.q1.up hb,h.q2.up hb,Below.then_ h.bel hb⟩
theorem LSt.push {W0 W V:World} {l:List Spn} {k:Nat} {v1 v':Value} {s:Spn} (h:LSt W0 W l k v1) (hs:l[k]? =some s) (hq:Que V W0.heap.size (W0.heap.size+2) 189 v' (itemsOf (l.take k)++ [⟨s.lo,s.len,(k:Int)⟩])) (hst:QStep W V W0.heap.size v1 v'):LSt W0 V l (k+1) v':=by
 obtain ⟨k1,_⟩:=h.q2.other hst (by omega) (by omega) (fun g e=>⟨(own_lt0 h.q1.own e).1,by simp [Value.ownBlock]⟩)
 refine ⟨by rw [itemsOf_next hs];exact hq,k1,h.bel.trans (hst.below (Nat.le_refl _) (fun g e=>by have:=(own_lt0 h.q1.own e).1;omega) h.bel.size)⟩
set_option maxRecDepth 100000 in
set_option maxHeartbeats 16000000 in
theorem visit_ok {W:World} {l:List Spn} {A:Option Addr} {cp:Nat} {fv:FuncId} {lb:Array Value} {J:List Itm→World→Prop} (hlen:l.length≤1048576) (hsp: ∀s ∈ l,okSp s.lo s.len) (hR:Rd W W.heap.size 2 A l.length (l.flatMap Spn.cells))
  (hc:Cb fv lb W.heap.size (itemsOf l) J) (hj:J [] W):
  Calls Tryz.prog 142 #[.slice A l.length cp, .func (.func fv) #[] lb] W fun e w'=>e= .returned (.tuple #[])∧ ∃d,d.Perm (itemsOf l)∧J d w':=by
 obtain ⟨ii,hi,hz0,hz1,hz2⟩:=info_parts infoItem
 have HR:=Lib.hid hR
 have HC:=Lib.hid hc
 have HJ:=Lib.hid hj
 have HSP:=Lib.hid hsp
 have HS:=LSt.start W l
 clear hR hc hj hsp
 go_enter Tryz.func142,Tryz.ntmps142
 go_upto_region 1 with (fail)
 generalize World.alloc (World.alloc W _) _=W0 at HS ⊢
 have HS0:=Lib.hid HS
 clear HS
 go_wp2
 go_loopw [16] (fun i wr=> ∃(k:Nat) (v1:Value),k≤l.length∧i= .int .i64 k∧Hid (LSt W wr l k v1)) (fun i _=>l.length -(intOf i).toNat)
 case atStart=>exact ⟨0,_,Nat.zero_le _,rfl,HS0⟩
 case round=>
  obtain ⟨k,v1,hk,rfl,HL⟩:=hrel
  by_cases hlt:k <l.length
  ·obtain ⟨s,hs⟩:=get_lt hlt
   obtain ⟨b,o,rfl,hb,g0,g1⟩:=spn_at (HR.out.up HL.out.bel) hs
   have HX:=Lib.hid hs
   have k0:(0:Int)≤(k:Int):=by omega
   have k1:(k:Int) <(l.length:Int):=by omega
   clear hs
   go_upto_region 4 with (fail)
   have hbn:=below_one wr (.cells #[.int .u64 s.lo, .int .u64 s.len] 182)
   have bk:=Blk.new wr 182 #[.int .u64 s.lo, .int .u64 s.len]
   generalize World.alloc wr _=W1 at hbn bk ⊢
   have HL1:=Lib.hid (HL.out.up hbn)
   have p0:=bk.cell 0
   have p1:=bk.cell 1
   simp at p0 p1
   have hbl:=bk.lt
   obtain ⟨c0,c1,hz⟩:=HL1.out.q1.cells
   obtain ⟨A1,cc,rfl,_⟩:=HL1.out.q1.form
   rw [itemsOf_len,List.length_take,Nat.min_eq_left hk] at c0 HL1 HL
   clear hbn bk g0 g1 hb
   go_region_law ((refine step_append_lies _ (by rfl) (.tmp 25) (.tmp 29) _ (by rfl) (W.heap.size+2) 245 ii (.agg #[.int .u64 0, .int .u64 0, .int .i64 0]) 3 24 Tryz.underlying246 hi hz0 hz1 hz2 rfl (by decide) _ k _ (by rfl) (own_k hk ((HL1.out.q1.up (show Below W1.heap.size W1 _ from (by repeat (first |with_reducible exact Below.refl _ _ |with_reducible refine Below.drew ?_ |(with_reducible refine Below.alloc ?_ (by simp) _) |(with_reducible refine Below.setCell ?_ (by simp) _))))).own)) ⟨W1.heap.size,0,none⟩ 1 1 [.int .u64 s.lo, .int .u64 s.len, .int .i64 k] (by rfl) (by rfl) (World.news_of_block (heap_alloc_new W1 _)) (by intro u hu;simp at hu;rcases hu with rfl |rfl |rfl<;>rfl) (by omega) (by unfold maxLen;omega) (by omega) (by have:=HL1.out.bel.size;have:=HL1.out.q2.bk.lt;simp;omega) _ rfl ?_;intro g2 cap w7 hown hgrow hat hlt7;have hb7:=push_bk HL1.out.q1 (show Below W1.heap.size W1 _ from (by repeat (first |with_reducible exact Below.refl _ _ |with_reducible refine Below.drew ?_ |(with_reducible refine Below.alloc ?_ (by simp) _) |(with_reducible refine Below.setCell ?_ (by simp) _)))) hgrow;have HP:=Lib.hid (push_row (x:=⟨s.lo,s.len,(k:Int)⟩) HL1.out.q1 (show Below W1.heap.size W1 _ from (by repeat (first |with_reducible exact Below.refl _ _ |with_reducible refine Below.drew ?_ |(with_reducible refine Below.alloc ?_ (by simp) _) |(with_reducible refine Below.setCell ?_ (by simp) _)))) (own_k2 hk hown) hgrow hat (by rw [itemsOf_len];simp;omega));have c7:=hb7.1;have f7:=hb7.2;clear hown hgrow hat hb7))
   all_goals
    rw [itemsOf_len,List.length_take,Nat.min_eq_left hk] at HP
    have HL2:=Lib.hid (HL1.out.push HX.out HP.out.1 HP.out.2)
    clear c7 f7 p0 p1 c0 c1 hz hbl
    go_wp2
    go_roundw
    case rel=>exact ⟨k+1,_,by omega,by go_num,HL2⟩
    case measure=>simp [intOf];omega
  ·obtain rfl:k=l.length:=by omega
   have hq1:=HL.out.q1
   rw [List.take_length] at hq1
   have HQ1:=Lib.hid hq1
   have HALL:=Lib.hid (itemsOf_ok HSP.out)
   clear hq1
   go_wp2_with fail
   refine (hInit_ok HQ1.out byLo_ok ent_byLo HALL.out).mono ?_
   rintro e w1 ⟨rfl,lw,hq1,hs1,hp1,hh1⟩
   have hv2:=HL.out.q2.other hs1 (by omega) (by omega) (fun g e=>⟨(own_lt0 HQ1.out.own e).1,by simp [Value.ownBlock]⟩)
   have VS0:VSt w1 W.heap.size (itemsOf l) J [] lw [] v1 (.slice none 0 0) 0:=
    ⟨hq1,hv2.1,fun g _ e2=>by simp [Value.ownBlock] at e2,hh1,HeapFrom.none (by simp),by rw [List.nil_append];exact hp1,fun y hy=>(HALL.out y (hp1.mem_iff.1 hy)).1,by simp,by simp,
     HC.out.st _ _ _ HJ.out (.of_below (HL.out.bel.trans (hs1.below (Nat.le_refl _) (fun g e=>by have:=(own_lt0 HQ1.out.own e).1;omega) HL.out.bel.size)))⟩
   have HV0:=Lib.hid VS0
   clear hq1 hs1 hp1 hh1 hv2 VS0
   go_wp2
   go_loopw [9] (fun _ wr=> ∃(d lw lo:List Itm) (v1 v2:Value) (m:Int),Hid (VSt wr W.heap.size (itemsOf l) J d lw lo v1 v2 m)∧W.heap.size+1 <wr.heap.size) (fun _ wr=>wlen wr W.heap.size)
   case atStart=>exact ⟨_,_,_,_,_,_,HV0,HV0.out.q2.bk.lt⟩
   case round=>
    obtain ⟨d,lw,lo,v1,v2,m,HV,hsz⟩:=hrel
    have hwl:=HV.out.q1.wlen
    have hdl:d.length+lw.length=l.length:=by have:=HV.out.perm.length_eq;rw [List.length_append,itemsOf_len] at this;exact this
    rcases Nat.eq_zero_or_pos lw.length with h0 |h0
    ·have hnil:lw= []:=List.eq_nil_of_length_eq_zero h0
     subst hnil
     clear hwl
     go_wp2_with fail
     refine (qLen_ok HV.out.q1).mono ?_
     rintro e w2 ⟨rfl,rfl⟩
     go_wp2
     go_end0
     exact ⟨rfl,d,by have:=HV.out.perm;rwa [List.append_nil] at this,HV.out.j⟩
    ·have hpos:(0:Int) <(lw.length:Int):=by omega
     have HWL:=Lib.hid hwl
     clear hwl
     go_wp2_with fail
     refine (qLen_ok HV.out.q1).mono ?_
     rintro e w2 ⟨rfl,rfl⟩
     go_wp2_with fail
     have HALLW:=Lib.hid (show ∀y ∈ lw,okItm y from fun y hy=>HALL.out y (HV.out.perm.mem_iff.1 (by simp [hy])))
     refine (hPop_ok HV.out.q1 byLo_ok ent_byLo HALLW.out HV.out.h1 h0).mono ?_
     rintro e w3 ⟨x,lw',v1',rfl,hq3,hs3,hp3,hh3,hm3⟩
     have HI:=Lib.hid (HV.out.take_ HC.out (Nat.le_refl _) hq3 hs3 hp3 hh3 hm3)
     have HOX:=Lib.hid (HALLW.out x (hp3.mem_iff.1 (by simp)))
     have hlw:lw'.length+1=lw.length:=by have:=hp3.length_eq;simpa using this
     have hsz3:=hs3.size
     have hta:=assertItem x.val
     clear hq3 hs3 hp3 hh3 hm3
     go_upto_region 10 with (fail)
     have hbn:=below_one w3 (.cells #[.int .u64 x.lo, .int .u64 x.len, .int .i64 x.idx] 245)
     have bk:=Blk.new w3 245 #[.int .u64 x.lo, .int .u64 x.len, .int .i64 x.idx]
     generalize World.alloc w3 _=W4 at hbn bk ⊢
     have HI4:=Lib.hid (HI.out.up HC.out hbn)
     have BK4:=Lib.hid bk
     have hx4:W.heap.size+1 <w3.heap.size:=by omega
     have HNE:=Lib.hid (show ∀g,v2.ownBlock=some g→g≠w3.heap.size from fun g e=>by have:=(own_lt0 HI.out.q2.own e).2;omega)
     generalize w3.heap.size=xb at*
     clear hbn bk hta
     obtain ⟨wo,rfl⟩: ∃wo:World,wo=wr:=⟨_,rfl⟩
     clear HI
     go_loopw [46] (fun _ wi=> ∃(cur:List Itm) (v2:Value),Hid (VIn wi W.heap.size (itemsOf l) J d lw' x cur v1' v2)∧Hid (Blk wi xb 245 #[.int .u64 x.lo, .int .u64 x.len, .int .i64 x.idx])∧Hid (∀g,v2.ownBlock=some g→g≠xb)) (fun _ wi=>wlen wi (W.heap.size+1))
     case atStart=>exact ⟨_,_,HI4,BK4,HNE⟩
     case round=>
      obtain ⟨cur,v2,HIN,BX,HNX⟩:=hrel
      have hwl:=HIN.out.q2.wlen
      have hcl:=HIN.out.q2.len
      have HWC:=Lib.hid hwl
      clear hwl
      have hcall:(∀y ∈ cur,x.lo≤lastOf y)∨ ∃y,cur[0]? =some y∧lastOf y <x.lo:=by
       rcases hcur:cur[0]? with _ |y
       ·have:cur= []:=by cases cur with
         |nil=>rfl
         |cons a r=>simp at hcur
        subst this
        exact .inl (by simp)
       ·by_cases hy:lastOf y <x.lo
        ·exact .inr ⟨y,rfl,hy⟩
        ·refine .inl fun z hz=> ?_
         obtain ⟨j,hj⟩:=List.mem_iff_getElem?.1 hz
         have:=heap_min HIN.out.h2 j (List.getElem?_eq_some_iff.1 hj).1
         rw [kv_at hcur,kv_at hj] at this
         omega
      have HALLC:=Lib.hid (show ∀y ∈ cur,okItm y from HIN.out.allOk HALL.out)
      have hxl:=BX.out.lt
      have b0:=BX.out.cell 0
      simp at b0
      obtain ⟨c0,c1,hz⟩:=HIN.out.q2.cells
      obtain ⟨cA,cc,rfl,hr⟩:=HIN.out.q2.form
      rcases hcall with hall |⟨y,hy0,hy⟩
      ·have HX:=Lib.hid hall
       clear hall
       rcases Nat.eq_zero_or_pos cur.length with hc0 |hc0
       ·have HZ0:=Lib.hid hc0
        rw [hc0] at c0
        have hcp:=True.intro
        clear hc0 hr
        go_wp2
        refine wp_region_ext (by kernel_rfl) (by kernel_rfl) ?_
        repeat (go_big_quiet_step ((go_at_call 193;exact Calls.quiet_ext (qLen_0 (HIN.out.q2.up (ext_below _ _)) HZ0))))
        refine wpQuiet_nil ?_
        intro xq
        have HI5:=Lib.hid (HIN.out.up HC.out (ext_below _ xq))
        have BX5:=Lib.hid (BX.out.below (ext_below _ xq) hxl)
        generalize ext wr xq=W5 at HI5 BX5 ⊢
        clear b0 c0 c1 hz
        have hdn:d.length <l.length:=by omega
        have hcd:cur.length≤d.length:=by have:=(HI5.out.opened HX.out).length_eq;have:=List.length_filter_le (fun y=>decide (x.lo≤lastOf y)) d;omega
        obtain ⟨c0,c1,hz⟩:=HI5.out.q2.cells
        have b0:=BX5.out.cell 0
        have b1:=BX5.out.cell 1
        have b2:=BX5.out.cell 2
        simp at b0 b1 b2
        have hent:=HC.out.ent
        clear hcp
        go_wp2
        go_region_law ((go_simp;go_at_fn fv;refine (HC.out.call d cur lw' x _ _ _ HOX.out HI5.out.bd (HI5.out.opened HX.out) HI5.out.perm (by simp;omega) (HC.out.st _ _ _ HI5.out.j (.of_below (show Below W5.heap.size W5 _ from (by repeat (first |with_reducible exact Below.refl _ _ |with_reducible refine Below.drew ?_ |(with_reducible refine Below.alloc ?_ (by simp) _) |(with_reducible refine Below.setCell ?_ (by simp) _)))))) (own_base0 (own_below HI5.out.q2.own (show Below W5.heap.size W5 _ from (by repeat (first |with_reducible exact Below.refl _ _ |with_reducible refine Below.drew ?_ |(with_reducible refine Below.alloc ?_ (by simp) _) |(with_reducible refine Below.setCell ?_ (by simp) _))))))).mono ?_;rintro e w7 ⟨rfl,hj7,hk7⟩;have HJ7:=Lib.hid hj7;have HK7:=Lib.hid ((KeepQ.of_below (show Below W5.heap.size W5 _ from (by repeat (first |with_reducible exact Below.refl _ _ |with_reducible refine Below.drew ?_ |(with_reducible refine Below.alloc ?_ (by simp) _) |(with_reducible refine Below.setCell ?_ (by simp) _))))).trans hk7);clear hj7 hk7))
        all_goals
         have HQ7:=Lib.hid (HI5.out.q2.keepq HK7.out)
         have BX7:=Lib.hid (BX5.out.keepq HK7.out)
         have hz7:=HK7.out.size
         clear b0 b1 b2 c0 c1 hz
         have b0:=BX7.out.cell 0
         have b1:=BX7.out.cell 1
         have b2:=BX7.out.cell 2
         simp at b0 b1 b2
         have hxl7:=BX7.out.lt
         go_wp2_with fail
         refine (qPush_ok HQ7.out x (by omega) (by omega)).mono ?_
         rintro e w8 ⟨rfl,v3,hq8,hs8⟩
         have HQ8:=Lib.hid hq8
         have HS8:=Lib.hid hs8
         clear hq8 hs8 b0 b1 b2 hxl7
         go_wp2_with fail
         refine (qLen_ok HQ8.out).mono ?_
         rintro e w9 ⟨rfl,rfl⟩
         rw [List.length_append,List.length_singleton]
         go_wp2_with fail
         refine (hFix_at HQ8.out byLast_ok ent_byLast (fun z hz=>by
          rcases List.mem_append.1 hz with hz |hz
          ·exact HALLC.out z hz
          ·rw [List.mem_singleton] at hz;rw [hz];exact HOX.out) HI5.out.h2 _ (by omega)).mono ?_
         rintro e w10 ⟨rfl,lo2,hq10,hs10,hp10,hh10⟩
         have HV2:=Lib.hid (HI5.out.next HX.out HOX.out HC.out (Nat.le_refl _) (HI5.out.q1.keepq HK7.out) HQ7.out HJ7.out hq10 (HS8.out.trans hs10) hp10 hh10)
         clear hq10 hs10 hp10 hh10
         go_wp2
         go_roundw
         case rel=>exact ⟨d++ [x],lw',lo2,v1',_,x.lo,HV2,HV2.out.q2.bk.lt⟩
         case measure=>have m1:=HWL.out;have m2:=HV2.out.q1.wlen;omega
       ·obtain ⟨y,hy0⟩:=get_lt hc0
        have hge:=HX.out y (List.mem_of_getElem? hy0)
        obtain ⟨b,o,rfl,hb,p0,p1,p2⟩:=itm_at hr hy0
        simp only [Nat.zero_mul,Nat.add_zero] at p0 p1 p2
        have hcp:(0:Int) <(cur.length:Int):=by omega
        have hlt2:decide (y.lo+y.len -1 <x.lo)=false:=decide_eq_false (by unfold lastOf at hge;omega)
        have HY:=Lib.hid (HALLC.out y (List.mem_of_getElem? hy0))
        clear hr hy0 hge
        go_wp2
        refine wp_region_ext (by kernel_rfl) (by kernel_rfl) ?_
        repeat (go_big_quiet_step ((first
         |(go_at_call 193;exact Calls.quiet_ext (qLen_b (HIN.out.q2.up (ext_below _ _))))
         |(go_at_call 141;exact Calls.quiet_ext (spanLast_ok _ _ _ HY.out)))))
        refine wpQuiet_nil ?_
        intro xq
        have HI5:=Lib.hid (HIN.out.up HC.out (ext_below _ xq))
        have BX5:=Lib.hid (BX.out.below (ext_below _ xq) hxl)
        clear p0 p1 p2 hb hlt2
        generalize ext wr xq=W5 at HI5 BX5 ⊢
        clear b0 c0 c1 hz
        have hdn:d.length <l.length:=by omega
        have hcd:cur.length≤d.length:=by have:=(HI5.out.opened HX.out).length_eq;have:=List.length_filter_le (fun y=>decide (x.lo≤lastOf y)) d;omega
        obtain ⟨c0,c1,hz⟩:=HI5.out.q2.cells
        have b0:=BX5.out.cell 0
        have b1:=BX5.out.cell 1
        have b2:=BX5.out.cell 2
        simp at b0 b1 b2
        have hent:=HC.out.ent
        clear hcp
        go_wp2
        go_region_law ((go_simp;go_at_fn fv;refine (HC.out.call d cur lw' x _ _ _ HOX.out HI5.out.bd (HI5.out.opened HX.out) HI5.out.perm (by simp;omega) (HC.out.st _ _ _ HI5.out.j (.of_below (show Below W5.heap.size W5 _ from (by repeat (first |with_reducible exact Below.refl _ _ |with_reducible refine Below.drew ?_ |(with_reducible refine Below.alloc ?_ (by simp) _) |(with_reducible refine Below.setCell ?_ (by simp) _)))))) (own_base0 (own_below HI5.out.q2.own (show Below W5.heap.size W5 _ from (by repeat (first |with_reducible exact Below.refl _ _ |with_reducible refine Below.drew ?_ |(with_reducible refine Below.alloc ?_ (by simp) _) |(with_reducible refine Below.setCell ?_ (by simp) _))))))).mono ?_;rintro e w7 ⟨rfl,hj7,hk7⟩;have HJ7:=Lib.hid hj7;have HK7:=Lib.hid ((KeepQ.of_below (show Below W5.heap.size W5 _ from (by repeat (first |with_reducible exact Below.refl _ _ |with_reducible refine Below.drew ?_ |(with_reducible refine Below.alloc ?_ (by simp) _) |(with_reducible refine Below.setCell ?_ (by simp) _))))).trans hk7);clear hj7 hk7))
        all_goals
         have HQ7:=Lib.hid (HI5.out.q2.keepq HK7.out)
         have BX7:=Lib.hid (BX5.out.keepq HK7.out)
         have hz7:=HK7.out.size
         clear b0 b1 b2 c0 c1 hz
         have b0:=BX7.out.cell 0
         have b1:=BX7.out.cell 1
         have b2:=BX7.out.cell 2
         simp at b0 b1 b2
         have hxl7:=BX7.out.lt
         go_wp2_with fail
         refine (qPush_ok HQ7.out x (by omega) (by omega)).mono ?_
         rintro e w8 ⟨rfl,v3,hq8,hs8⟩
         have HQ8:=Lib.hid hq8
         have HS8:=Lib.hid hs8
         clear hq8 hs8 b0 b1 b2 hxl7
         go_wp2_with fail
         refine (qLen_ok HQ8.out).mono ?_
         rintro e w9 ⟨rfl,rfl⟩
         rw [List.length_append,List.length_singleton]
         go_wp2_with fail
         refine (hFix_at HQ8.out byLast_ok ent_byLast (fun z hz=>by
          rcases List.mem_append.1 hz with hz |hz
          ·exact HALLC.out z hz
          ·rw [List.mem_singleton] at hz;rw [hz];exact HOX.out) HI5.out.h2 _ (by omega)).mono ?_
         rintro e w10 ⟨rfl,lo2,hq10,hs10,hp10,hh10⟩
         have HV2:=Lib.hid (HI5.out.next HX.out HOX.out HC.out (Nat.le_refl _) (HI5.out.q1.keepq HK7.out) HQ7.out HJ7.out hq10 (HS8.out.trans hs10) hp10 hh10)
         clear hq10 hs10 hp10 hh10
         go_wp2
         go_roundw
         case rel=>exact ⟨d++ [x],lw',lo2,v1',_,x.lo,HV2,HV2.out.q2.bk.lt⟩
         case measure=>have m1:=HWL.out;have m2:=HV2.out.q1.wlen;omega
      ·have hcpos:0 <cur.length:=(List.getElem?_eq_some_iff.1 hy0).1
       obtain ⟨b,o,rfl,hb,p0,p1,p2⟩:=itm_at hr hy0
       simp only [Nat.zero_mul,Nat.add_zero] at p0 p1 p2
       have hcp:(0:Int) <(cur.length:Int):=by omega
       have hlt2:decide (y.lo+y.len -1 <x.lo)=true:=decide_eq_true hy
       have HY:=Lib.hid (HALLC.out y (List.mem_of_getElem? hy0))
       have HYL:=Lib.hid hy
       have HY0:=Lib.hid hy0
       clear hr hy hy0
       go_wp2
       refine wp_region_ext (by kernel_rfl) (by kernel_rfl) ?_
       repeat (go_big_quiet_step ((first
        |(go_at_call 193;exact Calls.quiet_ext (qLen_b (HIN.out.q2.up (ext_below _ _))))
        |(go_at_call 141;exact Calls.quiet_ext (spanLast_ok _ _ _ HY.out)))))
       refine wpQuiet_nil ?_
       intro xq
       have HI5:=Lib.hid (HIN.out.up HC.out (ext_below _ xq))
       have BX5:=Lib.hid (BX.out.below (ext_below _ xq) hxl)
       clear b0 c0 c1 hz p0 p1 p2 hb
       generalize ext wr xq=W5 at HI5 BX5 ⊢
       go_wp2_with fail
       refine (hPop_ok HI5.out.q2 byLast_ok ent_byLast HALLC.out HI5.out.h2 hcpos).mono ?_
       rintro e w6 ⟨z,cur',v2',rfl,hq6,hs6,hp6,hh6,hm6⟩
       have hzl:lastOf z <x.lo:=by have:=hm6 y (List.mem_of_getElem? HY0.out);have:=HYL.out;omega
       have HI6:=Lib.hid (HI5.out.drop_ HC.out (Nat.le_refl _) hq6 hs6 hp6 hh6 hzl)
       have BX6:=Lib.hid (BX5.out.qstep hs6 (by omega) (fun e=>HNX.out _ e rfl))
       have HN6:=Lib.hid (show ∀g,v2'.ownBlock=some g→g≠xb from fun g e=>by
        rcases hs6.own g e with e2 |e2
        ·exact HNX.out g e2
        ·have:=BX5.out.lt;omega)
       have hcl6:cur'.length+1=cur.length:=by have:=hp6.length_eq;simpa using this
       clear hq6 hs6 hp6 hh6 hm6 hlt2
       go_wp2
       go_roundw
       case rel=>exact ⟨cur',v2',HI6,BX6,HN6⟩
       case measure=>have m1:=HWC.out;have m2:=HI6.out.q2.wlen;omega
end Go.Proofs.YtdmgpdanlfmadaaGreat
