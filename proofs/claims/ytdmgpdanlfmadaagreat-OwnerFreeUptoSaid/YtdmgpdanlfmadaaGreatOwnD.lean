/-
  Segments of a map of owners in memory of the call's own, each with its regions in a block of its own; what the heap's methods leave of them. It speaks of no program's text.
-/
import Derived.Test.YtdmgpdanlfmadaaGreatOwnB
import Derived.Test.YtdmgpdanlfmadaaGreatOwnH
namespace Go.Proofs.YtdmgpdanlfmadaaGreat
open Go.RowKit
structure SE where
 s:Seg
 A:Option Addr
 c:Nat
@[reducible] def SE.v (e:SE):Value:= .slice e.A e.s.rs.length e.c
def SE.cells (e:SE):List Value:= [.int .u64 e.s.lo,e.v]
theorem seOne (L:List SE): ∀u ∈ L.flatMap SE.cells,u.oneCell'=true:=by
 intro u hu
 obtain ⟨e,he,hx⟩:=List.mem_flatMap.1 hu
 simp [SE.cells] at hx
 rcases hx with rfl |rfl<;>rfl
theorem se_at {w:World} {B:Nat} {A:Option Addr} {k:Nat} {l:List SE} {x:SE} (h:Rd w B 2 A l.length (l.flatMap SE.cells)) (hk:l[k]? =some x):
  ∃b o,A=some ⟨b,o,none⟩∧b <B∧w.cell? ⟨b,o+k*2,none⟩=some (.int .u64 x.s.lo)∧w.cell? ⟨b,o+k*2+1,none⟩=some (.slice x.A x.s.rs.length x.c):=by
 obtain ⟨b,o,e,hb,hc⟩:=Rd.get (f:=SE.cells) (sz:=2) (fun _=>rfl) h hk
 exact ⟨b,o,e,hb,hc 0 _ rfl,hc 1 _ rfl⟩
structure SegsO (W:World) (B:Nat) (v:Value) (L:List SE):Prop where
 own: ∀e ∈ L,W.ownsRow B 66 6 e.v e.s.rs.length (e.s.rs.flatMap Opn.cells)
 sep: ∀e ∈ L, ∀g,e.v.ownBlock=some g→v.ownBlock≠some g
section
variable {W V:World} {B:Nat} {v v':Value} {L:List SE}
theorem SegsO.nil:SegsO W B v []:=⟨by simp,by simp⟩
theorem SegsO.move (h:SegsO W B v L) (hk: ∀u n xs,W.ownsRow B 66 6 u n xs→V.ownsRow B 66 6 u n xs):SegsO V B v L:=⟨fun e he=>hk _ _ _ (h.own e he),h.sep⟩
theorem SegsO.below (h:SegsO W B v L) (hb:Below W.heap.size W V):SegsO V B v L:=h.move fun _ _ _ ho=>own_below ho hb
theorem SegsO.off {ty:TypeId} (h:SegsO W B v L) (ho:Off ty W V) (hne:66≠ty):SegsO V B v L:=h.move fun _ _ _ h2=>own_off h2 ho hne
theorem SegsO.far {t:TypeId} {bs:Array Value} (h:SegsO W B v L) {p:Addr} (hp:Blk W p.block t bs) (hne:t≠66) (u:Value):SegsO (W.setCell p u) B v L:=h.move fun _ _ _ h2=>own_far h2 hp hne u
theorem SegsO.snoc (h:SegsO W B v L) {e:SE} (ho:W.ownsRow B 66 6 e.v e.s.rs.length (e.s.rs.flatMap Opn.cells)) (hf: ∀g,e.v.ownBlock=some g→v.ownBlock≠some g):SegsO W B v (L++ [e]):=
 ⟨fun a ha=>by rcases List.mem_append.1 ha with ha |ha;exact h.own a ha;rw [List.mem_singleton] at ha;rw [ha];exact ho,
  fun a ha=>by rcases List.mem_append.1 ha with ha |ha;exact h.sep a ha;rw [List.mem_singleton] at ha;rw [ha];exact hf⟩
theorem SegsO.front {M:List SE} (h:SegsO W B v (L++M)):SegsO W B v L:=⟨fun e he=>h.own e (by simp [he]),fun e he=>h.sep e (by simp [he])⟩
theorem SegsO.qstep {q:Nat} {cs:Array Value} (h:SegsO W B v L) (hq:Blk W q 63 cs) (hs:QStep W V q v v'):SegsO V B v' L:=by
 refine ⟨fun e he=> ?_,fun e he g hg hv=> ?_⟩
 ·have ho:=h.own e he
  refine ⟨ho.1, ?_⟩
  rcases ho.2 with h3 |⟨g,cap,cur,e1,hb,hh,r⟩
  ·exact .inl h3
  ·refine .inr ⟨g,cap,cur,e1,hb,(hs.block g (Array.getElem?_eq_some_iff.1 hh).1 (fun e2=> ?_) (fun e2=> ?_)).trans hh,r⟩
   ·subst e2
    unfold Blk at hq
    rw [hq] at hh
    injection hh with hh
    injection hh with _ hh _
    exact absurd hh (by decide)
   ·exact h.sep e he g (by rw [e1];rfl) e2.symm
 ·have hlt:=((h.own e he).lt g hg).2
  rcases hs.own g hv with h2 |h2
  ·exact h.sep e he g hg h2
  ·omega
end
end Go.Proofs.YtdmgpdanlfmadaaGreat
namespace Go.Proofs.YtdmgpdanlfmadaaGreat
open Go.RowKit Go.Shelf
section
variable {W V:World} {q B:Nat} {v v':Value} {l:List Opn}
theorem blk_qstep {g:Nat} {t:TypeId} {cs:Array Value} (h:Blk W g t cs) (hq:OQ W q B v l) (h1:t≠63) (h2:t≠66) (hs:QStep W V q v v'):Blk V g t cs:=by
 refine (hs.block g h.lt (fun e=> ?_) (fun e=> ?_)).trans h
 ·subst e
  have hb:=hq.bk
  unfold Blk at h hb
  rw [hb] at h
  injection h with h
  injection h with _ h _
  exact h1 h.symm
 ·rcases hq.own.2 with ⟨e2,_⟩ |⟨g',cap,cur,e2,_,hh,_⟩
  ·rw [e2] at e;simp [Value.ownBlock] at e
  ·rw [e2] at e
   simp only [Value.ownBlock,Option.some.injEq] at e
   subst e
   unfold Blk at h
   rw [hh] at h
   injection h with h
   injection h with _ h _
   exact h2 h.symm
theorem own_qstep {b sz n:Nat} {t:TypeId} {u:Value} {xs:List Value} (h:W.ownsRow b t sz u n xs) (hq:OQ W q B v l) (h1:t≠63) (h2:t≠66) (hs:QStep W V q v v'):V.ownsRow b t sz u n xs:=by
 refine ⟨h.1, ?_⟩
 rcases h.2 with h3 |⟨g,cap,cur,rfl,hb,hh,r⟩
 ·exact .inl h3
 ·exact .inr ⟨g,cap,cur,rfl,hb,blk_qstep (t:=t) (cs:=cur) hh hq h1 h2 hs,r⟩
end
theorem own_cell {W:World} {base g sz n c j:Nat} {t:TypeId} {xs:List Value} (h:W.ownsRow base t sz (.slice (some ⟨g,0,none⟩) n c) n xs) (u:Value):(W.setCell ⟨g,j,none⟩ u).ownsRow base t sz (.slice (some ⟨g,0,none⟩) n c) n (xs.set j u):=by
 refine ⟨by rw [List.length_set];exact h.1, ?_⟩
 rcases h.2 with ⟨e,_⟩ |⟨g',cap,cur,e,hb,hh,h1,h2,h3,h4⟩
 ·cases e
 ·have e':g=g'∧c=cap:=by
   injection e with e e2 e3
   injection e with e
   injection e with e _
   exact ⟨e,e3⟩
  clear e
  obtain ⟨rfl,rfl⟩:=e'
  have hbk:Blk W g t cur:=hh
  refine .inr ⟨g,c,_,rfl,hb,hbk.set_ j u,h1,h2,by simpa using h3, ?_⟩
  rw [Array.toList_setIfInBounds,List.take_set,h4]
structure Stp (B0:Nat) (W V:World):Prop where
 bel:Below B0 W V
 keep: ∀(k:Nat) (cs:Array Value) (t:TypeId) (fr:Nat × Nat),W.heap[k]? =some (.cells cs t fr)→t≠63→t≠66→t≠59→t≠62→V.heap[k]? =W.heap[k]?
section
variable {W V U:World} {B0:Nat}
theorem Stp.of_below (h:Below W.heap.size W V) (hB:B0≤W.heap.size):Stp B0 W V:=⟨h.mono hB,fun k _ _ _ hh _ _ _ _=>h.block k (Array.getElem?_eq_some_iff.1 hh).1⟩
theorem Stp.trans (h:Stp B0 W V) (k:Stp B0 V U):Stp B0 W U:=⟨h.bel.trans k.bel,fun j cs t fr hh h1 h2 h3 h4=>(k.keep j cs t fr ((h.keep j cs t fr hh h1 h2 h3 h4).trans hh) h1 h2 h3 h4).trans (h.keep j cs t fr hh h1 h2 h3 h4)⟩
theorem Stp.blk (h:Stp B0 W V) {g:Nat} {t:TypeId} {cs:Array Value} (hb:Blk W g t cs) (h1:t≠63) (h2:t≠66) (h3:t≠59) (h4:t≠62):Blk V g t cs:=(h.keep g cs t _ hb h1 h2 h3 h4).trans hb
theorem Stp.own (h:Stp B0 W V) {b sz n:Nat} {t:TypeId} {u:Value} {xs:List Value} (ho:W.ownsRow b t sz u n xs) (h1:t≠63) (h2:t≠66) (h3:t≠59) (h4:t≠62):V.ownsRow b t sz u n xs:=by
 refine ⟨ho.1, ?_⟩
 rcases ho.2 with h5 |⟨g,cap,cur,rfl,hb,hh,r⟩
 ·exact .inl h5
 ·exact .inr ⟨g,cap,cur,rfl,hb,h.blk (t:=t) (cs:=cur) hh h1 h2 h3 h4,r⟩
end
structure NSt (W:World) (mb mc qn B0 B:Nat) (sv v:Value) (L:List SE) (now:List Opn):Prop where
 mp:Blk W mb 62 #[sv]
 mcell:Blk W mc 32 #[.pointer (some ⟨mb,0,none⟩)]
 row:W.ownsRow B0 59 2 sv L.length (L.flatMap SE.cells)
 segs:SegsO W B v L
 q:OQ W qn B v now
 lb:B0≤mb∧B0≤mc∧B0≤qn∧B0≤B∧B≤W.heap.size
section
variable {W V:World} {mb mc qn B0 B:Nat} {sv sv' v v':Value} {L:List SE} {now now':List Opn}
theorem NSt.up (h:NSt W mb mc qn B0 B sv v L now) (hb:Below W.heap.size W V):NSt V mb mc qn B0 B sv v L now:=
 ⟨h.mp.below hb h.mp.lt,h.mcell.below hb h.mcell.lt,own_below h.row hb,h.segs.below hb,h.q.up hb,by have:=h.lb;have:=hb.size;omega⟩
theorem NSt.heap (h:NSt W mb mc qn B0 B sv v L now) (hq:OQ V qn B v' now') (hs:QStep W V qn v v'):NSt V mb mc qn B0 B sv v' L now':=
 ⟨blk_qstep h.mp h.q (by decide) (by decide) hs,blk_qstep h.mcell h.q (by decide) (by decide) hs,own_qstep h.row h.q (by decide) (by decide) hs,h.segs.qstep h.q.bk hs,hq,by have:=h.lb;have:=hs.size;omega⟩
theorem NSt.heapS (h:NSt W mb mc qn B0 B sv v L now) (hs:QStep W V qn v v'):Stp B0 W V:=
 ⟨hs.below (by have:=h.lb;omega) (fun g e=>by have:=(own_lt0 h.q.own e).1;have:=h.lb;omega) (by have:=h.lb;omega),fun k cs t fr hh h1 h2 _ _=>by
  refine hs.block k (Array.getElem?_eq_some_iff.1 hh).1 (fun e=> ?_) (fun e=> ?_)
  ·subst e
   have hb:=h.q.bk
   unfold Blk at hb
   rw [hb] at hh
   injection hh with hh
   injection hh with _ hh _
   exact h1 hh.symm
  ·rcases h.q.own.2 with ⟨e2,_⟩ |⟨g',cap,cur,e2,_,hh2,_⟩
   ·rw [e2] at e;simp [Value.ownBlock] at e
   ·rw [e2] at e
    simp only [Value.ownBlock,Option.some.injEq] at e
    subst e
    rw [hh2] at hh
    injection hh with hh
    injection hh with _ hh _
    exact h2 hh.symm⟩
theorem NSt.cells (h:NSt W mb mc qn B0 B sv v L now):W.cell? ⟨mb,0,none⟩=some sv∧W.cell? ⟨mc,0,none⟩=some (.pointer (some ⟨mb,0,none⟩))∧W.cell? ⟨qn,0,none⟩=some v∧mb <W.heap.size∧mc <W.heap.size∧qn <W.heap.size:=by
 refine ⟨?_, ?_,h.q.cells.1,h.mp.lt,h.mcell.lt,h.q.bk.lt⟩
 ·have:=h.mp.cell 0;simpa using this
 ·have:=h.mcell.cell 0;simpa using this
theorem NSt.put {L0:List SE} {e e':SE} {g c:Nat} (h:NSt W mb mc qn B0 B (.slice (some ⟨g,0,none⟩) (L0.length+1) c) v (L0++ [e]) now) (ho:W.ownsRow B 66 6 e'.v e'.s.rs.length (e'.s.rs.flatMap Opn.cells)) (hf: ∀g,e'.v.ownBlock=some g→v.ownBlock≠some g):
  NSt ((W.setCell ⟨g,L0.length*2,none⟩ (.int .u64 e'.s.lo)).setCell ⟨g,L0.length*2+1,none⟩ e'.v) mb mc qn B0 B (.slice (some ⟨g,0,none⟩) (L0.length+1) c) v (L0++ [e']) now∧Stp B0 W ((W.setCell ⟨g,L0.length*2,none⟩ (.int .u64 e'.s.lo)).setCell ⟨g,L0.length*2+1,none⟩ e'.v):=by
 have hl:(L0.flatMap SE.cells).length=L0.length*2:=flat_len SE.cells 2 (fun _=>rfl) L0
 have hrow:=h.row
 rw [List.length_append,List.length_singleton,List.flatMap_append] at hrow
 have hg:=own_lt0 hrow (g:=g) rfl
 have hbk: ∃cs,Blk W g 59 cs:=by
  rcases hrow.2 with ⟨e1,_⟩ |⟨g',cap,cur,e1,hb,hh,_⟩
  ·cases e1
  ·injection e1 with e1 _ _
   injection e1 with e1
   injection e1 with e1 _
   subst e1
   exact ⟨cur,hh⟩
 obtain ⟨cs,hbk⟩:=hbk
 have hbk2:=hbk.set_ (L0.length*2) (.int .u64 e'.s.lo)
 have ne: ∀ {k:Nat} {t:TypeId} {ds:Array Value},Blk W k t ds→t≠59→k≠g:=fun {k t ds} hk ht e=>by
  subst e
  unfold Blk at hk hbk
  rw [hbk] at hk
  injection hk with hk
  injection hk with _ hk _
  exact ht hk.symm
 have s1:(((L0.flatMap SE.cells++ [e].flatMap SE.cells).set (L0.length*2) (.int .u64 e'.s.lo)).set (L0.length*2+1) e'.v)=(L0++ [e']).flatMap SE.cells:=by
  rw [List.flatMap_append, ←hl,List.set_append_right _ _ (Nat.le_refl _),List.set_append_right _ _ (by omega)]
  congr 1
  simp [SE.cells]
 have r1:=own_cell hrow (j:=L0.length*2) (.int .u64 e'.s.lo)
 have r2:=own_cell r1 (j:=L0.length*2+1) e'.v
 rw [s1] at r2
 have k1: ∀k,k≠g→((W.setCell ⟨g,L0.length*2,none⟩ (.int .u64 e'.s.lo)).setCell ⟨g,L0.length*2+1,none⟩ e'.v).heap[k]? =W.heap[k]? :=fun k hk=>(Below.heap_setCell _ _ _ k hk).trans (Below.heap_setCell _ _ _ k hk)
 have ok: ∀ {b n:Nat} {u:Value} {xs:List Value},W.ownsRow b 66 6 u n xs→((W.setCell ⟨g,L0.length*2,none⟩ (.int .u64 e'.s.lo)).setCell ⟨g,L0.length*2+1,none⟩ e'.v).ownsRow b 66 6 u n xs:=fun hh=>own_but hh hbk (by decide) k1
 refine ⟨⟨(k1 _ (ne h.mp (by decide))).trans h.mp,(k1 _ (ne h.mcell (by decide))).trans h.mcell,by rw [List.length_append,List.length_singleton];exact r2, ?_,⟨(k1 _ (ne h.q.bk (by decide))).trans h.q.bk,ok h.q.own,h.q.qb,h.q.len⟩,by have:=h.lb;simp [World.setCell];omega⟩,((Below.refl _ _).setCell hg.1 _).setCell hg.1 _,fun k cs' t fr hh _ _ h3 _=>k1 k (fun e=> ?_)⟩
 rotate_left
 ·subst e
  unfold Blk at hbk
  rw [hbk] at hh
  injection hh with hh
  injection hh with _ hh _
  exact h3 hh.symm
 exact (SegsO.move h.segs (fun _ _ _ hh=>ok hh)).front.snoc (ok ho) hf
theorem NSt.app {e':SE} (h:NSt W mb mc qn B0 B sv v L now) (ho:W.ownsRow B 66 6 e'.v e'.s.rs.length (e'.s.rs.flatMap Opn.cells)) (hf: ∀g,e'.v.ownBlock=some g→v.ownBlock≠some g)
  (hown:V.ownsRow B0 59 2 sv' (L.length+1) (L.flatMap SE.cells++e'.cells)) (hg:W.grownBy V sv.ownBlock):
  NSt (V.setCell ⟨mb,0,none⟩ sv') mb mc qn B0 B sv' v (L++ [e']) now∧Stp B0 W (V.setCell ⟨mb,0,none⟩ sv'):=by
 have hoff:=Off.of_own h.row hg
 have hmp:=h.mp.off hoff (by decide)
 have hlb:=h.lb
 have hsz:=hg.size
 have hmc:=h.mcell.off hoff (by decide)
 have hq:=h.q.bk.off hoff (by decide)
 have ne: ∀ {k:Nat} {t:TypeId} {ds:Array Value},Blk V k t ds→t≠62→k≠mb:=fun {k t ds} hk ht e=>by
  subst e
  unfold Blk at hk hmp
  rw [hmp] at hk
  injection hk with hk
  injection hk with _ hk _
  exact ht hk.symm
 have ok: ∀ {b sz n:Nat} {t:TypeId} {u:Value} {xs:List Value},V.ownsRow b t sz u n xs→t≠62→(V.setCell ⟨mb,0,none⟩ sv').ownsRow b t sz u n xs:=fun hh ht=>own_far hh (p:=⟨mb,0,none⟩) hmp (fun e=>ht e.symm) _
 have hbel:Below B0 W V:=⟨hg.os,hg.tape,hg.output,hg.size,fun k hk=>hg.block k (by omega) (fun e=>by have:=(own_lt0 h.row e.symm).1;omega)⟩
 refine ⟨⟨by have:=hmp.set_ 0 sv';simpa using this,hmc.far (p:=⟨mb,0,none⟩) (ne hmc (by decide)) _, ?_, ?_,⟨hq.far (p:=⟨mb,0,none⟩) (ne hq (by decide)) _,ok (own_off h.q.own hoff (by decide)) (by decide),h.q.qb,h.q.len⟩,by simp [World.setCell];omega⟩,hbel.setCell (by show B0≤mb;omega) _,fun k cs' t fr hh _ _ h3 h4=> ?_⟩
 ·have:=ok hown (by decide)
  rw [List.length_append,List.length_singleton,List.flatMap_append]
  simpa using this
 ·exact (SegsO.move h.segs (fun _ _ _ hh=>ok (own_off hh hoff (by decide)) (by decide))).snoc (ok (own_off ho hoff (by decide)) (by decide)) hf
 ·have e1:V.heap[k]? =W.heap[k]? :=hoff.block k (Array.getElem?_eq_some_iff.1 hh).1 (fun cs2 fr2 e=>by
   rw [hh] at e
   injection e with e
   injection e with _ e _
   exact h3 e)
  refine (Below.heap_setCell _ _ _ k (fun e=> ?_)).trans e1
  have e:k=mb:=e
  subst e
  unfold Blk at hmp
  rw [←e1,hmp] at hh
  injection hh with hh
  injection hh with _ hh _
  exact h4 hh.symm
end
end Go.Proofs.YtdmgpdanlfmadaaGreat
