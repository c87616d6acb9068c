/-
  What conf.Merge keeps in memory while it runs: the configuration under way, its five rows, and the copied destinations, each in a block of its own. No condition.
-/
import Derived.Test.YteelncofiodflaaGreatCore
import Derived.Deep.Cut
namespace Go.Proofs.YteelncofiodflaaGreat
open Go.RowKit
structure MrgC (w wr:World) (F:Int) (acc:Cfg) (v1 v2 v3 v4 v5:Value) (L:List CE):Prop where
 hz:w.heap.size+1 <wr.heap.size
 bel:Below w.heap.size w wr
 res:Blk wr w.heap.size 29 #[.int .u64 0, .slice none 0 0, .slice none 0 0, .slice none 0 0, .slice none 0 0, .slice none 0 0]
 out:Blk wr (w.heap.size+1) 29 #[.int .u64 F,v1,v2,v3,v4,v5]
 o1:wr.ownsRow (w.heap.size+2) 49 4 v1 acc.parts.length (acc.parts.flatMap Par.cells)
 o2:wr.ownsRow (w.heap.size+2) 71 3 v2 acc.wins.length (acc.wins.flatMap Win.cells)
 o3:wr.ownsRow (w.heap.size+2) 75 5 v3 acc.regs.length (acc.regs.flatMap Reg.cells)
 o4:wr.ownsRow (w.heap.size+2) 52 6 v4 acc.ports.length (acc.ports.flatMap Prt.cells)
 o5:wr.ownsRow (w.heap.size+2) 57 3 v5 acc.chans.length (L.flatMap CE.cells)
 ch:ChnsO wr (w.heap.size+2) L
 lx:L.map (·.x)=acc.chans
section
variable {w W W':World} {F:Int} {acc:Cfg} {v1 v2 v3 v4 v5:Value} {L:List CE}
theorem MrgC.later (h:MrgC w W F acc v1 v2 v3 v4 v5 L) (hb:Below W.heap.size W W'):MrgC w W' F acc v1 v2 v3 v4 v5 L:=by
 have hz:=h.hz
 have hs:=hb.size
 exact ⟨by omega,h.bel.trans (hb.mono h.bel.size),h.res.below hb h.res.lt,h.out.below hb h.out.lt,own_below h.o1 hb,own_below h.o2 hb,own_below h.o3 hb,own_below h.o4 hb,own_below h.o5 hb,h.ch.below hb,h.lx⟩
theorem below_rowC {base:Nat} {e:TypeId} {size n:Nat} {v:Value} {xs:List Value} {B:Nat} {a:World} (h:Below B a W) (ho:W.ownsRow base e size v n xs) (hg:W.grownBy W' v.ownBlock) (h1:B≤base) (h2:B≤W.heap.size):Below B a W':=
 h.grown hg h2 fun k hk=>by have:=(ho.lt k hk).1;omega
theorem MrgC.app1 (h:MrgC w W F acc v1 v2 v3 v4 v5 L) {v':Value} {ps:List Par} (hown:W'.ownsRow (w.heap.size+2) 49 4 v' (acc.parts.length+ps.length) (acc.parts.flatMap Par.cells++ps.flatMap Par.cells)) (hg:W.grownBy W' v1.ownBlock):
  MrgC w (W'.setCell ⟨w.heap.size+1,1,none⟩ v') F {acc with parts:=acc.parts++ps} v' v2 v3 v4 v5 L:=by
 have hz:=h.hz
 have hs:=hg.size
 have ho:=Off.of_own h.o1 hg
 have hout:=h.out.off ho (by decide)
 have hb:=below_rowC h.bel h.o1 hg (by omega) h.bel.size
 exact ⟨by simp [World.setCell];omega,hb.setCell (by show w.heap.size≤w.heap.size+1;omega) _,(h.res.off ho (by decide)).far (by show w.heap.size≠w.heap.size+1;omega) _,by have:=hout.set_ 1 v';simpa using this,
  (by simpa [List.flatMap_append] using own_set hown (p:=⟨w.heap.size+1,1,none⟩) (by show w.heap.size+1 <_;omega) v'),
  own_set (own_off h.o2 ho (by decide)) (p:=⟨w.heap.size+1,1,none⟩) (by show w.heap.size+1 <_;omega) _,
  own_set (own_off h.o3 ho (by decide)) (p:=⟨w.heap.size+1,1,none⟩) (by show w.heap.size+1 <_;omega) _,
  own_set (own_off h.o4 ho (by decide)) (p:=⟨w.heap.size+1,1,none⟩) (by show w.heap.size+1 <_;omega) _,
  own_set (own_off h.o5 ho (by decide)) (p:=⟨w.heap.size+1,1,none⟩) (by show w.heap.size+1 <_;omega) _,
  (h.ch.off ho (by decide)).far (p:=⟨w.heap.size+1,1,none⟩) hout (by decide) _,h.lx⟩
theorem MrgC.app2 (h:MrgC w W F acc v1 v2 v3 v4 v5 L) {v':Value} {ps:List Win} (hown:W'.ownsRow (w.heap.size+2) 71 3 v' (acc.wins.length+ps.length) (acc.wins.flatMap Win.cells++ps.flatMap Win.cells)) (hg:W.grownBy W' v2.ownBlock):
  MrgC w (W'.setCell ⟨w.heap.size+1,2,none⟩ v') F {acc with wins:=acc.wins++ps} v1 v' v3 v4 v5 L:=by
 have hz:=h.hz
 have hs:=hg.size
 have ho:=Off.of_own h.o2 hg
 have hout:=h.out.off ho (by decide)
 have hb:=below_rowC h.bel h.o2 hg (by omega) h.bel.size
 exact ⟨by simp [World.setCell];omega,hb.setCell (by show w.heap.size≤w.heap.size+1;omega) _,(h.res.off ho (by decide)).far (by show w.heap.size≠w.heap.size+1;omega) _,by have:=hout.set_ 2 v';simpa using this,
  own_set (own_off h.o1 ho (by decide)) (p:=⟨w.heap.size+1,2,none⟩) (by show w.heap.size+1 <_;omega) _,
  (by simpa [List.flatMap_append] using own_set hown (p:=⟨w.heap.size+1,2,none⟩) (by show w.heap.size+1 <_;omega) v'),
  own_set (own_off h.o3 ho (by decide)) (p:=⟨w.heap.size+1,2,none⟩) (by show w.heap.size+1 <_;omega) _,
  own_set (own_off h.o4 ho (by decide)) (p:=⟨w.heap.size+1,2,none⟩) (by show w.heap.size+1 <_;omega) _,
  own_set (own_off h.o5 ho (by decide)) (p:=⟨w.heap.size+1,2,none⟩) (by show w.heap.size+1 <_;omega) _,
  (h.ch.off ho (by decide)).far (p:=⟨w.heap.size+1,2,none⟩) hout (by decide) _,h.lx⟩
theorem MrgC.app3 (h:MrgC w W F acc v1 v2 v3 v4 v5 L) {v':Value} {ps:List Reg} (hown:W'.ownsRow (w.heap.size+2) 75 5 v' (acc.regs.length+ps.length) (acc.regs.flatMap Reg.cells++ps.flatMap Reg.cells)) (hg:W.grownBy W' v3.ownBlock):
  MrgC w (W'.setCell ⟨w.heap.size+1,3,none⟩ v') F {acc with regs:=acc.regs++ps} v1 v2 v' v4 v5 L:=by
 have hz:=h.hz
 have hs:=hg.size
 have ho:=Off.of_own h.o3 hg
 have hout:=h.out.off ho (by decide)
 have hb:=below_rowC h.bel h.o3 hg (by omega) h.bel.size
 exact ⟨by simp [World.setCell];omega,hb.setCell (by show w.heap.size≤w.heap.size+1;omega) _,(h.res.off ho (by decide)).far (by show w.heap.size≠w.heap.size+1;omega) _,by have:=hout.set_ 3 v';simpa using this,
  own_set (own_off h.o1 ho (by decide)) (p:=⟨w.heap.size+1,3,none⟩) (by show w.heap.size+1 <_;omega) _,
  own_set (own_off h.o2 ho (by decide)) (p:=⟨w.heap.size+1,3,none⟩) (by show w.heap.size+1 <_;omega) _,
  (by simpa [List.flatMap_append] using own_set hown (p:=⟨w.heap.size+1,3,none⟩) (by show w.heap.size+1 <_;omega) v'),
  own_set (own_off h.o4 ho (by decide)) (p:=⟨w.heap.size+1,3,none⟩) (by show w.heap.size+1 <_;omega) _,
  own_set (own_off h.o5 ho (by decide)) (p:=⟨w.heap.size+1,3,none⟩) (by show w.heap.size+1 <_;omega) _,
  (h.ch.off ho (by decide)).far (p:=⟨w.heap.size+1,3,none⟩) hout (by decide) _,h.lx⟩
theorem MrgC.app4 (h:MrgC w W F acc v1 v2 v3 v4 v5 L) {v':Value} {ps:List Prt} (hown:W'.ownsRow (w.heap.size+2) 52 6 v' (acc.ports.length+ps.length) (acc.ports.flatMap Prt.cells++ps.flatMap Prt.cells)) (hg:W.grownBy W' v4.ownBlock):
  MrgC w (W'.setCell ⟨w.heap.size+1,4,none⟩ v') F {acc with ports:=acc.ports++ps} v1 v2 v3 v' v5 L:=by
 have hz:=h.hz
 have hs:=hg.size
 have ho:=Off.of_own h.o4 hg
 have hout:=h.out.off ho (by decide)
 have hb:=below_rowC h.bel h.o4 hg (by omega) h.bel.size
 exact ⟨by simp [World.setCell];omega,hb.setCell (by show w.heap.size≤w.heap.size+1;omega) _,(h.res.off ho (by decide)).far (by show w.heap.size≠w.heap.size+1;omega) _,by have:=hout.set_ 4 v';simpa using this,
  own_set (own_off h.o1 ho (by decide)) (p:=⟨w.heap.size+1,4,none⟩) (by show w.heap.size+1 <_;omega) _,
  own_set (own_off h.o2 ho (by decide)) (p:=⟨w.heap.size+1,4,none⟩) (by show w.heap.size+1 <_;omega) _,
  own_set (own_off h.o3 ho (by decide)) (p:=⟨w.heap.size+1,4,none⟩) (by show w.heap.size+1 <_;omega) _,
  (by simpa [List.flatMap_append] using own_set hown (p:=⟨w.heap.size+1,4,none⟩) (by show w.heap.size+1 <_;omega) v'),
  own_set (own_off h.o5 ho (by decide)) (p:=⟨w.heap.size+1,4,none⟩) (by show w.heap.size+1 <_;omega) _,
  (h.ch.off ho (by decide)).far (p:=⟨w.heap.size+1,4,none⟩) hout (by decide) _,h.lx⟩
theorem MrgC.app5 (h:MrgC w W F acc v1 v2 v3 v4 v5 L) {v':Value} {e:CE} (hx:W.ownsRow (w.heap.size+2) 47 1 e.v e.x.dests.length (e.x.dests.map (Value.int .u16))) (hf: ∀a ∈ L, ∀g,a.v.ownBlock=some g→e.v.ownBlock≠some g) (hown:W'.ownsRow (w.heap.size+2) 57 3 v' (acc.chans.length+1) (L.flatMap CE.cells++e.cells)) (hg:W.grownBy W' v5.ownBlock):
  MrgC w (W'.setCell ⟨w.heap.size+1,5,none⟩ v') F {acc with chans:=acc.chans++ [e.x]} v1 v2 v3 v4 v' (L++ [e]):=by
 have hz:=h.hz
 have hs:=hg.size
 have ho:=Off.of_own h.o5 hg
 have hout:=h.out.off ho (by decide)
 have hb:=below_rowC h.bel h.o5 hg (by omega) h.bel.size
 exact ⟨by simp [World.setCell];omega,hb.setCell (by show w.heap.size≤w.heap.size+1;omega) _,(h.res.off ho (by decide)).far (by show w.heap.size≠w.heap.size+1;omega) _,by have:=hout.set_ 5 v';simpa using this,
  own_set (own_off h.o1 ho (by decide)) (p:=⟨w.heap.size+1,5,none⟩) (by show w.heap.size+1 <_;omega) _,
  own_set (own_off h.o2 ho (by decide)) (p:=⟨w.heap.size+1,5,none⟩) (by show w.heap.size+1 <_;omega) _,
  own_set (own_off h.o3 ho (by decide)) (p:=⟨w.heap.size+1,5,none⟩) (by show w.heap.size+1 <_;omega) _,
  own_set (own_off h.o4 ho (by decide)) (p:=⟨w.heap.size+1,5,none⟩) (by show w.heap.size+1 <_;omega) _,
  (by simpa using own_set hown (p:=⟨w.heap.size+1,5,none⟩) (by show w.heap.size+1 <_;omega) v'),
  ((h.ch.snoc hx hf).off ho (by decide)).far (p:=⟨w.heap.size+1,5,none⟩) hout (by decide) _,by simp [h.lx]⟩
end
end Go.Proofs.YteelncofiodflaaGreat
namespace Go.Proofs.YteelncofiodflaaGreat
open Go.RowKit
def CfgC (w:World) (B:Nat) (c:Cfg) (cs:List Value):Prop:= ∃A1 A2 A3 A4 A5 c1 c2 c3 c4 c5,cs= [.int .u64 c.frame, .slice A1 c.parts.length c1, .slice A2 c.wins.length c2, .slice A3 c.regs.length c3, .slice A4 c.ports.length c4, .slice A5 c.chans.length c5]∧CfgR w B c A1 A2 A3 A4 A5 c1 c2 c3 c4 c5
theorem cfgC_len {w:World} {B:Nat} (x:Cfg) (c:List Value) (h:CfgC w B x c):c.length=6:=by
 obtain ⟨A1,A2,A3,A4,A5,c1,c2,c3,c4,c5,rfl,_⟩:=h
 rfl
theorem cfg_at {w:World} {B:Nat} {A:Option Addr} {l:List Cfg} {rows:List Value} {k:Nat} {x:Cfg} (hr:RowsOf (CfgC w B) l rows) (hP:Rd w B 6 A l.length rows) (hk:l[k]? =some x):
  ∃b o A1 A2 A3 A4 A5 c1 c2 c3 c4 c5,A=some ⟨b,o,none⟩∧b <B∧CfgR w B x A1 A2 A3 A4 A5 c1 c2 c3 c4 c5∧w.cell? ⟨b,o+k*6,none⟩=some (.int .u64 x.frame)∧w.cell? ⟨b,o+k*6+1,none⟩=some (.slice A1 x.parts.length c1)∧w.cell? ⟨b,o+k*6+2,none⟩=some (.slice A2 x.wins.length c2)∧
   w.cell? ⟨b,o+k*6+3,none⟩=some (.slice A3 x.regs.length c3)∧w.cell? ⟨b,o+k*6+4,none⟩=some (.slice A4 x.ports.length c4)∧w.cell? ⟨b,o+k*6+5,none⟩=some (.slice A5 x.chans.length c5):=by
 obtain ⟨c0,⟨A1,A2,A3,A4,A5,c1,c2,c3,c4,c5,rfl,hR⟩,hj⟩:=rows_at cfgC_len hr hk
 have hlt:k <l.length:=(List.getElem?_eq_some_iff.1 hk).1
 obtain ⟨b,o,e,hb,hc⟩:=hP.2 (by omega)
 have q: ∀j u,j <6→ [Value.int .u64 x.frame, .slice A1 x.parts.length c1, .slice A2 x.wins.length c2, .slice A3 x.regs.length c3, .slice A4 x.ports.length c4, .slice A5 x.chans.length c5][j]? =some u→w.cell? ⟨b,o+k*6+j,none⟩=some u:=fun j u hlt hu=>by
  have:=hc (k*6+j) u ((hj j hlt).trans hu)
  rwa [←Nat.add_assoc] at this
 exact ⟨b,o,A1,A2,A3,A4,A5,c1,c2,c3,c4,c5,e,hb,hR,q 0 _ (by omega) rfl,q 1 _ (by omega) rfl,q 2 _ (by omega) rfl,q 3 _ (by omega) rfl,q 4 _ (by omega) rfl,q 5 _ (by omega) rfl⟩
theorem mrg_start (w:World) (F:Int):MrgC w ((w.alloc (.cells #[.int .u64 0, .slice none 0 0, .slice none 0 0, .slice none 0 0, .slice none 0 0, .slice none 0 0] 29)).alloc (.cells #[.int .u64 F, .slice none 0 0, .slice none 0 0, .slice none 0 0, .slice none 0 0, .slice none 0 0] 29)) F
  ⟨F,[],[],[],[],[]⟩ (.slice none 0 0) (.slice none 0 0) (.slice none 0 0) (.slice none 0 0) (.slice none 0 0) []:=by
 refine ⟨by simp,((Below.refl _ _).alloc (Nat.le_refl _) _).alloc (by simp) _,(Blk.new w _ _).alloc _, ?_,World.ownsRow_nil _ _ _ _,World.ownsRow_nil _ _ _ _,World.ownsRow_nil _ _ _ _,World.ownsRow_nil _ _ _ _,World.ownsRow_nil _ _ _ _,ChnsO.nil,rfl⟩
 have:=Blk.new (w.alloc (.cells #[.int .u64 0, .slice none 0 0, .slice none 0 0, .slice none 0 0, .slice none 0 0, .slice none 0 0] 29)) 29 #[.int .u64 F, .slice none 0 0, .slice none 0 0, .slice none 0 0, .slice none 0 0, .slice none 0 0]
 simpa using this
structure OwnC (W:World) (B:Nat) (c:Cfg) (A1 A2 A3 A4 A5:Option Addr) (c1 c2 c3 c4 c5:Nat):Prop where
 o1:W.ownsRow B 49 4 (.slice A1 c.parts.length c1) c.parts.length (c.parts.flatMap Par.cells)
 o2:W.ownsRow B 71 3 (.slice A2 c.wins.length c2) c.wins.length (c.wins.flatMap Win.cells)
 o3:W.ownsRow B 75 5 (.slice A3 c.regs.length c3) c.regs.length (c.regs.flatMap Reg.cells)
 o4:W.ownsRow B 52 6 (.slice A4 c.ports.length c4) c.ports.length (c.ports.flatMap Prt.cells)
 o5: ∃L:List CE,W.ownsRow B 57 3 (.slice A5 c.chans.length c5) c.chans.length (L.flatMap CE.cells)∧ChnsO W B L∧L.map (·.x)=c.chans
theorem OwnC.toR {W:World} {B:Nat} {c:Cfg} {A1 A2 A3 A4 A5:Option Addr} {c1 c2 c3 c4 c5:Nat} (h:OwnC W B c A1 A2 A3 A4 A5 c1 c2 c3 c4 c5):CfgR W W.heap.size c A1 A2 A3 A4 A5 c1 c2 c3 c4 c5:=by
 obtain ⟨q1,r1⟩:=own_slice h.o1
 obtain ⟨q2,r2⟩:=own_slice h.o2
 obtain ⟨q3,r3⟩:=own_slice h.o3
 obtain ⟨q4,r4⟩:=own_slice h.o4
 obtain ⟨L,o5,ch,lx⟩:=h.o5
 obtain ⟨q5,r5⟩:=own_slice o5
 exact ⟨r1,r2,r3,r4,⟨L.flatMap CE.cells,rows_chns (rows_map (fun x c hx=>ChnT.toC hx) (lx▸ChnsO.rows ch.own)),r5⟩,q1,q2,q3,q4,q5⟩
theorem OwnC.but {W W':World} {B g0:Nat} {t:TypeId} {cs:Array Value} {c:Cfg} {A1 A2 A3 A4 A5:Option Addr} {c1 c2 c3 c4 c5:Nat} (h:OwnC W B c A1 A2 A3 A4 A5 c1 c2 c3 c4 c5) (hB:Blk W g0 t cs) (h1:t≠49) (h2:t≠71) (h3:t≠75) (h4:t≠52) (h5:t≠57) (h6:t≠47)
  (hk: ∀g,g≠g0→W'.heap[g]? =W.heap[g]?):OwnC W' B c A1 A2 A3 A4 A5 c1 c2 c3 c4 c5:=by
 obtain ⟨L,o5,ch,lx⟩:=h.o5
 refine ⟨own_but h.o1 hB h1 hk,own_but h.o2 hB h2 hk,own_but h.o3 hB h3 hk,own_but h.o4 hB h4 hk,L,own_but o5 hB h5 hk,ch.move fun _ _ _ ho=>own_but ho hB h6 hk,lx⟩
theorem OwnC.below {W W':World} {B:Nat} {c:Cfg} {A1 A2 A3 A4 A5:Option Addr} {c1 c2 c3 c4 c5:Nat} (h:OwnC W B c A1 A2 A3 A4 A5 c1 c2 c3 c4 c5) (hb:Below W.heap.size W W'):OwnC W' B c A1 A2 A3 A4 A5 c1 c2 c3 c4 c5:=by
 obtain ⟨L,o5,ch,lx⟩:=h.o5
 exact ⟨own_below h.o1 hb,own_below h.o2 hb,own_below h.o3 hb,own_below h.o4 hb,L,own_below o5 hb,ch.below hb,lx⟩
theorem OwnC.base {W:World} {B B':Nat} {c:Cfg} {A1 A2 A3 A4 A5:Option Addr} {c1 c2 c3 c4 c5:Nat} (h:OwnC W B c A1 A2 A3 A4 A5 c1 c2 c3 c4 c5) (hB:B'≤B):OwnC W B' c A1 A2 A3 A4 A5 c1 c2 c3 c4 c5:=by
 obtain ⟨L,o5,ch,lx⟩:=h.o5
 exact ⟨own_base h.o1 hB,own_base h.o2 hB,own_base h.o3 hB,own_base h.o4 hB,L,own_base o5 hB,ch.move fun _ _ _ ho=>own_base ho hB,lx⟩
theorem MrgC.done {w W W':World} {F:Int} {acc:Cfg} {A1 A2 A3 A4 A5:Option Addr} {c1 c2 c3 c4 c5:Nat} {L:List CE} (h:MrgC w W F acc (.slice A1 acc.parts.length c1) (.slice A2 acc.wins.length c2) (.slice A3 acc.regs.length c3) (.slice A4 acc.ports.length c4) (.slice A5 acc.chans.length c5) L)
  (hk: ∀g,g≠w.heap.size→W'.heap[g]? =W.heap[g]?):OwnC W' (w.heap.size+2) acc A1 A2 A3 A4 A5 c1 c2 c3 c4 c5:=
 OwnC.but (W:=W) ⟨h.o1,h.o2,h.o3,h.o4,L,h.o5,h.ch,h.lx⟩ h.res (by decide) (by decide) (by decide) (by decide) (by decide) (by decide) hk
set_option maxRecDepth 100000 in
set_option maxHeartbeats 4000000 in
theorem mergeC_ok (F:Int) (l:List Cfg) (A:Option Addr) (cp:Nat) (rows:List Value) (w:World) (hRows:RowsOf (CfgC w w.heap.size) l rows) (hP:Rd w w.heap.size 6 A l.length rows) (hlen:l.length≤1048576) (ht:sumTot l≤4194304):
  Calls Tryz.prog 99 #[.int .u64 F, .slice A l.length cp] w fun e w'=> ∃A1 A2 A3 A4 A5 c1 c2 c3 c4 c5,
   e= .returned (cfgV F A1 A2 A3 A4 A5 (catAll F l).parts.length (catAll F l).wins.length (catAll F l).regs.length (catAll F l).ports.length (catAll F l).chans.length c1 c2 c3 c4 c5)∧OwnC w' (w.heap.size+2) (catAll F l) A1 A2 A3 A4 A5 c1 c2 c3 c4 c5∧Below w.heap.size w w':=by
 obtain ⟨ip,hip,hp0,hp1,hp2⟩:=info_parts infoPartition
 obtain ⟨iw,hiw,hw0,hw1,hw2⟩:=info_parts infoWindow
 obtain ⟨ir,hir,hr0,hr1,hr2⟩:=info_parts infoRegion
 obtain ⟨it,hit,ht0,ht1,ht2⟩:=info_parts infoPort
 obtain ⟨ic,hic,hc0,hc1,hc2⟩:=info_parts infoChannel
 have HR:=Lib.hid hRows
 have HP:=Lib.hid hP
 clear hRows hP
 go_enter Tryz.func99,Tryz.ntmps99
 go_wp2
 have HS:=Lib.hid (mrg_start w F)
 go_loopw [14] (fun i wr=> ∃(k:Nat) (acc:Cfg) (v1 v2 v3 v4 v5:Value) (rs:List CE),k≤l.length∧i= .int .i64 k∧Hid (catAll F l=(l.drop k).foldl Cfg.cat acc)∧acc.total+sumTot (l.drop k)≤4194304∧Hid (MrgC w wr F acc v1 v2 v3 v4 v5 rs)) (fun i _=>l.length -(intOf i).toNat)
 case atStart=>exact ⟨0,_,_,_,_,_,_,_,Nat.zero_le _,rfl,Lib.hid rfl,by simpa [Cfg.total,sumDests] using ht,HS⟩
 case round=>
  obtain ⟨k,acc,v1,v2,v3,v4,v5,rs,hk,rfl,hcat,htot,hst⟩:=hrel
  clear HS
  by_cases hlt:k <l.length
  ·obtain ⟨x,hx⟩:=get_lt hlt
   have hbw:=hst.out.bel
   obtain ⟨b,o,A1,A2,A3,A4,A5,c1,c2,c3,c4,c5,rfl,hb,hRx,y0,y1,y2,y3,y4,y5⟩:=cfg_at (rows_map (fun _ _ h=>h) HR.out) HP.out hx
   have z0:=(hbw.cell (p:=⟨b,o+k*6,none⟩) hb).trans y0
   have z1:=(hbw.cell (p:=⟨b,o+k*6+1,none⟩) hb).trans y1
   have z2:=(hbw.cell (p:=⟨b,o+k*6+2,none⟩) hb).trans y2
   have z3:=(hbw.cell (p:=⟨b,o+k*6+3,none⟩) hb).trans y3
   have z4:=(hbw.cell (p:=⟨b,o+k*6+4,none⟩) hb).trans y4
   have z5:=(hbw.cell (p:=⟨b,o+k*6+5,none⟩) hb).trans y5
   have HX:=Lib.hid hx
   have HRX:=Lib.hid hRx
   have HBW:=Lib.hid hbw
   have hsum:acc.total+x.total≤4194304:=by
    rw [drop_cons hx] at htot
    simp only [sumTot,List.map_cons,List.sum_cons] at htot
    omega
   have HT:=Lib.hid htot
   clear y0 y1 y2 y3 y4 y5 hx hRx hbw htot
   have bb1:acc.parts.length+x.parts.length≤4194304:=by unfold Cfg.total at hsum;omega
   have bb2:acc.wins.length+x.wins.length≤4194304:=by unfold Cfg.total at hsum;omega
   have bb3:acc.regs.length+x.regs.length≤4194304:=by unfold Cfg.total at hsum;omega
   have bb4:acc.ports.length+x.ports.length≤4194304:=by unfold Cfg.total at hsum;omega
   have bb5:acc.chans.length+x.chans.length≤4194304:=by unfold Cfg.total at hsum;omega
   have hzr:=hst.out.hz
   go_upto_region 5 with (fail)
   have st:=hst.out.later ((Below.refl wr.heap.size wr).alloc (Nat.le_refl _) (.cells #[.int .u64 x.frame, .slice A1 x.parts.length c1, .slice A2 x.wins.length c2, .slice A3 x.regs.length c3, .slice A4 x.ports.length c4, .slice A5 x.chans.length c5] 29))
   have bm:=Blk.new wr 29 #[.int .u64 x.frame, .slice A1 x.parts.length c1, .slice A2 x.wins.length c2, .slice A3 x.regs.length c3, .slice A4 x.ports.length c4, .slice A5 x.chans.length c5]
   have HT0:=Lib.hid hst.out.hz
   clear hst z0 z1 z2 z3 z4 z5
   generalize World.alloc wr _=W0 at st bm ⊢
   have q:=st.out.cell 1
   have p:=bm.cell 1
   simp at q p
   have ST:=Lib.hid st
   have BM:=Lib.hid bm
   clear st bm
   go_upto_region 6 with (at_builtin;go_loud (refine wpList_append_rd _ rfl (.tmp 19) (.tmp 21) _ rfl (w.heap.size+2) 49 ip (.agg #[.int .u16 0, .string .empty, .int .u64 0, .int .u64 0]) 4 40 Tryz.underlying23 hip hp0 hp1 hp2 rfl (by decide) _ _ _ rfl ST.out.o1 W0.heap.size A1 x.parts.length c1 _ rfl (HRX.out.parts.up ST.out.bel) (onePar _) (by show acc.parts.length+x.parts.length≤_;unfold maxLen;omega) (by show (acc.parts.length+x.parts.length)*40≤_;omega) (by have:=ST.out.hz;omega) ?_);intro nv1 V1 hown hg;obtain ⟨nA1,nc1,rfl,_⟩:=own_form hown;have hout:=ST.out.out.off (Off.of_own ST.out.o1 hg) (by decide);have cc:=hout.cell 1;have ff:=hout.frozen 1;simp at cc)
   have st:=ST.out.app1 hown hg
   have bm:=(BM.out.off (Off.of_own ST.out.o1 hg) (by decide)).far (p:=⟨w.heap.size+1,1,none⟩) (by show wr.heap.size≠w.heap.size+1;have:=HT0.out;omega) (.slice nA1 (acc.parts.length+x.parts.length) nc1)
   clear hown hg hout cc ff q p ST BM
   generalize World.setCell V1 _ _=W1 at st bm ⊢
   have q:=st.out.cell 2
   have p:=bm.cell 2
   simp at q p
   have ST:=Lib.hid st
   have BM:=Lib.hid bm
   clear st bm
   go_upto_region 7 with (at_builtin;go_loud (refine wpList_append_rd _ rfl (.tmp 25) (.tmp 27) _ rfl (w.heap.size+2) 71 iw (.agg #[.int .u64 0, .int .u64 0, .int .u16 0]) 3 24 Tryz.underlying24 hiw hw0 hw1 hw2 rfl (by decide) _ _ _ rfl ST.out.o2 W1.heap.size A2 x.wins.length c2 _ rfl (HRX.out.wins.up ST.out.bel) (oneWin _) (by show acc.wins.length+x.wins.length≤_;unfold maxLen;omega) (by show (acc.wins.length+x.wins.length)*24≤_;omega) (by have:=ST.out.hz;omega) ?_);intro nv2 V2 hown hg;obtain ⟨nA2,nc2,rfl,_⟩:=own_form hown;have hout:=ST.out.out.off (Off.of_own ST.out.o2 hg) (by decide);have cc:=hout.cell 2;have ff:=hout.frozen 2;simp at cc)
   have st:=ST.out.app2 hown hg
   have bm:=(BM.out.off (Off.of_own ST.out.o2 hg) (by decide)).far (p:=⟨w.heap.size+1,2,none⟩) (by show wr.heap.size≠w.heap.size+1;have:=HT0.out;omega) (.slice nA2 (acc.wins.length+x.wins.length) nc2)
   clear hown hg hout cc ff q p ST BM
   generalize World.setCell V2 _ _=W2 at st bm ⊢
   have q:=st.out.cell 3
   have p:=bm.cell 3
   simp at q p
   have ST:=Lib.hid st
   have BM:=Lib.hid bm
   clear st bm
   go_upto_region 8 with (at_builtin;go_loud (refine wpList_append_rd _ rfl (.tmp 31) (.tmp 33) _ rfl (w.heap.size+2) 75 ir (.agg #[.int .u64 0, .int .u64 0, .int .u16 0, .int .u8 0, .bool false]) 5 24 Tryz.underlying25 hir hr0 hr1 hr2 rfl (by decide) _ _ _ rfl ST.out.o3 W2.heap.size A3 x.regs.length c3 _ rfl (HRX.out.regs.up ST.out.bel) (oneReg _) (by show acc.regs.length+x.regs.length≤_;unfold maxLen;omega) (by show (acc.regs.length+x.regs.length)*24≤_;omega) (by have:=ST.out.hz;omega) ?_);intro nv3 V3 hown hg;obtain ⟨nA3,nc3,rfl,_⟩:=own_form hown;have hout:=ST.out.out.off (Off.of_own ST.out.o3 hg) (by decide);have cc:=hout.cell 3;have ff:=hout.frozen 3;simp at cc)
   have st:=ST.out.app3 hown hg
   have bm:=(BM.out.off (Off.of_own ST.out.o3 hg) (by decide)).far (p:=⟨w.heap.size+1,3,none⟩) (by show wr.heap.size≠w.heap.size+1;have:=HT0.out;omega) (.slice nA3 (acc.regs.length+x.regs.length) nc3)
   clear hown hg hout cc ff q p ST BM
   generalize World.setCell V3 _ _=W3 at st bm ⊢
   have q:=st.out.cell 4
   have p:=bm.cell 4
   simp at q p
   have ST:=Lib.hid st
   have BM:=Lib.hid bm
   clear st bm
   go_upto_region 9 with (at_builtin;go_loud (refine wpList_append_rd _ rfl (.tmp 37) (.tmp 39) _ rfl (w.heap.size+2) 52 it (.agg #[.int .u16 0, .int .u16 0, .string .empty, .bool false, .bool false, .int .u32 0]) 6 32 Tryz.underlying26 hit ht0 ht1 ht2 rfl (by decide) _ _ _ rfl ST.out.o4 W3.heap.size A4 x.ports.length c4 _ rfl (HRX.out.ports.up ST.out.bel) (onePrt _) (by show acc.ports.length+x.ports.length≤_;unfold maxLen;omega) (by show (acc.ports.length+x.ports.length)*32≤_;omega) (by have:=ST.out.hz;omega) ?_);intro nv4 V4 hown hg;obtain ⟨nA4,nc4,rfl,_⟩:=own_form hown;have hout:=ST.out.out.off (Off.of_own ST.out.o4 hg) (by decide);have cc:=hout.cell 4;have ff:=hout.frozen 4;simp at cc)
   have st:=ST.out.app4 hown hg
   have bm:=(BM.out.off (Off.of_own ST.out.o4 hg) (by decide)).far (p:=⟨w.heap.size+1,4,none⟩) (by show wr.heap.size≠w.heap.size+1;have:=HT0.out;omega) (.slice nA4 (acc.ports.length+x.ports.length) nc4)
   clear hown hg hout cc ff q p ST BM
   generalize World.setCell V4 _ _=W4 at st bm ⊢
   have p:=bm.cell 5
   simp at p
   have BM:=Lib.hid bm
   have HST:=Lib.hid st
   clear st bm
   go_wp2
   clear p
   go_loopw [45] (fun i wr=> ∃(k2:Nat) (vv:Value) (rs2:List CE),k2≤x.chans.length∧i= .int .i64 k2∧Hid (MrgC w wr F ⟨acc.frame,acc.parts++x.parts,acc.wins++x.wins,acc.regs++x.regs,acc.ports++x.ports,acc.chans++x.chans.take k2⟩ (.slice nA1 (acc.parts.length+x.parts.length) nc1) (.slice nA2 (acc.wins.length+x.wins.length) nc2) (.slice nA3 (acc.regs.length+x.regs.length) nc3) (.slice nA4 (acc.ports.length+x.ports.length) nc4) vv rs2)) (fun i _=>x.chans.length -(intOf i).toNat)
   case atStart=>exact ⟨0,_,_,Nat.zero_le _,rfl,Lib.hid (by simpa using HST.out)⟩
   case round=>
    obtain ⟨k2,vv,rs2,hk2,rfl,hst2⟩:=hrel
    clear HST BM
    by_cases hlt2:k2 <x.chans.length
    ·obtain ⟨y,hy⟩:=get_lt hlt2
     obtain ⟨cs,hC,hPC⟩:=HRX.out.chans
     have hC2:=hC
     obtain ⟨b2,o2,rfl,hb2,y0,y1,D,d,y2,hd1,hd2,hD⟩:=chn_at hC hPC hy
     have hbw:=hst2.out.bel
     have z0:=(hbw.cell (p:=⟨b2,o2+k2*3,none⟩) hb2).trans y0
     have z1:=(hbw.cell (p:=⟨b2,o2+k2*3+1,none⟩) hb2).trans y1
     have z2:=(hbw.cell (p:=⟨b2,o2+k2*3+2,none⟩) hb2).trans y2
     have HY:=Lib.hid hy
     have HD:=Lib.hid (hD.up hbw)
     have hzl:=hst2.out.hz
     have hbd:y.dests.length≤4194304:=by
      have h1:sumDests x.chans=sumDests (x.chans.take (k2+1))+sumDests (x.chans.drop (k2+1)):=by
       unfold sumDests
       rw [←List.sum_append, ←List.map_append,List.take_append_drop]
      have h2:=sumDests_next hy
      unfold Cfg.total at hsum
      omega
     clear y0 y1 y2 hy hD hC hC2 hPC hbw
     go_upto_region 12 with (fail)
     have hba:=(Below.refl wr.heap.size wr).alloc (Nat.le_refl _) (.cells #[.int .u16 y.id, .int .u16 y.source, .slice D y.dests.length d] 57)
     have hna:(wr.alloc (.cells #[.int .u16 y.id, .int .u16 y.source, .slice D y.dests.length d] 57)).heap.size=wr.heap.size+1:=by simp
     have bx:=Blk.new wr 57 #[.int .u16 y.id, .int .u16 y.source, .slice D y.dests.length d]
     clear z0 z1 z2
     generalize World.alloc wr _=Wa at hba hna bx ⊢
     have q:=bx.cell 2
     simp at q
     have hDa:D=none→y.dests= []:=fun e=>by
      subst e
      exact List.eq_nil_of_length_eq_zero (rd_none HD.out)
     have HA:=Lib.hid hba
     have BX:=Lib.hid bx
     clear hba bx
     go_upto_region 13 with (go_at_call 135;refine (clone16_ok y.dests D d Wa hbd (HD.out.up HA.out) hDa).mono ?_;rintro e w1 ⟨nv,rfl,hv,hb1⟩;obtain ⟨nD,nd,rfl,_⟩:=own_form hv;have b1:=BX.out.below hb1 BX.out.lt;have q1:=b1.cell 2;have f1:=b1.frozen 2;simp at q1)
     have hb1w:Below wr.heap.size wr (w1.setCell ⟨wr.heap.size,2,none⟩ (.slice nD y.dests.length nd)):=(HA.out.trans (hb1.mono (by omega))).setCell (Nat.le_refl _) _
     have bx:=b1.set_ 2 (.slice nD y.dests.length nd)
     simp at bx
     have hv2:=own_set hv (p:=⟨wr.heap.size,2,none⟩) (by show wr.heap.size <Wa.heap.size;omega) (.slice nD y.dests.length nd)
     clear q1 f1 b1 hb1 hv q
     generalize World.setCell w1 _ _=Wc at hb1w bx hv2 ⊢
     have st:=hst2.out.later hb1w
     have q:=st.out.cell 5
     simp at q
     have p0:=bx.cell 0
     have p1:=bx.cell 1
     have p2:=bx.cell 2
     simp at p0 p1 p2
     have hn:=Blk.new Wc 57 #[.int .u16 y.id, .int .u16 y.source, .slice nD y.dests.length nd]
     have hbn:=(Below.refl Wc.heap.size Wc).alloc (Nat.le_refl _) (.cells #[.int .u16 y.id, .int .u16 y.source, .slice nD y.dests.length nd] 57)
     have HN:=Lib.hid hn
     have HBN:=Lib.hid hbn
     have ST:=Lib.hid (st.later hbn)
     have HV:=Lib.hid hv2
     have HFR:=Lib.hid (show ∀a ∈ rs2, ∀g,a.v.ownBlock=some g→(⟨y,nD,nd⟩:CE).v.ownBlock≠some g from fun a ha g h1 h2=>by have q1:=((hst2.out.ch.own a ha).lt g h1).2;have q2:=(hv2.lt g h2).1;omega)
     clear st hn hbn bx hv2 hb1w hst2
     have e5:(acc.chans++x.chans.take k2).length=acc.chans.length+k2:=by simp;omega
     have ho5:(Wc.alloc (.cells #[.int .u16 y.id, .int .u16 y.source, .slice nD y.dests.length nd] 57)).ownsRow (w.heap.size+2) 57 3 vv (acc.chans.length+k2) (rs2.flatMap CE.cells):=by rw [←e5];exact ST.out.o5
     have HO5:=Lib.hid ho5
     clear ho5
     go_upto_region 14 with (at_builtin;go_loud (refine wpList_append_rd _ rfl (.tmp 54) (.tmp 56) _ rfl (w.heap.size+2) 57 ic (.agg #[.int .u16 0, .int .u16 0, .slice none 0 0]) 3 32 Tryz.underlying27 hic hc0 hc1 hc2 rfl (by decide) _ _ _ rfl HO5.out (Wc.heap.size+1) (some ⟨Wc.heap.size,0,none⟩) 1 1 [.int .u16 y.id, .int .u16 y.source, .slice nD y.dests.length nd] rfl ⟨rfl,fun _=>⟨_,_,rfl,Nat.lt_succ_self _,fun j u hu=>(HN.out.cell _).trans (by simpa using hu)⟩⟩ (by simp [Value.oneCell']) (by unfold maxLen;omega) (by omega) (by have:=ST.out.hz;omega) ?_);intro nv V5 hown hg;obtain ⟨nA5,nc5,rfl,_⟩:=own_form hown;have hout:=ST.out.out.off (Off.of_own HO5.out hg) (by decide);have cc:=hout.cell 5;have ff:=hout.frozen 5;simp at cc)
     have hown':V5.ownsRow (w.heap.size+2) 57 3 (.slice nA5 (acc.chans.length+k2+1) nc5) ((acc.chans++x.chans.take k2).length+1) (rs2.flatMap CE.cells++(⟨y,nD,nd⟩:CE).cells):=by rw [e5];exact hown
     have st:=ST.out.app5 (e:=⟨y,nD,nd⟩) (own_below (own_base HV.out (by omega)) HBN.out) HFR.out hown' hg
     clear hown hown' hg hout cc ff q p0 p1 p2
     generalize World.setCell V5 _ _=W5 at st ⊢
     have ST:=Lib.hid st
     clear st
     go_wp2
     go_roundw
     case rel=>exact ⟨k2+1,_,_,by omega,by go_num,Lib.hid (by rw [take_next HY.out, ←List.append_assoc];exact ST.out)⟩
     case measure=>simp [intOf];omega
    ·obtain rfl:k2=x.chans.length:=by omega
     rw [List.take_length] at hst2
     go_wp2
     go_roundw
     case rel=>exact ⟨k+1,acc.cat x,_,_,_,_,_,_,by omega,by go_num,Lib.hid (by rw [hcat.out,drop_cons HX.out];rfl),by have:=HT.out;rw [drop_cons HX.out] at this;simp only [sumTot,List.map_cons,List.sum_cons] at this ⊢;rw [cat_total];omega,hst2⟩
     case measure=>simp [intOf];omega
  ·obtain rfl:k=l.length:=by omega
   obtain ⟨nA1,nc1,rfl,_⟩:=own_form hst.out.o1
   obtain ⟨nA2,nc2,rfl,_⟩:=own_form hst.out.o2
   obtain ⟨nA3,nc3,rfl,_⟩:=own_form hst.out.o3
   obtain ⟨nA4,nc4,rfl,_⟩:=own_form hst.out.o4
   obtain ⟨nA5,nc5,rfl,_⟩:=own_form hst.out.o5
   have p0:=hst.out.out.cell 0
   have p1:=hst.out.out.cell 1
   have p2:=hst.out.out.cell 2
   have p3:=hst.out.out.cell 3
   have p4:=hst.out.out.cell 4
   have p5:=hst.out.out.cell 5
   have r0:=hst.out.res.cell 0
   have r1:=hst.out.res.cell 1
   have r2:=hst.out.res.cell 2
   have r3:=hst.out.res.cell 3
   have r4:=hst.out.res.cell 4
   have r5:=hst.out.res.cell 5
   simp at p0 p1 p2 p3 p4 p5 r0 r1 r2 r3 r4 r5
   have hfr:=hst.out.res.frozen
   have hzl:=hst.out.hz
   go_wp2
   refine bodyPost_ret (v:=cfgV F nA1 nA2 nA3 nA4 nA5 acc.parts.length acc.wins.length acc.regs.length acc.ports.length acc.chans.length nc1 nc2 nc3 nc4 nc5) (by simp [results,Tryz.results99,go_sem,r0,r1,r2,r3,r4,r5]) rfl ?_
   have hc:catAll F l=acc:=by rw [hcat.out,List.drop_length];rfl
   rw [hc]
   refine ⟨_,_,_,_,_,_,_,_,_,_,rfl, ?_, ?_⟩
   ·exact hst.out.done fun g hg=>(Below.heap_setCell _ _ _ g hg).trans ((Below.heap_setCell _ _ _ g hg).trans ((Below.heap_setCell _ _ _ g hg).trans ((Below.heap_setCell _ _ _ g hg).trans ((Below.heap_setCell _ _ _ g hg).trans (Below.heap_setCell _ _ _ g hg)))))
   ·exact (((((hst.out.bel.setCell (Nat.le_refl _) _).setCell (Nat.le_refl _) _).setCell (Nat.le_refl _) _).setCell (Nat.le_refl _) _).setCell (Nat.le_refl _) _).setCell (Nat.le_refl _) _
theorem cfg_new (w:World) (c:Cfg) (A1 A2 A3 A4 A5:Option Addr) (c1 c2 c3 c4 c5:Nat) (B:Nat) (t:TypeId) (hR:CfgR w B c A1 A2 A3 A4 A5 c1 c2 c3 c4 c5) (hB:B≤w.heap.size):
  RowsOf (CfgC (w.alloc (.cells #[.int .u64 c.frame, .slice A1 c.parts.length c1, .slice A2 c.wins.length c2, .slice A3 c.regs.length c3, .slice A4 c.ports.length c4, .slice A5 c.chans.length c5] t)) (w.heap.size+1)) [c] [.int .u64 c.frame, .slice A1 c.parts.length c1, .slice A2 c.wins.length c2, .slice A3 c.regs.length c3, .slice A4 c.ports.length c4, .slice A5 c.chans.length c5]∧
  Rd (w.alloc (.cells #[.int .u64 c.frame, .slice A1 c.parts.length c1, .slice A2 c.wins.length c2, .slice A3 c.regs.length c3, .slice A4 c.ports.length c4, .slice A5 c.chans.length c5] t)) (w.heap.size+1) 6 (some ⟨w.heap.size,0,none⟩) 1 [.int .u64 c.frame, .slice A1 c.parts.length c1, .slice A2 c.wins.length c2, .slice A3 c.regs.length c3, .slice A4 c.ports.length c4, .slice A5 c.chans.length c5]:=
 ⟨rows_one ⟨A1,A2,A3,A4,A5,c1,c2,c3,c4,c5,rfl,(hR.alloc hB _).more (by omega)⟩,rfl,fun _=>⟨_,_,rfl,Nat.lt_succ_self _,fun j u hu=>((Blk.new w t _).cell _).trans (by simpa using hu)⟩⟩
theorem cat_one (c:Cfg):catAll c.frame [c]=c:=by
 obtain ⟨f,a1,a2,a3,a4,a5⟩:=c
 simp [catAll,Cfg.cat]
set_option maxRecDepth 100000 in
set_option maxHeartbeats 1000000 in
theorem cloneC_ok (c:Cfg) (A1 A2 A3 A4 A5:Option Addr) (c1 c2 c3 c4 c5:Nat) (w:World) (hR:CfgR w w.heap.size c A1 A2 A3 A4 A5 c1 c2 c3 c4 c5) (ht:c.total≤4194304):
  Calls Tryz.prog 60 #[cfgV c.frame A1 A2 A3 A4 A5 c.parts.length c.wins.length c.regs.length c.ports.length c.chans.length c1 c2 c3 c4 c5] w fun e w'=> ∃A1 A2 A3 A4 A5 c1 c2 c3 c4 c5,
   e= .returned (cfgV c.frame A1 A2 A3 A4 A5 c.parts.length c.wins.length c.regs.length c.ports.length c.chans.length c1 c2 c3 c4 c5)∧OwnC w' w.heap.size c A1 A2 A3 A4 A5 c1 c2 c3 c4 c5∧Below w.heap.size w w':=by
 have hst:sumTot [c]≤4194304:=by simpa [sumTot] using ht
 have HR:=Lib.hid hR
 clear hR
 go_enter Tryz.func60,Tryz.ntmps60
 go_wp2_with fail
 have hbw:=((Below.refl w.heap.size w).alloc (Nat.le_refl _) (.cells #[.int .u64 c.frame, .slice A1 c.parts.length c1, .slice A2 c.wins.length c2, .slice A3 c.regs.length c3, .slice A4 c.ports.length c4, .slice A5 c.chans.length c5] 29)).alloc (by simp) (.cells #[.int .u64 0, .slice none 0 0, .slice none 0 0, .slice none 0 0, .slice none 0 0, .slice none 0 0] 29)
 have hs1:((w.alloc (.cells #[.int .u64 c.frame, .slice A1 c.parts.length c1, .slice A2 c.wins.length c2, .slice A3 c.regs.length c3, .slice A4 c.ports.length c4, .slice A5 c.chans.length c5] 29)).alloc (.cells #[.int .u64 0, .slice none 0 0, .slice none 0 0, .slice none 0 0, .slice none 0 0, .slice none 0 0] 29)).heap.size=w.heap.size+2:=by simp
 have hres:=Blk.new (w.alloc (.cells #[.int .u64 c.frame, .slice A1 c.parts.length c1, .slice A2 c.wins.length c2, .slice A3 c.regs.length c3, .slice A4 c.ports.length c4, .slice A5 c.chans.length c5] 29)) 29 #[.int .u64 0, .slice none 0 0, .slice none 0 0, .slice none 0 0, .slice none 0 0, .slice none 0 0]
 simp only [World.size_alloc] at hres
 rw [show w.heap.size+1+1=w.heap.size+2 from rfl, ←hs1]
 generalize World.alloc (World.alloc w _) _=W1 at hbw hs1 hres ⊢
 obtain ⟨k1,k2⟩:=cfg_new W1 c A1 A2 A3 A4 A5 c1 c2 c3 c4 c5 W1.heap.size 29 (HR.out.up hbw) (Nat.le_refl _)
 refine (mergeC_ok c.frame [c] _ 1 _ _ (by simpa using k1) (by simpa using k2) (by simp) hst).mono ?_
 rintro e w1 ⟨B1,B2,B3,B4,B5,d1,d2,d3,d4,d5,rfl,hown,hb1⟩
 rw [cat_one] at hown ⊢
 have hb2:Below W1.heap.size W1 w1:=((Below.refl W1.heap.size W1).alloc (Nat.le_refl _) (.cells #[.int .u64 c.frame, .slice A1 c.parts.length c1, .slice A2 c.wins.length c2, .slice A3 c.regs.length c3, .slice A4 c.ports.length c4, .slice A5 c.chans.length c5] 29)).trans (hb1.mono (by simp))
 have hr:=hres.below hb2 (by omega)
 have r0:=hr.cell 0
 have r1:=hr.cell 1
 have r2:=hr.cell 2
 have r3:=hr.cell 3
 have r4:=hr.cell 4
 have r5:=hr.cell 5
 simp at r0 r1 r2 r3 r4 r5
 have hfr:=hr.frozen
 have HR1:=Lib.hid hr
 have HO:=Lib.hid (hown.base (show w.heap.size≤_ by simp;omega))
 have HB:=Lib.hid (hbw.trans (hb2.mono (by omega)))
 clear hown hb2 hb1 hr k1 k2 hres hbw
 go_wp2
 refine bodyPost_ret (v:=cfgV c.frame B1 B2 B3 B4 B5 c.parts.length c.wins.length c.regs.length c.ports.length c.chans.length d1 d2 d3 d4 d5) (by simp [results,Tryz.results60,go_sem,r0,r1,r2,r3,r4,r5]) rfl ?_
 refine ⟨_,_,_,_,_,_,_,_,_,_,rfl, ?_, ?_⟩
 ·exact OwnC.but HO.out HR1.out (by decide) (by decide) (by decide) (by decide) (by decide) (by decide) fun g hg=>(Below.heap_setCell _ _ _ g hg).trans ((Below.heap_setCell _ _ _ g hg).trans ((Below.heap_setCell _ _ _ g hg).trans ((Below.heap_setCell _ _ _ g hg).trans ((Below.heap_setCell _ _ _ g hg).trans (Below.heap_setCell _ _ _ g hg)))))
 ·exact (((((HB.out.setCell (Nat.le_succ _) _).setCell (Nat.le_succ _) _).setCell (Nat.le_succ _) _).setCell (Nat.le_succ _) _).setCell (Nat.le_succ _) _).setCell (Nat.le_succ _) _
end Go.Proofs.YteelncofiodflaaGreat
