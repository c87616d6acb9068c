/-
  Normal of the reference of layer 5, walked: records in order, destinations in order.
-/
import Derived.BigQuiet
import Derived.Deep.RegionHeld3
import Derived.Test.YtcfoolooemhbeaaGreatKeyZ
import Derived.Test.YtcfoolooemhbeaaGreatNrW
import Derived.Test.YtcfoolooemhbeaaGreatIsN
import Derived.Test.YtcfoolooemhbeaaGreatInvZ
namespace Go.Proofs.YtcfoolooemhbeaaGreat
open Go.RowKit
attribute [local go_sem] ext_cell
attribute [local simp] drew_heapK
theorem own_litS (w:World) (base:Nat) (E:TypeId) (sz:Nat) (l:List Value) (b n:Nat) (hb:base≤w.heap.size) (hbk:w.heap.size=b) (hl:n≤maxLen) (hn:l.length=n*sz) (cs:Array Value) (hc:cs=l.toArray):
  (w.alloc (.cells cs E)).ownsRow base E sz (.slice (some ⟨b,0,none⟩) n n) n l:=by
 subst hbk hc
 exact ⟨hn, .inr ⟨w.heap.size,n,l.toArray,rfl,hb,heap_alloc_new w _,Nat.le_refl _,hl,by simp [hn],by rw [List.take_of_length_le (by simp [hn])]⟩⟩
theorem step_appS {P:Program} (V:World) {w:World} {o:Oper} {a:Act} {K:Act→World→Prop} {Q:Exit→Act→World→Prop} {ys:Nat→Option Bool} (T E:TypeId) (sz:Nat) (i:TypeInfo) (z:Value) (bytes:Nat) (hT:P.underlying T=some (.slice E)) (hi:P.info? E=some i) (hz0:i.zero=some z) (hz1:i.size=sz) (hz2:i.bytes=bytes) (hzs:z.cells.size=sz) (hsz:0 <sz)
  (hwt:Region.wanted o ys=true) (s x:Operand) (ho:o.op= .call {callee:= .builtin .append,args:= #[s,x],argTypes:= #[T,T]})
  (base:Nat) (n:Nat) (xs:List Value) (hown:w.ownsRow base E sz (a.eval s) n xs)
  (m:Nat) (news:List Value) (hr:w.ownsRow V.heap.size E sz (a.eval x) m news) (h1: ∀u ∈ news,u.oneCell'=true)
  (hlen:(n+m)*bytes≤140737488355328) (hlen2:n+m≤maxLen) (hB:Below V.heap.size V w) (hbase:base≤V.heap.size)
  (h: ∀v' w',w'.ownsRow base E sz v' (n+m) (xs++news)→w.grownBy w' (a.eval s).ownBlock→Off E w w'→Below base V w'→K (a.put o.dst v') w'):
  if Region.wanted o ys=true then Oper.wp P o a w K Q else K (a.put o.dst undef) w:=by
 rw [if_pos hwt]
 obtain ⟨A,c,hx,_,_,hrd⟩:=own_form hr
 obtain ⟨v',w',hrun,h2,h3⟩:=run_append_rd (P:=P) w base T o.type E i z sz bytes hT hi hz0 hz1 hz2 hzs hsz (a.eval s) n _ hown w.heap.size A m c _ hrd h1 hlen2 hlen (Nat.le_trans hbase hB.size)
 unfold Oper.wp execOp
 simp only [ho,resolve,invoke,builtin,Sem.run_bind,Sem.run_pure,Result.andThen_ok,List.map_toArray,List.map_cons,List.map_nil,hx,hrun]
 exact h _ _ h2 h3 (Off.of_own hown h3) (below_own (hB.mono hbase) h3 hown (Nat.le_trans hbase hB.size))
theorem rOrder_n (l:List (List Int)) (n:Nat) (hn:n=l.length) (A:Option Addr) (c:Nat) (w:World) (hl:l.length≤1048576) (hk: ∀k ∈ l,k.length≤8388608) (hR:KeysI w w.heap.size l A):
  Calls Tryz.prog 128 #[.slice A n c] w fun e w'=> ∃A o c,e= .returned (.slice A n c)∧OrdTo l n o∧w'.ownsRow w.heap.size 3 1 (.slice A n c) n (o.map iV)∧Below w.heap.size w w':=by
 subst hn
 refine (rOrder_ok l A c w hl hk hR).mono fun e w' ⟨v,o,he,ho,hw,hb⟩=> ?_
 have hol:=ho.len
 obtain ⟨A',c',rfl,_⟩:=own_form hw
 rw [hol] at he hw
 exact ⟨A',o,c',he,ho,hw,hb⟩
def pick {α:Type} (l:List α) (o:List Nat):List α:=o.filterMap (fun i=>l[i]?)
theorem pick_take {α:Type} {l:List α} {o:List Nat} {j i:Nat} {x:α} (hj:o[j]? =some i) (hx:l[i]? =some x):pick l (o.take (j+1))=pick l (o.take j)++ [x]:=by
 unfold pick
 rw [take_next hj,List.filterMap_append]
 simp [hx]
theorem pick_range {α:Type}: ∀l:List α,pick l (List.range l.length)=l:=by
 intro l
 have: ∀n,n≤l.length→pick l (List.range n)=l.take n:=by
  intro n
  induction n with
  |zero=>intro _;simp [pick]
  |succ n ih=>
   intro h
   obtain ⟨x,hx⟩:=get_lt (l:=l) (k:=n) (by omega)
   rw [List.range_succ,take_next hx, ←ih (by omega)]
   unfold pick
   rw [List.filterMap_append]
   simp [hx]
 rw [this _ (Nat.le_refl _),List.take_length]
theorem pick_len {α:Type} {l:List α}: ∀ {o:List Nat},(∀i ∈ o,i <l.length)→(pick l o).length=o.length
 | [],_=>rfl
 |i::o,h=>by
  obtain ⟨x,hx⟩:=get_lt (l:=l) (k:=i) (h i (by simp))
  have:=pick_len (l:=l) (o:=o) (fun j hj=>h j (by simp [hj]))
  unfold pick at this ⊢
  rw [List.filterMap_cons,hx]
  simp [this]
theorem pick_perm {α:Type} {l:List α} {o:List Nat} (h:o.Perm (List.range l.length)):(pick l o).Perm l:=by
 have:=h.filterMap (fun i=>l[i]?)
 have e:=pick_range l
 unfold pick at e ⊢
 rwa [e] at this
theorem pick_mem {α:Type} {l:List α} {o:List Nat} {x:α} (h:x ∈ pick l o):x ∈ l:=by
 unfold pick at h
 obtain ⟨i,_,hi⟩:=List.mem_filterMap.1 h
 exact List.mem_of_getElem? hi
theorem pick_asc {α:Type} {key:α→List Int} {l:List α} {o:List Nat} (h:o.Pairwise (leAt (l.map key))):Asc key (pick l o):=by
 unfold Asc pick
 rw [List.pairwise_filterMap]
 refine h.imp_of_mem ?_
 intro a b ha hb hab x hx y hy
 unfold leAt at hab
 rw [keyAt_eq (k:=key x) (by simp [hx]),keyAt_eq (k:=key y) (by simp [hy])] at hab
 exact hab
theorem pick_norm {α:Type} {key:α→List Int} (hinj: ∀x y,key x=key y→x=y) {l:List α} {o:List Nat} (h:OrdTo (l.map key) l.length o):pick l o=normK key l:=
 normK_unique key hinj (pick_perm h.perm) (pick_asc h.asc)
theorem sortD_ok {x:Chn} (h:x.ok):(sortD x).ok:=⟨h.id,h.source,fun d hd=>h.dests d (by
 unfold sortD at hd
 exact (List.mergeSort_perm _ _).mem_iff.1 hd)⟩
def Cfg.srt (c:Cfg):Cfg:= {c with chans:=c.chans.map sortD}
theorem Cfg.srt_ok {c:Cfg} (h:c.ok):c.srt.ok:=⟨h.frame,h.parts,h.wins,h.regs,h.ports,fun p hp=>by
 obtain ⟨x,hx,rfl⟩:=List.mem_map.1 hp
 exact sortD_ok (h.chans x hx)⟩
theorem Cfg.srt_small {c:Cfg} (h:c.small):c.srt.small:=by
 refine ⟨?_,h.pnames,h.tnames⟩
 have:=h.total
 unfold Cfg.total at this ⊢
 unfold Cfg.srt
 simp only [List.length_map,sumDests_sort]
 exact this
def DO (W:World) (B:Nat) (L:List CE):Prop:= ∀e ∈ L,W.ownsRow B 49 1 e.v e.x.dests.length (e.x.dests.map (Value.int .u16))
theorem DO.below {W V:World} {B:Nat} {L:List CE} (h:DO W B L) (hb:Below W.heap.size W V):DO V B L:=fun e he=>own_below (h e he) hb
theorem DO.off {W V:World} {B:Nat} {L:List CE} {ty:TypeId} (h:DO W B L) (ho:Off ty W V) (hne:49≠ty):DO V B L:=fun e he=>own_off (h e he) ho hne
theorem DO.set_ {W:World} {B:Nat} {L:List CE} (h:DO W B L) {p:Addr} (hp:p.block <B) (u:Value):DO (W.setCell p u) B L:=fun e he=>own_set (h e he) hp u
theorem DO.snoc {W:World} {B:Nat} {L:List CE} {e:CE} (h:DO W B L) (ho:W.ownsRow B 49 1 e.v e.x.dests.length (e.x.dests.map (Value.int .u16))):DO W B (L++ [e]):=fun a ha=>by
 rcases List.mem_append.1 ha with ha |ha
 ·exact h a ha
 ·rw [List.mem_singleton] at ha;rw [ha];exact ho
theorem DO.chns {W:World} {B:Nat} {L:List CE} (h:DO W B L):ChnsC W W.heap.size (L.map (·.x)) (L.flatMap CE.cells):=rows_chns (rows_map (fun _ _ hx=>ChnT.toC hx) (ChnsO.rows h))
structure N1 (w W:World) (c:Cfg) (A1 A2 A3 A4 A5:Option Addr) (c1 c2 c3 c4 c5:Nat):Prop where
 bel:Below w.heap.size w W
 sz:w.heap.size+1+1+1≤W.heap.size
 box:Blk W w.heap.size 29 #[.int .u64 c.frame, .slice A1 c.parts.length c1, .slice A2 c.wins.length c2, .slice A3 c.regs.length c3, .slice A4 c.ports.length c4, .slice A5 c.chans.length c5]
 res:Blk W (w.heap.size+1) 29 #[.int .u64 0, .slice none 0 0, .slice none 0 0, .slice none 0 0, .slice none 0 0, .slice none 0 0]
 out:Blk W (w.heap.size+1+1) 29 #[.int .u64 c.frame, .slice none 0 0, .slice none 0 0, .slice none 0 0, .slice none 0 0, .slice none 0 0]
theorem N1.up {w W V:World} {c:Cfg} {A1 A2 A3 A4 A5:Option Addr} {c1 c2 c3 c4 c5:Nat} (h:N1 w W c A1 A2 A3 A4 A5 c1 c2 c3 c4 c5) (hb:Below (w.heap.size+1+1+1) W V):N1 w V c A1 A2 A3 A4 A5 c1 c2 c3 c4 c5:=
 ⟨h.bel.trans (hb.mono (by omega)),Nat.le_trans h.sz hb.size,h.box.below hb (by omega),h.res.below hb (by omega),h.out.below hb (by omega)⟩
theorem N1.start (w:World) (c:Cfg) (A1 A2 A3 A4 A5:Option Addr) (c1 c2 c3 c4 c5:Nat): ∃V,((w.alloc (.cells #[.int .u64 c.frame, .slice A1 c.parts.length c1, .slice A2 c.wins.length c2, .slice A3 c.regs.length c3, .slice A4 c.ports.length c4, .slice A5 c.chans.length c5] 29)).alloc (.cells #[.int .u64 0, .slice none 0 0, .slice none 0 0, .slice none 0 0, .slice none 0 0, .slice none 0 0] 29)).alloc (.cells #[.int .u64 c.frame, .slice none 0 0, .slice none 0 0, .slice none 0 0, .slice none 0 0, .slice none 0 0] 29)=V∧N1 w V c A1 A2 A3 A4 A5 c1 c2 c3 c4 c5:=by
 refine ⟨_,rfl,((Below.refl _ _).alloc (Nat.le_refl _) _).alloc (by simp) _ |>.alloc (by simp;omega) _,by simp,((Blk.new w _ _).alloc _).alloc _, ?_, ?_⟩
 ·have:=(Blk.new (w.alloc (.cells #[.int .u64 c.frame, .slice A1 c.parts.length c1, .slice A2 c.wins.length c2, .slice A3 c.regs.length c3, .slice A4 c.ports.length c4, .slice A5 c.chans.length c5] 29)) 29 #[.int .u64 0, .slice none 0 0, .slice none 0 0, .slice none 0 0, .slice none 0 0, .slice none 0 0]).alloc (.cells #[.int .u64 c.frame, .slice none 0 0, .slice none 0 0, .slice none 0 0, .slice none 0 0, .slice none 0 0] 29)
  simpa using this
 ·have:=Blk.new ((w.alloc (.cells #[.int .u64 c.frame, .slice A1 c.parts.length c1, .slice A2 c.wins.length c2, .slice A3 c.regs.length c3, .slice A4 c.ports.length c4, .slice A5 c.chans.length c5] 29)).alloc (.cells #[.int .u64 0, .slice none 0 0, .slice none 0 0, .slice none 0 0, .slice none 0 0, .slice none 0 0] 29)) 29 #[.int .u64 c.frame, .slice none 0 0, .slice none 0 0, .slice none 0 0, .slice none 0 0, .slice none 0 0]
  simpa using this
structure NC (w V0 W:World) (c:Cfg) (k:Nat) (v:Value) (L:List CE):Prop where
 bel:Below (w.heap.size+1+1+1) V0 W
 lx:L.map (·.x)=(c.chans.take k).map sortD
 own:W.ownsRow (w.heap.size+1+1+1) 89 3 v L.length (L.flatMap CE.cells)
 dst:DO W (w.heap.size+1+1+1) L
theorem NC.len {w V0 W:World} {c:Cfg} {k:Nat} {v:Value} {L:List CE} (h:NC w V0 W c k v L) (hk:k≤c.chans.length):L.length=k:=by
 have:=congrArg List.length h.lx
 simp at this
 omega
structure N2 (w W2:World) (c:Cfg) (A1 A2 A3 A4 A5:Option Addr) (c1 c2 c3 c4 c5:Nat) (L:List CE):Prop where
 n1:N1 w W2 c A1 A2 A3 A4 A5 c1 c2 c3 c4 c5
 lx:L.map (·.x)=c.srt.chans
 own:W2.ownsRow (w.heap.size+1+1+1) 89 3 (.slice A5 c.chans.length c5) c.chans.length (L.flatMap CE.cells)
 dst:DO W2 (w.heap.size+1+1+1) L
theorem N2.start {w V0 W:World} {c:Cfg} {A1 A2 A3 A4 A5 B5:Option Addr} {c1 c2 c3 c4 c5 d5:Nat} {L:List CE} (h0:N1 w V0 c A1 A2 A3 A4 A5 c1 c2 c3 c4 c5) (h:NC w V0 W c c.chans.length (.slice B5 c.chans.length d5) L):N2 w (W.setCell ⟨w.heap.size,5,none⟩ (.slice B5 c.chans.length d5)) c A1 A2 A3 A4 B5 c1 c2 c3 c4 d5 L:=by
 have hn:=h0.up h.bel
 have hl:=h.len (Nat.le_refl _)
 refine ⟨⟨hn.bel.setCell (Nat.le_refl _) _,by have:=hn.sz;simpa using this, ?_,hn.res.far (by show w.heap.size+1≠w.heap.size;omega) _,hn.out.far (by show w.heap.size+1+1≠w.heap.size;omega) _⟩, ?_, ?_,h.dst.set_ (by show w.heap.size <_;omega) _⟩
 ·have:=hn.box.set_ 5 (.slice B5 c.chans.length d5);simpa using this
 ·rw [h.lx,List.take_length];rfl
 ·have:=own_set h.own (p:=⟨w.heap.size,5,none⟩) (by show w.heap.size <_;omega) (.slice B5 c.chans.length d5)
  rwa [hl] at this
structure NQ (w W2 W:World) (F:Int) (v1 v2 v3 v4 v5:Value) (P:List Par) (N:List Win) (R:List Reg) (T:List Prt) (X:List CE):Prop where
 bel:Below w.heap.size w W
 g:w.heap.size+1+1+1≤W2.heap.size
 kp: ∀b,b <W2.heap.size→b≠w.heap.size+1+1→W.heap[b]? =W2.heap[b]?
 sz:W2.heap.size≤W.heap.size
 out:Blk W (w.heap.size+1+1) 29 #[.int .u64 F,v1,v2,v3,v4,v5]
 o1:W.ownsRow W2.heap.size 75 4 v1 P.length (P.flatMap Par.cells)
 o2:W.ownsRow W2.heap.size 78 3 v2 N.length (N.flatMap Win.cells)
 o3:W.ownsRow W2.heap.size 81 5 v3 R.length (R.flatMap Reg.cells)
 o4:W.ownsRow W2.heap.size 85 6 v4 T.length (T.flatMap Prt.cells)
 o5:W.ownsRow W2.heap.size 89 3 v5 X.length (X.flatMap CE.cells)
section
variable {w W2 W W1 V:World} {F:Int} {v1 v2 v3 v4 v5 v':Value} {P P':List Par} {N N':List Win} {R R':List Reg} {T T':List Prt} {X X' L:List CE} {c:Cfg} {A1 A2 A3 A4 A5:Option Addr} {c1 c2 c3 c4 c5:Nat}
theorem NQ.start (h:N2 w W2 c A1 A2 A3 A4 A5 c1 c2 c3 c4 c5 L):NQ w W2 W2 c.frame (.slice none 0 0) (.slice none 0 0) (.slice none 0 0) (.slice none 0 0) (.slice none 0 0) [] [] [] [] []:=
 ⟨h.n1.bel,h.n1.sz,fun _ _ _=>rfl,Nat.le_refl _,h.n1.out,World.ownsRow_nil _ _ _ _,World.ownsRow_nil _ _ _ _,World.ownsRow_nil _ _ _ _,World.ownsRow_nil _ _ _ _,World.ownsRow_nil _ _ _ _⟩
theorem NQ.up (h:NQ w W2 W F v1 v2 v3 v4 v5 P N R T X) (hb:Below W.heap.size W V):NQ w W2 V F v1 v2 v3 v4 v5 P N R T X:=
 ⟨h.bel.trans (hb.mono h.bel.size),h.g,fun b hb1 hb2=>(hb.block b (Nat.lt_of_lt_of_le hb1 h.sz)).trans (h.kp b hb1 hb2),Nat.le_trans h.sz hb.size,h.out.below hb h.out.lt,own_below h.o1 hb,own_below h.o2 hb,own_below h.o3 hb,own_below h.o4 hb,own_below h.o5 hb⟩
theorem NQ.app1 (h:NQ w W2 W F v1 v2 v3 v4 v5 P N R T X) (hc:Below W.heap.size W W1) (hb:Below W2.heap.size W V) (hof:Off 75 W1 V) (ho:V.ownsRow W2.heap.size 75 4 v' P'.length (P'.flatMap Par.cells)):NQ w W2 (V.setCell ⟨w.heap.size+1+1,1,none⟩ v') F v' v2 v3 v4 v5 P' N R T X:=by
 have hg:=h.g
 have far: ∀ {e:TypeId} {size n:Nat} {v:Value} {ys:List Value},V.ownsRow W2.heap.size e size v n ys→(V.setCell ⟨w.heap.size+1+1,1,none⟩ v').ownsRow W2.heap.size e size v n ys:=fun ho=>own_set ho (p:=⟨w.heap.size+1+1,1,none⟩) (by show w.heap.size+1+1 <_;omega) _
 refine ⟨(h.bel.trans (hb.mono (by omega))).setCell (by show w.heap.size≤w.heap.size+1+1;omega) _,h.g,fun b h1 h2=>(Below.heap_setCell _ _ _ b h2).trans ((hb.block b h1).trans (h.kp b h1 h2)),by have:=h.sz;have:=hb.size;simp;omega, ?_,far ho,far (own_off (own_below h.o2 hc) hof (by decide)),far (own_off (own_below h.o3 hc) hof (by decide)),far (own_off (own_below h.o4 hc) hof (by decide)),far (own_off (own_below h.o5 hc) hof (by decide))⟩
 have:=(h.out.below hb (by omega)).set_ 1 v'
 simpa using this
theorem NQ.app2 (h:NQ w W2 W F v1 v2 v3 v4 v5 P N R T X) (hc:Below W.heap.size W W1) (hb:Below W2.heap.size W V) (hof:Off 78 W1 V) (ho:V.ownsRow W2.heap.size 78 3 v' N'.length (N'.flatMap Win.cells)):NQ w W2 (V.setCell ⟨w.heap.size+1+1,2,none⟩ v') F v1 v' v3 v4 v5 P N' R T X:=by
 have hg:=h.g
 have far: ∀ {e:TypeId} {size n:Nat} {v:Value} {ys:List Value},V.ownsRow W2.heap.size e size v n ys→(V.setCell ⟨w.heap.size+1+1,2,none⟩ v').ownsRow W2.heap.size e size v n ys:=fun ho=>own_set ho (p:=⟨w.heap.size+1+1,2,none⟩) (by show w.heap.size+1+1 <_;omega) _
 refine ⟨(h.bel.trans (hb.mono (by omega))).setCell (by show w.heap.size≤w.heap.size+1+1;omega) _,h.g,fun b h1 h2=>(Below.heap_setCell _ _ _ b h2).trans ((hb.block b h1).trans (h.kp b h1 h2)),by have:=h.sz;have:=hb.size;simp;omega, ?_,far (own_off (own_below h.o1 hc) hof (by decide)),far ho,far (own_off (own_below h.o3 hc) hof (by decide)),far (own_off (own_below h.o4 hc) hof (by decide)),far (own_off (own_below h.o5 hc) hof (by decide))⟩
 have:=(h.out.below hb (by omega)).set_ 2 v'
 simpa using this
theorem NQ.app3 (h:NQ w W2 W F v1 v2 v3 v4 v5 P N R T X) (hc:Below W.heap.size W W1) (hb:Below W2.heap.size W V) (hof:Off 81 W1 V) (ho:V.ownsRow W2.heap.size 81 5 v' R'.length (R'.flatMap Reg.cells)):NQ w W2 (V.setCell ⟨w.heap.size+1+1,3,none⟩ v') F v1 v2 v' v4 v5 P N R' T X:=by
 have hg:=h.g
 have far: ∀ {e:TypeId} {size n:Nat} {v:Value} {ys:List Value},V.ownsRow W2.heap.size e size v n ys→(V.setCell ⟨w.heap.size+1+1,3,none⟩ v').ownsRow W2.heap.size e size v n ys:=fun ho=>own_set ho (p:=⟨w.heap.size+1+1,3,none⟩) (by show w.heap.size+1+1 <_;omega) _
 refine ⟨(h.bel.trans (hb.mono (by omega))).setCell (by show w.heap.size≤w.heap.size+1+1;omega) _,h.g,fun b h1 h2=>(Below.heap_setCell _ _ _ b h2).trans ((hb.block b h1).trans (h.kp b h1 h2)),by have:=h.sz;have:=hb.size;simp;omega, ?_,far (own_off (own_below h.o1 hc) hof (by decide)),far (own_off (own_below h.o2 hc) hof (by decide)),far ho,far (own_off (own_below h.o4 hc) hof (by decide)),far (own_off (own_below h.o5 hc) hof (by decide))⟩
 have:=(h.out.below hb (by omega)).set_ 3 v'
 simpa using this
theorem NQ.app4 (h:NQ w W2 W F v1 v2 v3 v4 v5 P N R T X) (hc:Below W.heap.size W W1) (hb:Below W2.heap.size W V) (hof:Off 85 W1 V) (ho:V.ownsRow W2.heap.size 85 6 v' T'.length (T'.flatMap Prt.cells)):NQ w W2 (V.setCell ⟨w.heap.size+1+1,4,none⟩ v') F v1 v2 v3 v' v5 P N R T' X:=by
 have hg:=h.g
 have far: ∀ {e:TypeId} {size n:Nat} {v:Value} {ys:List Value},V.ownsRow W2.heap.size e size v n ys→(V.setCell ⟨w.heap.size+1+1,4,none⟩ v').ownsRow W2.heap.size e size v n ys:=fun ho=>own_set ho (p:=⟨w.heap.size+1+1,4,none⟩) (by show w.heap.size+1+1 <_;omega) _
 refine ⟨(h.bel.trans (hb.mono (by omega))).setCell (by show w.heap.size≤w.heap.size+1+1;omega) _,h.g,fun b h1 h2=>(Below.heap_setCell _ _ _ b h2).trans ((hb.block b h1).trans (h.kp b h1 h2)),by have:=h.sz;have:=hb.size;simp;omega, ?_,far (own_off (own_below h.o1 hc) hof (by decide)),far (own_off (own_below h.o2 hc) hof (by decide)),far (own_off (own_below h.o3 hc) hof (by decide)),far ho,far (own_off (own_below h.o5 hc) hof (by decide))⟩
 have:=(h.out.below hb (by omega)).set_ 4 v'
 simpa using this
theorem NQ.app5 (h:NQ w W2 W F v1 v2 v3 v4 v5 P N R T X) (hc:Below W.heap.size W W1) (hb:Below W2.heap.size W V) (hof:Off 89 W1 V) (ho:V.ownsRow W2.heap.size 89 3 v' X'.length (X'.flatMap CE.cells)):NQ w W2 (V.setCell ⟨w.heap.size+1+1,5,none⟩ v') F v1 v2 v3 v4 v' P N R T X':=by
 have hg:=h.g
 have far: ∀ {e:TypeId} {size n:Nat} {v:Value} {ys:List Value},V.ownsRow W2.heap.size e size v n ys→(V.setCell ⟨w.heap.size+1+1,5,none⟩ v').ownsRow W2.heap.size e size v n ys:=fun ho=>own_set ho (p:=⟨w.heap.size+1+1,5,none⟩) (by show w.heap.size+1+1 <_;omega) _
 refine ⟨(h.bel.trans (hb.mono (by omega))).setCell (by show w.heap.size≤w.heap.size+1+1;omega) _,h.g,fun b h1 h2=>(Below.heap_setCell _ _ _ b h2).trans ((hb.block b h1).trans (h.kp b h1 h2)),by have:=h.sz;have:=hb.size;simp;omega, ?_,far (own_off (own_below h.o1 hc) hof (by decide)),far (own_off (own_below h.o2 hc) hof (by decide)),far (own_off (own_below h.o3 hc) hof (by decide)),far (own_off (own_below h.o4 hc) hof (by decide)),far ho⟩
 have:=(h.out.below hb (by omega)).set_ 5 v'
 simpa using this
theorem NQ.keepO {e:TypeId} {size n:Nat} {v:Value} {ys:List Value} (h:NQ w W2 W F v1 v2 v3 v4 v5 P N R T X) (ho:W2.ownsRow (w.heap.size+1+1+1) e size v n ys):W.ownsRow (w.heap.size+1+1+1) e size v n ys:=
 own_block ho fun g h1 h2=>h.kp g h2 (by omega)
theorem NQ.box (h:NQ w W2 W F v1 v2 v3 v4 v5 P N R T X) (h2:N2 w W2 c A1 A2 A3 A4 A5 c1 c2 c3 c4 c5 L):Blk W w.heap.size 29 #[.int .u64 c.frame, .slice A1 c.parts.length c1, .slice A2 c.wins.length c2, .slice A3 c.regs.length c3, .slice A4 c.ports.length c4, .slice A5 c.chans.length c5]:=
 (h.kp _ (by have:=h.g;omega) (by omega)).trans h2.n1.box
theorem NQ.res (h:NQ w W2 W F v1 v2 v3 v4 v5 P N R T X) (h2:N2 w W2 c A1 A2 A3 A4 A5 c1 c2 c3 c4 c5 L):Blk W (w.heap.size+1) 29 #[.int .u64 0, .slice none 0 0, .slice none 0 0, .slice none 0 0, .slice none 0 0, .slice none 0 0]:=
 (h.kp _ (by have:=h.g;omega) (by omega)).trans h2.n1.res
theorem NQ.chn (h:NQ w W2 W F v1 v2 v3 v4 v5 P N R T X) (h2:N2 w W2 c A1 A2 A3 A4 A5 c1 c2 c3 c4 c5 L):Rd W W.heap.size 3 A5 c.chans.length (L.flatMap CE.cells):=(own_slice (h.keepO h2.own)).2
theorem NQ.dst (h:NQ w W2 W F v1 v2 v3 v4 v5 P N R T X) (h2:N2 w W2 c A1 A2 A3 A4 A5 c1 c2 c3 c4 c5 L):DO W (w.heap.size+1+1+1) L:=fun e he=>h.keepO (h2.dst e he)
theorem NQ.cfg {B5:Option Addr} {d5:Nat} (h:NQ w W2 W F v1 v2 v3 v4 v5 P N R T X) (h2:N2 w W2 c A1 A2 A3 A4 B5 c1 c2 c3 c4 d5 L) (hR:CfgR w w.heap.size c A1 A2 A3 A4 A5 c1 c2 c3 c4 c5):CfgR W W.heap.size c.srt A1 A2 A3 A4 B5 c1 c2 c3 c4 d5:=by
 have h0:=hR.up h.bel
 have hl:c.srt.chans.length=c.chans.length:=by unfold Cfg.srt;simp
 refine ⟨h0.parts,h0.wins,h0.regs,h0.ports,⟨L.flatMap CE.cells, ?_, ?_⟩,h0.cap1,h0.cap2,h0.cap3,h0.cap4, ?_⟩
 ·rw [←h2.lx];exact (h.dst h2).chns
 ·rw [hl];exact h.chn h2
 ·rw [hl];exact (own_slice h2.own).1
end
theorem cell_same {U V:World} {b:Nat} (h:U.heap[b]? =V.heap[b]?) (o:Nat):U.cell? ⟨b,o,none⟩=V.cell? ⟨b,o,none⟩:=by
 simp [World.cell?,h]
theorem pick_map {α β:Type} (f:α→β) (l:List α) (o:List Nat):(pick l o).map f=pick (l.map f) o:=by
 unfold pick
 rw [List.map_filterMap]
 congr 1
 funext i
 simp
theorem pick_zero {α:Type} (l:List α) (o:List Nat):pick l (o.take 0)= []:=by simp [pick]
theorem off_below {ty:TypeId} {a b c:World} (h:Off ty a b) (hb:Below b.heap.size b c):Off ty a c:=
 ⟨hb.os.trans h.os,hb.tape.trans h.tape,hb.output.trans h.output,Nat.le_trans h.size hb.size,fun k hk hno=>(hb.block k (Nat.lt_of_lt_of_le hk h.size)).trans (h.block k hk hno)⟩
theorem blk_rd {w:World} {g:Nat} {t:TypeId} {cs:List Value} {sz:Nat} (h:Blk w g t cs.toArray) (hl:cs.length=sz):Rd w w.heap.size sz (some ⟨g,0,none⟩) 1 cs:=
 ⟨by rw [hl,Nat.one_mul],fun _=>⟨g,0,rfl,h.lt,fun j u hu=>by rw [Nat.zero_add,h.cell j,List.getElem?_toArray];exact hu⟩⟩
def stg {α:Type} (s k:Nat) (l:List α):List α:=if s <k then l else []
theorem stg_lt {α:Type} {s k:Nat} (h:s <k) (l:List α):stg s k l=l:=if_pos h
theorem stg_ge {α:Type} {s k:Nat} (h: ¬s <k) (l:List α):stg s k l= []:=if_neg h
theorem own_low {w:World} {base:Nat} {e:TypeId} {size n b o c:Nat} {xs:List Value} (h:w.ownsRow base e size (.slice (some ⟨b,o,none⟩) n c) n xs):base≤b:=(h.lt b rfl).1
theorem rKeysS_ok (c:Cfg) (A1 A2 A3 A4 A5:Option Addr) (c1 c2 c3 c4 c5:Nat) (w:World) (hR:CfgR w w.heap.size c.srt A1 A2 A3 A4 A5 c1 c2 c3 c4 c5) (hok:c.ok) (hs:c.small) (s:Nat) (h1:1≤s) (h5:s <6):Calls Tryz.prog 58 #[cfgV c.frame A1 A2 A3 A4 A5 c.parts.length c.wins.length c.regs.length c.ports.length c.chans.length c1 c2 c3 c4 c5, .int .i64 s] w fun e w'=> ∃A n d,e= .returned (.slice A n d)∧n=(keysOf c.srt s).length∧KeysI w' w'.heap.size (keysOf c.srt s) A∧Below w.heap.size w w':=by
 have hl:c.srt.chans.length=c.chans.length:=by unfold Cfg.srt;simp
 have h:=rKeys_ok c.srt A1 A2 A3 A4 A5 c1 c2 c3 c4 c5 w hR (Cfg.srt_ok hok) (Cfg.srt_small hs) s h1 h5
 rw [hl] at h
 exact h
section
variable {w W2 W W1 V:World} {c:Cfg} {A1 A2 A3 A4 A5 B1 B2 B3 B4 B5:Option Addr} {c1 c2 c3 c4 c5 d1 d2 d3 d4 d5 n:Nat} {L X:List CE}
theorem NQ.fin (h:NQ w W2 W c.frame (.slice B1 c.norm.parts.length d1) (.slice B2 c.norm.wins.length d2) (.slice B3 c.norm.regs.length d3) (.slice B4 c.norm.ports.length d4) (.slice B5 c.norm.chans.length d5) c.norm.parts c.norm.wins c.norm.regs c.norm.ports X) (h2:N2 w W2 c A1 A2 A3 A4 A5 c1 c2 c3 c4 c5 L) (hx:X.map (·.x)=c.norm.chans) (hm: ∀e ∈ X,e ∈ L) (hk: ∀g,g≠w.heap.size+1→V.heap[g]? =W.heap[g]?):CfgR V V.heap.size c.norm B1 B2 B3 B4 B5 d1 d2 d3 d4 d5:=by
 have hl:X.length=c.norm.chans.length:=by have:=congrArg List.length hx;simpa using this
 have hg:=h.g
 have mv: ∀ {base:Nat} {e:TypeId} {size n:Nat} {v:Value} {ys:List Value},w.heap.size+1 <base→W.ownsRow base e size v n ys→V.ownsRow base e size v n ys:=fun hb ho=>own_block ho fun g h1 _=>hk g (by omega)
 obtain ⟨q1,r1⟩:=own_slice (mv (by omega) h.o1)
 obtain ⟨q2,r2⟩:=own_slice (mv (by omega) h.o2)
 obtain ⟨q3,r3⟩:=own_slice (mv (by omega) h.o3)
 obtain ⟨q4,r4⟩:=own_slice (mv (by omega) h.o4)
 have h5:=h.o5
 rw [hl] at h5
 obtain ⟨q5,r5⟩:=own_slice (mv (by omega) h5)
 have hd:DO V (w.heap.size+1+1+1) X:=fun e he=>mv (by omega) (h.dst h2 e (hm e he))
 exact ⟨r1,r2,r3,r4,⟨X.flatMap CE.cells,by rw [←hx];exact hd.chns,r5⟩,q1,q2,q3,q4,q5⟩
end
set_option maxRecDepth 100000 in
set_option maxHeartbeats 16000000 in
theorem rNormal_ok (c:Cfg) (A1 A2 A3 A4 A5:Option Addr) (c1 c2 c3 c4 c5:Nat) (w:World) (hR:CfgR w w.heap.size c A1 A2 A3 A4 A5 c1 c2 c3 c4 c5) (hok:c.ok) (hs:c.small):Calls Tryz.prog 52 #[cfgV c.frame A1 A2 A3 A4 A5 c.parts.length c.wins.length c.regs.length c.ports.length c.chans.length c1 c2 c3 c4 c5] w fun e w'=> ∃B1 B2 B3 B4 B5 d1 d2 d3 d4 d5,
  e= .returned (cfgV c.norm.frame B1 B2 B3 B4 B5 c.norm.parts.length c.norm.wins.length c.norm.regs.length c.norm.ports.length c.norm.chans.length d1 d2 d3 d4 d5)∧CfgR w' w'.heap.size c.norm B1 B2 B3 B4 B5 d1 d2 d3 d4 d5∧Below w.heap.size w w':=by
 obtain ⟨ip,hip,hp0,hp1,hp2⟩:=info_parts infoPartition
 obtain ⟨iw,hiw,hw0,hw1,hw2⟩:=info_parts infoWindow
 obtain ⟨ir,hir,hr0,hr1,hr2⟩:=info_parts infoRegion
 obtain ⟨it,hit,ht0,ht1,ht2⟩:=info_parts infoPort
 obtain ⟨ic,hic,hc0,hc1,hc2⟩:=info_parts infoChannel
 obtain ⟨V0,hV0,n1⟩:=N1.start w c A1 A2 A3 A4 A5 c1 c2 c3 c4 c5
 have HV0:=Lib.hid hV0
 have HN1:=Lib.hid n1
 have HR:=Lib.hid hR
 have HOK:=Lib.hid hok
 have HSM:=Lib.hid hs
 have bx:c.chans.length≤1048576:=hs.bd.x
 have bp:c.parts.length≤1048576:=hs.bd.p
 have bw:c.wins.length≤1048576:=hs.bd.w
 have br:c.regs.length≤1048576:=hs.bd.r
 have bt:c.ports.length≤1048576:=hs.bd.t
 clear hV0 n1 hR hok hs
 go_enter Tryz.func52,Tryz.ntmps52
 go_upto_region 2 with (fail)
 rw [HV0.out]
 go_wp2
 go_loopw [4,5] (fun v i wr=> ∃(k:Nat) (L:List CE),k≤c.chans.length∧i= .int .i64 k∧Hid (NC w V0 wr c k v L)) (fun _ i _=>c.chans.length -(intOf i).toNat)
 case atStart=>exact ⟨0,[],Nat.zero_le _,rfl,Lib.hid ⟨Below.refl _ _,by simp,World.ownsRow_nil _ _ _ _,fun e he=>by simp at he⟩⟩
 case round=>
  obtain ⟨k,L,hk,rfl,HC⟩:=hrel
  have hll:=HC.out.len hk
  have HLL:=Lib.hid hll
  obtain ⟨oA,oc,rfl,_⟩:=own_form HC.out.own
  have N1k:=Lib.hid (HN1.out.up HC.out.bel)
  have q5:=N1k.out.box.cell 5
  simp at q5
  have hzz:=N1k.out.sz
  have hgl:=N1k.out.box.lt
  by_cases hlt:k <c.chans.length
  ·obtain ⟨x,hx⟩:=get_lt hlt
   obtain ⟨cs0,hcs0,hrd0⟩:=HR.out.chans
   obtain ⟨b,o,rfl,hb,y0,y1,D,d,y2,_,_,hD⟩:=chn_at hcs0 hrd0 hx
   have HX:=Lib.hid hx
   have hdl:=HSM.out.bd.d x (List.mem_of_getElem? hx)
   have HD:=Lib.hid (hD.up N1k.out.bel)
   have KEEP: ∀U,Below (w.heap.size+1+1+1) wr U→(fun w'=>w'.cell? ⟨w.heap.size,5,none⟩=some (.slice (some ⟨b,o,none⟩) c.chans.length c5)∧w'.cell? ⟨b,o+k*3,none⟩=some (.int .u16 x.id)∧w'.cell? ⟨b,o+k*3+1,none⟩=some (.int .u16 x.source)∧w'.cell? ⟨b,o+k*3+2,none⟩=some (.slice D x.dests.length d)) U:=fun U hU=>by
    have hbU:=N1k.out.bel.trans (hU.mono (by omega))
    have q: ∀j,U.cell? ⟨b,j,none⟩=w.cell? ⟨b,j,none⟩:=fun j=>hbU.cell (p:=⟨b,j,none⟩) hb
    exact ⟨(hU.cell (p:=⟨w.heap.size,5,none⟩) (by show w.heap.size <_;omega)).trans q5,(q _).trans y0,(q _).trans y1,(q _).trans y2⟩
   have HKQ:=Lib.hid KEEP
   have hbw:b <wr.heap.size:=Nat.lt_trans hb hgl
   obtain ⟨z5,z0,z1,z2⟩:=KEEP wr (Below.refl _ _)
   have n0:(0:Int)≤(k:Int):=by omega
   have n1:(k:Int) <(c.chans.length:Int):=by omega
   have HBW:=Lib.hid (Below.refl wr.heap.size wr)
   clear KEEP hcs0 hrd0 hD y0 y1 y2 hx q5 hll
   go_upto_region 6 with (fail)
   go_region_held3 (fun w'=>w'.cell? ⟨w.heap.size,5,none⟩=some (.slice (some ⟨b,o,none⟩) c.chans.length c5)∧w'.cell? ⟨b,o+k*3,none⟩=some (.int .u16 x.id)∧w'.cell? ⟨b,o+k*3+1,none⟩=some (.int .u16 x.source)∧w'.cell? ⟨b,o+k*3+2,none⟩=some (.slice D x.dests.length d))
    (first |(exact HS2.out) |(refine HKQ.out _ (Below.mono (show Below wr.heap.size wr _ from ?_) hzz);(repeat (first |with_reducible exact HBW.out |with_reducible exact Below.refl _ _ |with_reducible refine Below.drew ?_ |(with_reducible refine Below.alloc ?_ (by first |(simp;done) |(have hq:=HBW.out.size;simp at hq ⊢;omega)) _) |(with_reducible refine Below.setCell ?_ (by first |(simp;done) |(have hq:=HBW.out.size;simp at hq ⊢;omega)) _)));done) |go_keep)
    (first
    |(go_at_call 127;refine (rDest05_ok x.dests D d _ hdl (HD.out.up (by (repeat (first |with_reducible exact HBW.out |with_reducible exact Below.refl _ _ |with_reducible refine Below.drew ?_ |(with_reducible refine Below.alloc ?_ (by first |(simp;done) |(have hq:=HBW.out.size;simp at hq ⊢;omega)) _) |(with_reducible refine Below.setCell ?_ (by first |(simp;done) |(have hq:=HBW.out.size;simp at hq ⊢;omega)) _)))))).mono ?_;rintro e w1 ⟨v1,rfl,hv1,hb1⟩;(obtain ⟨DA,dc,rfl,_⟩:=own_form hv1);have HV1:=Lib.hid (own_lessC (b':=w.heap.size+1+1+1) hv1 (by first |exact hzz |(simp;omega)));have HB1:=Lib.hid hb1;have HBW:=Lib.hid (Below.then_ (show Below wr.heap.size wr _ from (by (repeat (first |with_reducible exact HBW.out |with_reducible exact Below.refl _ _ |with_reducible refine Below.drew ?_ |(with_reducible refine Below.alloc ?_ (by first |(simp;done) |(have hq:=HBW.out.size;simp at hq ⊢;omega)) _) |(with_reducible refine Below.setCell ?_ (by first |(simp;done) |(have hq:=HBW.out.size;simp at hq ⊢;omega)) _))))) hb1);clear hv1 hb1)
    |(refine step_appS wr 27 89 3 ic (.agg #[.int .u16 0, .int .u16 0, .slice none 0 0]) 32 Tryz.underlying27 hic hc0 hc1 hc2 rfl (by decide) (by rfl) (.tmp 19) (.tmp 40) (by rfl) (w.heap.size+1+1+1) L.length (L.flatMap CE.cells) ?_ 1 [.int .u16 x.id, .int .u16 x.source, .slice DA x.dests.length dc] ?_ ?_ ?_ ?_ ?_ ?_ ?_;(focus (rw [HLL.out];have ho:=HC.out.own;rw [HLL.out] at ho;exact own_below ho (by (repeat (first |with_reducible exact HBW.out |with_reducible exact Below.refl _ _ |with_reducible refine Below.drew ?_ |(with_reducible refine Below.alloc ?_ (by first |(simp;done) |(have hq:=HBW.out.size;simp at hq ⊢;omega)) _) |(with_reducible refine Below.setCell ?_ (by first |(simp;done) |(have hq:=HBW.out.size;simp at hq ⊢;omega)) _))))));(focus ((repeat (first |(with_reducible refine own_drew ?_) |(refine own_litS _ _ _ 3 ([.int .u16 x.id, .int .u16 x.source, .slice DA x.dests.length dc]) _ 1 ?_ ?_ ?_ ?_ _ ?_;(focus (first |(simp;done) |(have hq:=HBW.out.size;simp at hq ⊢;omega)));(focus (simp;done));(focus (simp [maxLen];done));(focus (exact rfl));(focus (exact rfl)))));done));(focus (intro u hu;simp at hu;rcases hu with rfl |rfl |rfl<;>rfl));(focus (rw [HLL.out];omega));(focus (rw [HLL.out];unfold maxLen;omega));(focus ((repeat (first |with_reducible exact HBW.out |with_reducible exact Below.refl _ _ |with_reducible refine Below.drew ?_ |(with_reducible refine Below.alloc ?_ (by first |(simp;done) |(have hq:=HBW.out.size;simp at hq ⊢;omega)) _) |(with_reducible refine Below.setCell ?_ (by first |(simp;done) |(have hq:=HBW.out.size;simp at hq ⊢;omega)) _)));done));(focus (exact hzz));intro v2 w2 hq hg hof hbb;have HQ:=Lib.hid hq;have HOF:=Lib.hid hof;have HBB:=Lib.hid hbb;have HS2:=Lib.hid (HKQ.out w2 hbb);have HDO:=Lib.hid (DO.off (HC.out.dst.below (show Below wr.heap.size wr _ from (by (repeat (first |with_reducible exact HBW.out |with_reducible exact Below.refl _ _ |with_reducible refine Below.drew ?_ |(with_reducible refine Below.alloc ?_ (by first |(simp;done) |(have hq:=HBW.out.size;simp at hq ⊢;omega)) _) |(with_reducible refine Below.setCell ?_ (by first |(simp;done) |(have hq:=HBW.out.size;simp at hq ⊢;omega)) _)))))) hof (by decide));have HV2:=Lib.hid (own_off (own_below HV1.out (show Below w1.heap.size w1 _ from (by first |exact below_one _ _ |exact Below.refl _ _))) hof (by decide)))
    |fail)
   have HC2:=Lib.hid (show NC w V0 w2 c (k+1) v2 (L++ [⟨sortD x,DA,dc⟩]) from ⟨HC.out.bel.trans HBB.out,by rw [List.map_append,HC.out.lx,take_next HX.out,List.map_append];rfl,by
    have h:=HQ.out
    rw [List.flatMap_append,List.length_append]
    have e:(CE.cells ⟨sortD x,DA,dc⟩)= [.int .u16 x.id, .int .u16 x.source, .slice DA x.dests.length dc]:=by
     unfold CE.cells CE.v sortD
     simp [List.length_mergeSort]
    simp only [List.flatMap_cons,List.flatMap_nil,List.append_nil,e]
    exact h,DO.snoc HDO.out (by
    have h:=HV2.out
    simpa [CE.v,sortD,List.length_mergeSort] using h)⟩)
   clear z5 z0 z1 z2
   all_goals
    go_wp2
    go_roundw
    case rel=>exact ⟨k+1,_,by omega,by go_num,HC2⟩
    case measure=>simp [intOf];omega
  ·obtain rfl:k=c.chans.length:=by omega
   have HC3:=Lib.hid (show NC w V0 wr c c.chans.length (.slice oA c.chans.length oc) L by have h:=HC.out;rw [HLL.out] at h;exact h)
   have HN2:=Lib.hid (N2.start HN1.out HC3.out)
   have hfr:=N1k.out.box.frozen
   rw [HLL.out]
   go_upto_region 8 with (fail)
   clear q5 hfr
   generalize World.setCell wr _ _=W2 at*
   generalize oA=B5 at*
   generalize oc=d5 at*
   have HNQ:=Lib.hid (NQ.start HN2.out)
   have HCK:=Lib.hid (NQ.cfg HNQ.out HN2.out HR.out)
   clear hlt hk hzz hgl hll HC HC3 N1k HN1 HV0 HLL
   go_wp2
   go_loopw [6] (fun i wr=> ∃(k:Nat) (v1 v2 v3 v4 v5:Value) (X:List CE),1≤k∧k≤6∧i= .int .i64 k∧Hid (NQ w W2 wr c.frame v1 v2 v3 v4 v5 (stg 1 k (normK keyPar c.parts)) (stg 2 k (normK keyWin c.wins)) (stg 3 k (normK keyReg c.regs)) (stg 4 k (normK keyPrt c.ports)) X)∧Hid (X.map (·.x)=stg 5 k (normK keyChn c.srt.chans)∧ ∀e ∈ X,e ∈ L)) (fun i _=>6 -(intOf i).toNat)
   case atStart=>exact ⟨1,_,_,_,_,_,[],by omega,by omega,rfl,Lib.hid (by rw [stg_ge (s:=1) (k:=1) (by decide),stg_ge (s:=2) (k:=1) (by decide),stg_ge (s:=3) (k:=1) (by decide),stg_ge (s:=4) (k:=1) (by decide)];exact HNQ.out),Lib.hid ⟨by rw [stg_ge (by decide)];rfl,by simp⟩⟩
   case round=>
    clear HNQ HCK
    obtain ⟨k,v1,v2,v3,v4,v5,X,hk1,hk,rfl,HNQ,HXK⟩:=hrel
    rcases (show k=1∨k=2∨k=3∨k=4∨k=5∨k=6 by omega) with rfl |rfl |rfl |rfl |rfl |rfl
    ·have NQ0:=HNQ.out
     rw [stg_ge (s:=1) (k:=1) (by decide),stg_ge (s:=2) (k:=1) (by decide),stg_ge (s:=3) (k:=1) (by decide),stg_ge (s:=4) (k:=1) (by decide)] at NQ0
     have NQk:=Lib.hid NQ0
     have hXk:=HXK.out.1
     rw [stg_ge (by decide)] at hXk
     have bxk:=NQ0.box HN2.out
     have x0:=bxk.cell 0
     have x1:=bxk.cell 1
     have x2:=bxk.cell 2
     have x3:=bxk.cell 3
     have x4:=bxk.cell 4
     have x5:=bxk.cell 5
     simp at x0 x1 x2 x3 x4 x5
     have hgl:=bxk.lt
     have HCk:=Lib.hid (NQ0.cfg HN2.out HR.out)
     have HXE:=Lib.hid hXk
     clear NQ0 hXk bxk
     go_wp2_with fail
     refine (rKeysS_ok c A1 A2 A3 A4 B5 c1 c2 c3 c4 d5 wr HCk.out HOK.out HSM.out 1 (by decide) (by decide)).mono ?_
     rintro e w3 ⟨KA,n,kd,rfl,hn,hK,hb3⟩
     have HK:=Lib.hid hK
     have HB3:=Lib.hid hb3
     have HN:=Lib.hid hn
     clear x0 x1 x2 x3 x4 x5 hgl hn hK hb3
     go_wp2_with fail
     refine (rOrder_n (keysOf c.srt 1) n HN.out KA kd w3 (keys_len (Cfg.srt_small HSM.out) 1).1 (keys_len (Cfg.srt_small HSM.out) 1).2 HK.out).mono ?_
     rintro e w4 ⟨oA,o,oc,rfl,ho,hown,hb4⟩
     obtain rfl:n=c.parts.length:=by rw [HN.out];simp [keysOf,Cfg.srt]
     have HO:=Lib.hid ho
     have HOL:=Lib.hid ho.len
     have NQ4:=Lib.hid (NQk.out.up (Below.then_ HB3.out hb4))
     have HOW:=Lib.hid (own_lessC hown (show W2.heap.size≤w3.heap.size from Nat.le_trans NQk.out.sz HB3.out.size))
     clear ho hown hb4
     go_wp2
     go_loopw [8] (fun i wr=> ∃(j:Nat) (v:Value),j≤c.parts.length∧i= .int .i64 j∧Hid (NQ w W2 wr c.frame v v2 v3 v4 v5 (pick c.parts (o.take j)) [] [] [] X)∧Hid (wr.ownsRow W2.heap.size 3 1 (.slice oA c.parts.length oc) c.parts.length (o.map iV))) (fun i _=>c.parts.length -(intOf i).toNat)
     case atStart=>exact ⟨0,v1,Nat.zero_le _,rfl,Lib.hid (by rw [pick_zero];exact NQ4.out),HOW⟩
     case round=>
      obtain ⟨j,vv,hj,rfl,NQj,HOJ⟩:=hrel
      by_cases hlt:j <c.parts.length
      ·obtain ⟨i,hi⟩:=get_lt (l:=o) (k:=j) (by rw [HOL.out];exact hlt)
       have hin:=HO.out.lt (List.mem_of_getElem? hi)
       have HOI:=Lib.hid hi
       obtain ⟨x,hx⟩:=get_lt (l:=c.parts) (k:=i) hin
       have HX:=Lib.hid hx
       obtain ⟨b,oo,rfl,hb,g0,g1,g2,g3⟩:=par_at HR.out.parts hx
       have hb2:b <W2.heap.size:=by have:=NQj.out.g;omega
       have hb3:b≠w.heap.size+1+1:=by omega
       have hcw: ∀U:World,(∀t,t <W2.heap.size→t≠w.heap.size+1+1→U.heap[t]? =wr.heap[t]?)→ ∀t,U.cell? ⟨b,t,none⟩=w.cell? ⟨b,t,none⟩:=fun U hU t=>(cell_same (hU b hb2 hb3) t).trans (NQj.out.bel.cell (p:=⟨b,t,none⟩) hb)
       obtain ⟨bo,o2,rfl,hbo,_⟩:=(own_slice HOJ.out).2.2 (by omega)
       have bxj:=Lib.hid (NQj.out.box HN2.out)
       have y1:=bxj.out.cell 1
       simp at y1
       have hwg:=NQj.out.g
       have KEEP: ∀U:World,(∀t,t <W2.heap.size→t≠w.heap.size+1+1→U.heap[t]? =wr.heap[t]?)→U.ownsRow W2.heap.size 3 1 (.slice (some ⟨bo,o2,none⟩) c.parts.length oc) c.parts.length (o.map iV)→(fun U=>U.cell? ⟨w.heap.size,1,none⟩=some (.slice (some ⟨b,oo,none⟩) c.parts.length c1)∧U.cell? ⟨bo,o2+j,none⟩=some (.int .i64 i)∧U.cell? ⟨b,oo+i*4,none⟩=some (.int .u16 x.id)∧U.cell? ⟨b,oo+i*4+1,none⟩=some (.string x.name)∧U.cell? ⟨b,oo+i*4+2,none⟩=some (.int .u64 x.period)∧U.cell? ⟨b,oo+i*4+3,none⟩=some (.int .u64 x.duration)) U:=fun U hU hO=>
        ⟨(cell_same (hU w.heap.size (by omega) (by omega)) 1).trans y1,nat_at (by have h:=(own_slice hO).2;rw [←HOL.out] at h;exact h) HOI.out,(hcw U hU _).trans g0,(hcw U hU _).trans g1,(hcw U hU _).trans g2,(hcw U hU _).trans g3⟩
       have HSU:=Lib.hid KEEP
       have HSV:=Lib.hid (show ∀U,Below wr.heap.size wr U→(fun U=>U.cell? ⟨w.heap.size,1,none⟩=some (.slice (some ⟨b,oo,none⟩) c.parts.length c1)∧U.cell? ⟨bo,o2+j,none⟩=some (.int .i64 i)∧U.cell? ⟨b,oo+i*4,none⟩=some (.int .u16 x.id)∧U.cell? ⟨b,oo+i*4+1,none⟩=some (.string x.name)∧U.cell? ⟨b,oo+i*4+2,none⟩=some (.int .u64 x.period)∧U.cell? ⟨b,oo+i*4+3,none⟩=some (.int .u64 x.duration)) U from fun U hU=>HSU.out U (fun t h1 _=>hU.block t (Nat.lt_of_lt_of_le h1 NQj.out.sz)) (own_below HOJ.out hU))
       obtain ⟨z0,z1,z2,z3,z4,z5⟩:=HSV.out wr (Below.refl _ _)
       have hpl:(pick c.parts (o.take j)).length=j:=by
        rw [pick_len (fun t ht=>HO.out.lt (List.mem_of_mem_take ht))]
        rw [List.length_take,HOL.out];omega
       have HPL:=Lib.hid hpl
       obtain ⟨vA,vc,rfl,_⟩:=own_form NQj.out.o1
       have q1:=NQj.out.out.cell 1
       simp at q1
       have hbl:w.heap.size+1+1 <wr.heap.size:=NQj.out.out.lt
       have hbw:b <wr.heap.size:=Nat.lt_of_lt_of_le hb2 NQj.out.sz
       have hwz0:w.heap.size <wr.heap.size:=by omega
       have n0:(0:Int)≤(i:Int):=by omega
       have n1:(i:Int) <(c.parts.length:Int):=by omega
       have j0:(0:Int)≤(j:Int):=by omega
       have j1:(j:Int) <(c.parts.length:Int):=by omega
       have HBW:=Lib.hid (Below.refl wr.heap.size wr)
       have HB2:=Lib.hid hb2
       have HBB3:=Lib.hid hb3
       have HHB:=Lib.hid hb
       clear KEEP hcw y1 g0 g1 g2 g3 hx hi hin hpl hb2 hb3 hb hwg
       go_upto_region 17 with (fail)
       refine wp_region_B 61 13 10 11 _ rfl rfl (by kernel_rfl) (by kernel_rfl) (by kernel_rfl) (by kernel_rfl) (by kernel_rfl) (Nat.le_of_ble_eq_true (by kernel_rfl)) (by decide) (by decide) (by decide) rfl
        [.pointer (some ⟨w.heap.size+1+1,1,none⟩), .slice vA (pick c.parts (o.take j)).length vc, .pointer (some ⟨w.heap.size,1,none⟩), .slice (some ⟨b,oo,none⟩) c.parts.length c1, .slice (some ⟨bo,o2,none⟩) c.parts.length oc, .int .i64 j, .pointer (some ⟨bo,o2+j,none⟩), .int .i64 i, .pointer (some ⟨b,oo+i*4,none⟩), .agg #[.int .u16 x.id, .string x.name, .int .u64 x.period, .int .u64 x.duration],undef,undef, .pointer (some ⟨w.heap.size+1+1,1,none⟩)]
        (fun v U=> ∃g,v= .slice (some ⟨g,0,none⟩) 1 1∧wr.heap.size≤g∧Blk U g 75 #[.int .u16 x.id, .string x.name, .int .u64 x.period, .int .u64 x.duration])
        (fun v U=> ∃nA nc,v= .slice nA ((pick c.parts (o.take j)).length+1) nc∧U.ownsRow W2.heap.size 75 4 v ((pick c.parts (o.take j)).length+1) ((pick c.parts (o.take j)).flatMap Par.cells++ [.int .u16 x.id, .string x.name, .int .u64 x.period, .int .u64 x.duration])∧ ∃W1,Below wr.heap.size wr W1∧Off 75 W1 U)
        (fun U=>Below W2.heap.size wr U∧U.ownsRow W2.heap.size 3 1 (.slice (some ⟨bo,o2,none⟩) c.parts.length oc) c.parts.length (o.map iV))
        (fun U=>Below wr.heap.size wr U)
        (fun U U'=>U.grownBy U' (Value.slice vA (pick c.parts (o.take j)).length vc).ownBlock)
        ((Below.refl _ _).drew) (fun U hU=>⟨hU.mono NQj.out.sz,own_below HOJ.out hU⟩)
        (fun v U U' ⟨g,h1,h2,h3⟩ hb=>⟨g,h1,h2,h3.below hb h3.lt⟩)
        (fun v U U' ⟨nA,nc,h1,h2,W1,h3,h4⟩ hb=>⟨nA,nc,h1,own_below h2 hb,W1,h3,off_below h4 hb⟩)
        (fun v U U' hU ⟨g,h1,h2,h3⟩ hg=>⟨g,h1,h2,(hg.block g h3.lt (fun e=>by have h5:=NQj.out.o1.lt g e.symm;omega)).trans h3⟩)
        ?hpure ?hlit ?happ (fun o ho=>by cases ho;exact ⟨{on:=10,ground:= .data},by simp,rfl,rfl⟩) ?hend
       case hpure=>
        intro q o ho hq1 hq2 hq3 U hE ρ r0 r1 r2
        obtain ⟨t0,t1,t2,t3,t4,t5⟩:=HSU.out U (fun t h1 _=>hE.1.block t h1) hE.2
        have tq:=(NQj.out.out.below hE.1 (by have:=NQj.out.g;omega)).cell 1
        simp at tq
        match q,ho with
        |0,ho=>
         cases ho
         have e:=(r1 3 (by decide))
         simp only [execOp,List.getD_cons_zero]
         go_simp
        |1,ho=>
         cases ho
         have e:ρ (.tmp 61)= .pointer (some ⟨w.heap.size+1+1,1,none⟩):=r2 {on:=0,ground:= .data} (by simp) rfl (by decide) (by decide)
         simp only [execOp,List.getD_cons_succ,List.getD_cons_zero]
         go_simp
        |2,ho=>
         cases ho
         have e:=(r1 1 (by decide))
         simp only [execOp,List.getD_cons_succ,List.getD_cons_zero]
         go_simp
        |3,ho=>
         cases ho
         have e:ρ (.tmp 63)= .pointer (some ⟨w.heap.size,1,none⟩):=r2 {on:=2,ground:= .data} (by simp) rfl (by decide) (by decide)
         simp only [execOp,List.getD_cons_succ,List.getD_cons_zero]
         go_simp
        |4,ho=>
         cases ho
         have e:=(r1 7 (by decide))
         simp only [execOp,List.getD_cons_succ,List.getD_cons_zero]
         go_simp
        |5,ho=>
         cases ho
         have e:=(r1 8 (by decide))
         simp only [execOp,List.getD_cons_succ,List.getD_cons_zero]
         go_simp
        |6,ho=>
         cases ho
         have e:ρ (.tmp 65)= .slice (some ⟨bo,o2,none⟩) c.parts.length oc:=r2 {on:=4,ground:= .data} (by simp) rfl (by decide) (by decide)
         have e2:ρ (.tmp 66)= .int .i64 j:=r2 {on:=5,ground:= .data} (by simp) rfl (by decide) (by decide)
         simp only [execOp,List.getD_cons_succ,List.getD_cons_zero]
         go_simp
        |7,ho=>
         cases ho
         have e:ρ (.tmp 67)= .pointer (some ⟨bo,o2+j,none⟩):=r2 {on:=6,ground:= .data} (by simp) rfl (by decide) (by decide)
         simp only [execOp,List.getD_cons_succ,List.getD_cons_zero]
         go_simp
        |8,ho=>
         cases ho
         have e:ρ (.tmp 64)= .slice (some ⟨b,oo,none⟩) c.parts.length c1:=r2 {on:=3,ground:= .data} (by simp) rfl (by decide) (by decide)
         have e2:ρ (.tmp 68)= .int .i64 i:=r2 {on:=7,ground:= .data} (by simp) rfl (by decide) (by decide)
         simp only [execOp,List.getD_cons_succ,List.getD_cons_zero]
         go_simp
        |9,ho=>
         cases ho
         have e:ρ (.tmp 69)= .pointer (some ⟨b,oo+i*4,none⟩):=r2 {on:=8,ground:= .data} (by simp) rfl (by decide) (by decide)
         simp only [execOp,List.getD_cons_succ,List.getD_cons_zero]
         go_simp
        |12,ho=>
         cases ho
         have e:=(r1 3 (by decide))
         simp only [execOp,List.getD_cons_succ,List.getD_cons_zero]
         go_simp
        |10,_=>exact absurd rfl hq2
        |11,_=>exact absurd rfl hq3
        |t+13,ho=>exact absurd hq1 (Nat.not_lt.2 (Nat.le_add_left 13 t))
       case hlit=>
        intro o ho U hE ρ r0 r2
        cases ho
        have e:ρ (.tmp 70)= .agg #[.int .u16 x.id, .string x.name, .int .u64 x.period, .int .u64 x.duration]:=r2 {on:=9,ground:= .data} (by simp) rfl (by decide)
        have hUs:wr.heap.size≤U.heap.size:=hE.1.size
        refine ⟨.slice (some ⟨U.heap.size,0,none⟩) 1 1,U.alloc (.cells #[.int .u16 x.id, .string x.name, .int .u64 x.period, .int .u64 x.duration] 75), ?_,⟨hE.1.alloc (Nat.le_trans NQj.out.sz hUs) _,own_below hE.2 (below_one _ _)⟩,fun hS=>hS.alloc hUs _,below_one _ _,U.heap.size,rfl,hUs,Blk.new _ _ _⟩
        simp only [execOp]
        go_simp
       case happ=>
        intro o ho U v hE ⟨g,hv,hg,hbk⟩ ρ r1 r2
        cases ho
        subst hv
        have e:ρ (.tmp 62)= .slice vA (pick c.parts (o.take j)).length vc:=r2 {on:=1,ground:= .data} (by simp) rfl (by decide)
        have r3:ρ (.tmp 71)= .slice (some ⟨g,0,none⟩) 1 1:=r1
        have hown:=own_below NQj.out.o1 hE
        obtain ⟨v',w',hrun,h2,h3⟩:=run_append_rd (P:=Tryz.prog) U W2.heap.size 23 23 75 ip (.agg #[.int .u16 0, .string .empty, .int .u64 0, .int .u64 0]) 4 40 Tryz.underlying23 hip hp0 hp1 hp2 rfl (by decide) _ (pick c.parts (o.take j)).length _ hown U.heap.size (some ⟨g,0,none⟩) 1 1 [.int .u16 x.id, .string x.name, .int .u64 x.period, .int .u64 x.duration] (blk_rd hbk rfl) (by intro u hu;simp at hu;rcases hu with rfl |rfl |rfl |rfl<;>rfl) (by rw [HPL.out];unfold maxLen;omega) (by rw [HPL.out];omega) (Nat.le_trans NQj.out.sz hE.size)
        have hof:=Off.of_own hown h3
        obtain ⟨nA,nc,rfl,_⟩:=own_form h2
        refine ⟨_,w', ?_,⟨below_own (hE.mono NQj.out.sz) h3 hown (Nat.le_trans NQj.out.sz hE.size),own_off (own_below HOJ.out hE) hof (by decide)⟩,h3,nA,nc,rfl,h2,U,hE,hof⟩
        simp only [List.getElem_toArray,List.getElem_cons_succ,List.getElem_cons_zero,execOp,resolve,invoke,builtin,Sem.run_bind,Sem.run_pure,Result.andThen_ok,List.map_toArray,List.map_cons,List.map_nil,e,r3,hrun]
       case hend=>
        intro u U hE ⟨nA,nc,hu,hq,W1,hc,hof⟩ hcs ρ r0 r1 r2
        have HNN:=Lib.hid (NQ.app1 (P':=pick c.parts (o.take (j+1))) (v':= .slice nA ((pick c.parts (o.take j)).length+1) nc) NQj.out hc hE.1 hof (by rw [←hu,pick_take HOI.out HX.out,List.length_append,List.flatMap_append];exact hq))
        have HOJ3:=Lib.hid (own_set hE.2 (p:=⟨w.heap.size+1+1,1,none⟩) (by show w.heap.size+1+1 <_;have:=NQj.out.g;omega) (.slice nA ((pick c.parts (o.take j)).length+1) nc))
        have ob:=NQj.out.out.below hE.1 (by have:=NQj.out.g;omega)
        have qc:=ob.cell 1
        have fc:=ob.frozen 1
        have lc:=ob.lt
        simp at qc
        have e1:ρ (.tmp 72)= .slice nA ((pick c.parts (o.take j)).length+1) nc:=(r2 11 (by decide)).trans hu
        have e2:ρ (.tmp 73)= .pointer (some ⟨w.heap.size+1+1,1,none⟩):=(r2 12 (by decide)).trans (hcs 12 (by decide) (by decide) (by decide))
        refine ⟨U.setCell ⟨w.heap.size+1+1,1,none⟩ (.slice nA ((pick c.parts (o.take j)).length+1) nc),by simp only [execOp];go_simp, ?_⟩
        simp only [mkAt,List.take_succ_cons,List.take_zero,List.drop_succ_cons,List.drop_zero,List.range,List.range.loop,List.map_cons,List.map_nil,List.cons_append,List.nil_append]
        clear qc fc lc hq hof hc ob e1 e2
        go_wp2
        go_roundw
        case rel=>exact ⟨j+1,_,by omega,by go_num,HNN,HOJ3⟩
        case measure=>simp [intOf];omega
      ·obtain rfl:j=c.parts.length:=by omega
       have HNX:=Lib.hid (show NQ w W2 wr c.frame vv v2 v3 v4 v5 (normK keyPar c.parts) [] [] [] X by
        have h:=NQj.out
        rw [List.take_of_length_le (by rw [HOL.out];exact Nat.le_refl _),pick_norm (l:=c.parts) (key:=keyPar) (fun _ _=>keyPar_inj) HO.out] at h
        exact h)
       have HNY:=Lib.hid (show NQ w W2 wr c.frame vv v2 v3 v4 v5 (stg 1 2 (normK keyPar c.parts)) (stg 2 2 (normK keyWin c.wins)) (stg 3 2 (normK keyReg c.regs)) (stg 4 2 (normK keyPrt c.ports)) X by
        rw [stg_lt (s:=1) (k:=2) (by decide),stg_ge (s:=2) (k:=2) (by decide),stg_ge (s:=3) (k:=2) (by decide),stg_ge (s:=4) (k:=2) (by decide)]
        exact HNX.out)
       have HXN:=Lib.hid (show X.map (·.x)=stg 5 2 (normK keyChn c.srt.chans)∧ ∀e ∈ X,e ∈ L from ⟨by rw [HXE.out,stg_ge (by decide)],HXK.out.2⟩)
       go_wp2
       go_roundw
       case rel=>exact ⟨2,vv,v2,v3,v4,v5,X,by omega,by omega,by go_num,HNY,HXN⟩
       case measure=>simp [intOf]
    ·have NQ0:=HNQ.out
     rw [stg_lt (s:=1) (k:=2) (by decide),stg_ge (s:=2) (k:=2) (by decide),stg_ge (s:=3) (k:=2) (by decide),stg_ge (s:=4) (k:=2) (by decide)] at NQ0
     have NQk:=Lib.hid NQ0
     have hXk:=HXK.out.1
     rw [stg_ge (by decide)] at hXk
     have bxk:=NQ0.box HN2.out
     have x0:=bxk.cell 0
     have x1:=bxk.cell 1
     have x2:=bxk.cell 2
     have x3:=bxk.cell 3
     have x4:=bxk.cell 4
     have x5:=bxk.cell 5
     simp at x0 x1 x2 x3 x4 x5
     have hgl:=bxk.lt
     have HCk:=Lib.hid (NQ0.cfg HN2.out HR.out)
     have HXE:=Lib.hid hXk
     clear NQ0 hXk bxk
     go_wp2_with fail
     refine (rKeysS_ok c A1 A2 A3 A4 B5 c1 c2 c3 c4 d5 wr HCk.out HOK.out HSM.out 2 (by decide) (by decide)).mono ?_
     rintro e w3 ⟨KA,n,kd,rfl,hn,hK,hb3⟩
     have HK:=Lib.hid hK
     have HB3:=Lib.hid hb3
     have HN:=Lib.hid hn
     clear x0 x1 x2 x3 x4 x5 hgl hn hK hb3
     go_wp2_with fail
     refine (rOrder_n (keysOf c.srt 2) n HN.out KA kd w3 (keys_len (Cfg.srt_small HSM.out) 2).1 (keys_len (Cfg.srt_small HSM.out) 2).2 HK.out).mono ?_
     rintro e w4 ⟨oA,o,oc,rfl,ho,hown,hb4⟩
     obtain rfl:n=c.wins.length:=by rw [HN.out];simp [keysOf,Cfg.srt]
     have HO:=Lib.hid ho
     have HOL:=Lib.hid ho.len
     have NQ4:=Lib.hid (NQk.out.up (Below.then_ HB3.out hb4))
     have HOW:=Lib.hid (own_lessC hown (show W2.heap.size≤w3.heap.size from Nat.le_trans NQk.out.sz HB3.out.size))
     clear ho hown hb4
     go_wp2
     go_loopw [8] (fun i wr=> ∃(j:Nat) (v:Value),j≤c.wins.length∧i= .int .i64 j∧Hid (NQ w W2 wr c.frame v1 v v3 v4 v5 (normK keyPar c.parts) (pick c.wins (o.take j)) [] [] X)∧Hid (wr.ownsRow W2.heap.size 3 1 (.slice oA c.wins.length oc) c.wins.length (o.map iV))) (fun i _=>c.wins.length -(intOf i).toNat)
     case atStart=>exact ⟨0,v2,Nat.zero_le _,rfl,Lib.hid (by rw [pick_zero];exact NQ4.out),HOW⟩
     case round=>
      obtain ⟨j,vv,hj,rfl,NQj,HOJ⟩:=hrel
      by_cases hlt:j <c.wins.length
      ·obtain ⟨i,hi⟩:=get_lt (l:=o) (k:=j) (by rw [HOL.out];exact hlt)
       have hin:=HO.out.lt (List.mem_of_getElem? hi)
       have HOI:=Lib.hid hi
       obtain ⟨x,hx⟩:=get_lt (l:=c.wins) (k:=i) hin
       have HX:=Lib.hid hx
       obtain ⟨b,oo,rfl,hb,g0,g1,g2⟩:=win_at HR.out.wins hx
       have hb2:b <W2.heap.size:=by have:=NQj.out.g;omega
       have hb3:b≠w.heap.size+1+1:=by omega
       have hcw: ∀U:World,(∀t,t <W2.heap.size→t≠w.heap.size+1+1→U.heap[t]? =wr.heap[t]?)→ ∀t,U.cell? ⟨b,t,none⟩=w.cell? ⟨b,t,none⟩:=fun U hU t=>(cell_same (hU b hb2 hb3) t).trans (NQj.out.bel.cell (p:=⟨b,t,none⟩) hb)
       obtain ⟨bo,o2,rfl,hbo,_⟩:=(own_slice HOJ.out).2.2 (by omega)
       have bxj:=Lib.hid (NQj.out.box HN2.out)
       have y2:=bxj.out.cell 2
       simp at y2
       have hwg:=NQj.out.g
       have KEEP: ∀U:World,(∀t,t <W2.heap.size→t≠w.heap.size+1+1→U.heap[t]? =wr.heap[t]?)→U.ownsRow W2.heap.size 3 1 (.slice (some ⟨bo,o2,none⟩) c.wins.length oc) c.wins.length (o.map iV)→(fun U=>U.cell? ⟨w.heap.size,2,none⟩=some (.slice (some ⟨b,oo,none⟩) c.wins.length c2)∧U.cell? ⟨bo,o2+j,none⟩=some (.int .i64 i)∧U.cell? ⟨b,oo+i*3,none⟩=some (.int .u64 x.start)∧U.cell? ⟨b,oo+i*3+1,none⟩=some (.int .u64 x.len)∧U.cell? ⟨b,oo+i*3+2,none⟩=some (.int .u16 x.part)) U:=fun U hU hO=>
        ⟨(cell_same (hU w.heap.size (by omega) (by omega)) 2).trans y2,nat_at (by have h:=(own_slice hO).2;rw [←HOL.out] at h;exact h) HOI.out,(hcw U hU _).trans g0,(hcw U hU _).trans g1,(hcw U hU _).trans g2⟩
       have HSU:=Lib.hid KEEP
       have HSV:=Lib.hid (show ∀U,Below wr.heap.size wr U→(fun U=>U.cell? ⟨w.heap.size,2,none⟩=some (.slice (some ⟨b,oo,none⟩) c.wins.length c2)∧U.cell? ⟨bo,o2+j,none⟩=some (.int .i64 i)∧U.cell? ⟨b,oo+i*3,none⟩=some (.int .u64 x.start)∧U.cell? ⟨b,oo+i*3+1,none⟩=some (.int .u64 x.len)∧U.cell? ⟨b,oo+i*3+2,none⟩=some (.int .u16 x.part)) U from fun U hU=>HSU.out U (fun t h1 _=>hU.block t (Nat.lt_of_lt_of_le h1 NQj.out.sz)) (own_below HOJ.out hU))
       obtain ⟨z0,z1,z2,z3,z4⟩:=HSV.out wr (Below.refl _ _)
       have hpl:(pick c.wins (o.take j)).length=j:=by
        rw [pick_len (fun t ht=>HO.out.lt (List.mem_of_mem_take ht))]
        rw [List.length_take,HOL.out];omega
       have HPL:=Lib.hid hpl
       obtain ⟨vA,vc,rfl,_⟩:=own_form NQj.out.o2
       have q1:=NQj.out.out.cell 2
       simp at q1
       have hbl:w.heap.size+1+1 <wr.heap.size:=NQj.out.out.lt
       have hbw:b <wr.heap.size:=Nat.lt_of_lt_of_le hb2 NQj.out.sz
       have hwz0:w.heap.size <wr.heap.size:=by omega
       have n0:(0:Int)≤(i:Int):=by omega
       have n1:(i:Int) <(c.wins.length:Int):=by omega
       have j0:(0:Int)≤(j:Int):=by omega
       have j1:(j:Int) <(c.wins.length:Int):=by omega
       have HBW:=Lib.hid (Below.refl wr.heap.size wr)
       have HB2:=Lib.hid hb2
       have HBB3:=Lib.hid hb3
       have HHB:=Lib.hid hb
       clear KEEP hcw y2 g0 g1 g2 hx hi hin hpl hb2 hb3 hb hwg
       go_upto_region 19 with (fail)
       refine wp_region_B 76 13 10 11 _ rfl rfl (by kernel_rfl) (by kernel_rfl) (by kernel_rfl) (by kernel_rfl) (by kernel_rfl) (Nat.le_of_ble_eq_true (by kernel_rfl)) (by decide) (by decide) (by decide) rfl
        [.pointer (some ⟨w.heap.size+1+1,2,none⟩), .slice vA (pick c.wins (o.take j)).length vc, .pointer (some ⟨w.heap.size,2,none⟩), .slice (some ⟨b,oo,none⟩) c.wins.length c2, .slice (some ⟨bo,o2,none⟩) c.wins.length oc, .int .i64 j, .pointer (some ⟨bo,o2+j,none⟩), .int .i64 i, .pointer (some ⟨b,oo+i*3,none⟩), .agg #[.int .u64 x.start, .int .u64 x.len, .int .u16 x.part],undef,undef, .pointer (some ⟨w.heap.size+1+1,2,none⟩)]
        (fun v U=> ∃g,v= .slice (some ⟨g,0,none⟩) 1 1∧wr.heap.size≤g∧Blk U g 78 #[.int .u64 x.start, .int .u64 x.len, .int .u16 x.part])
        (fun v U=> ∃nA nc,v= .slice nA ((pick c.wins (o.take j)).length+1) nc∧U.ownsRow W2.heap.size 78 3 v ((pick c.wins (o.take j)).length+1) ((pick c.wins (o.take j)).flatMap Win.cells++ [.int .u64 x.start, .int .u64 x.len, .int .u16 x.part])∧ ∃W1,Below wr.heap.size wr W1∧Off 78 W1 U)
        (fun U=>Below W2.heap.size wr U∧U.ownsRow W2.heap.size 3 1 (.slice (some ⟨bo,o2,none⟩) c.wins.length oc) c.wins.length (o.map iV))
        (fun U=>Below wr.heap.size wr U)
        (fun U U'=>U.grownBy U' (Value.slice vA (pick c.wins (o.take j)).length vc).ownBlock)
        ((Below.refl _ _).drew) (fun U hU=>⟨hU.mono NQj.out.sz,own_below HOJ.out hU⟩)
        (fun v U U' ⟨g,h1,h2,h3⟩ hb=>⟨g,h1,h2,h3.below hb h3.lt⟩)
        (fun v U U' ⟨nA,nc,h1,h2,W1,h3,h4⟩ hb=>⟨nA,nc,h1,own_below h2 hb,W1,h3,off_below h4 hb⟩)
        (fun v U U' hU ⟨g,h1,h2,h3⟩ hg=>⟨g,h1,h2,(hg.block g h3.lt (fun e=>by have h5:=NQj.out.o2.lt g e.symm;omega)).trans h3⟩)
        ?hpure ?hlit ?happ (fun o ho=>by cases ho;exact ⟨{on:=10,ground:= .data},by simp,rfl,rfl⟩) ?hend
       case hpure=>
        intro q o ho hq1 hq2 hq3 U hE ρ r0 r1 r2
        obtain ⟨t0,t1,t2,t3,t4⟩:=HSU.out U (fun t h1 _=>hE.1.block t h1) hE.2
        have tq:=(NQj.out.out.below hE.1 (by have:=NQj.out.g;omega)).cell 2
        simp at tq
        match q,ho with
        |0,ho=>
         cases ho
         have e:=(r1 3 (by decide))
         simp only [execOp,List.getD_cons_zero]
         go_simp
        |1,ho=>
         cases ho
         have e:ρ (.tmp 76)= .pointer (some ⟨w.heap.size+1+1,2,none⟩):=r2 {on:=0,ground:= .data} (by simp) rfl (by decide) (by decide)
         simp only [execOp,List.getD_cons_succ,List.getD_cons_zero]
         go_simp
        |2,ho=>
         cases ho
         have e:=(r1 1 (by decide))
         simp only [execOp,List.getD_cons_succ,List.getD_cons_zero]
         go_simp
        |3,ho=>
         cases ho
         have e:ρ (.tmp 78)= .pointer (some ⟨w.heap.size,2,none⟩):=r2 {on:=2,ground:= .data} (by simp) rfl (by decide) (by decide)
         simp only [execOp,List.getD_cons_succ,List.getD_cons_zero]
         go_simp
        |4,ho=>
         cases ho
         have e:=(r1 7 (by decide))
         simp only [execOp,List.getD_cons_succ,List.getD_cons_zero]
         go_simp
        |5,ho=>
         cases ho
         have e:=(r1 8 (by decide))
         simp only [execOp,List.getD_cons_succ,List.getD_cons_zero]
         go_simp
        |6,ho=>
         cases ho
         have e:ρ (.tmp 80)= .slice (some ⟨bo,o2,none⟩) c.wins.length oc:=r2 {on:=4,ground:= .data} (by simp) rfl (by decide) (by decide)
         have e2:ρ (.tmp 81)= .int .i64 j:=r2 {on:=5,ground:= .data} (by simp) rfl (by decide) (by decide)
         simp only [execOp,List.getD_cons_succ,List.getD_cons_zero]
         go_simp
        |7,ho=>
         cases ho
         have e:ρ (.tmp 82)= .pointer (some ⟨bo,o2+j,none⟩):=r2 {on:=6,ground:= .data} (by simp) rfl (by decide) (by decide)
         simp only [execOp,List.getD_cons_succ,List.getD_cons_zero]
         go_simp
        |8,ho=>
         cases ho
         have e:ρ (.tmp 79)= .slice (some ⟨b,oo,none⟩) c.wins.length c2:=r2 {on:=3,ground:= .data} (by simp) rfl (by decide) (by decide)
         have e2:ρ (.tmp 83)= .int .i64 i:=r2 {on:=7,ground:= .data} (by simp) rfl (by decide) (by decide)
         simp only [execOp,List.getD_cons_succ,List.getD_cons_zero]
         go_simp
        |9,ho=>
         cases ho
         have e:ρ (.tmp 84)= .pointer (some ⟨b,oo+i*3,none⟩):=r2 {on:=8,ground:= .data} (by simp) rfl (by decide) (by decide)
         simp only [execOp,List.getD_cons_succ,List.getD_cons_zero]
         go_simp
        |12,ho=>
         cases ho
         have e:=(r1 3 (by decide))
         simp only [execOp,List.getD_cons_succ,List.getD_cons_zero]
         go_simp
        |10,_=>exact absurd rfl hq2
        |11,_=>exact absurd rfl hq3
        |t+13,ho=>exact absurd hq1 (Nat.not_lt.2 (Nat.le_add_left 13 t))
       case hlit=>
        intro o ho U hE ρ r0 r2
        cases ho
        have e:ρ (.tmp 85)= .agg #[.int .u64 x.start, .int .u64 x.len, .int .u16 x.part]:=r2 {on:=9,ground:= .data} (by simp) rfl (by decide)
        have hUs:wr.heap.size≤U.heap.size:=hE.1.size
        refine ⟨.slice (some ⟨U.heap.size,0,none⟩) 1 1,U.alloc (.cells #[.int .u64 x.start, .int .u64 x.len, .int .u16 x.part] 78), ?_,⟨hE.1.alloc (Nat.le_trans NQj.out.sz hUs) _,own_below hE.2 (below_one _ _)⟩,fun hS=>hS.alloc hUs _,below_one _ _,U.heap.size,rfl,hUs,Blk.new _ _ _⟩
        simp only [execOp]
        go_simp
       case happ=>
        intro o ho U v hE ⟨g,hv,hg,hbk⟩ ρ r1 r2
        cases ho
        subst hv
        have e:ρ (.tmp 77)= .slice vA (pick c.wins (o.take j)).length vc:=r2 {on:=1,ground:= .data} (by simp) rfl (by decide)
        have r3:ρ (.tmp 86)= .slice (some ⟨g,0,none⟩) 1 1:=r1
        have hown:=own_below NQj.out.o2 hE
        obtain ⟨v',w',hrun,h2,h3⟩:=run_append_rd (P:=Tryz.prog) U W2.heap.size 24 24 78 iw (.agg #[.int .u64 0, .int .u64 0, .int .u16 0]) 3 24 Tryz.underlying24 hiw hw0 hw1 hw2 rfl (by decide) _ (pick c.wins (o.take j)).length _ hown U.heap.size (some ⟨g,0,none⟩) 1 1 [.int .u64 x.start, .int .u64 x.len, .int .u16 x.part] (blk_rd hbk rfl) (by intro u hu;simp at hu;rcases hu with rfl |rfl |rfl<;>rfl) (by rw [HPL.out];unfold maxLen;omega) (by rw [HPL.out];omega) (Nat.le_trans NQj.out.sz hE.size)
        have hof:=Off.of_own hown h3
        obtain ⟨nA,nc,rfl,_⟩:=own_form h2
        refine ⟨_,w', ?_,⟨below_own (hE.mono NQj.out.sz) h3 hown (Nat.le_trans NQj.out.sz hE.size),own_off (own_below HOJ.out hE) hof (by decide)⟩,h3,nA,nc,rfl,h2,U,hE,hof⟩
        simp only [List.getElem_toArray,List.getElem_cons_succ,List.getElem_cons_zero,execOp,resolve,invoke,builtin,Sem.run_bind,Sem.run_pure,Result.andThen_ok,List.map_toArray,List.map_cons,List.map_nil,e,r3,hrun]
       case hend=>
        intro u U hE ⟨nA,nc,hu,hq,W1,hc,hof⟩ hcs ρ r0 r1 r2
        have HNN:=Lib.hid (NQ.app2 (N':=pick c.wins (o.take (j+1))) (v':= .slice nA ((pick c.wins (o.take j)).length+1) nc) NQj.out hc hE.1 hof (by rw [←hu,pick_take HOI.out HX.out,List.length_append,List.flatMap_append];exact hq))
        have HOJ3:=Lib.hid (own_set hE.2 (p:=⟨w.heap.size+1+1,2,none⟩) (by show w.heap.size+1+1 <_;have:=NQj.out.g;omega) (.slice nA ((pick c.wins (o.take j)).length+1) nc))
        have ob:=NQj.out.out.below hE.1 (by have:=NQj.out.g;omega)
        have qc:=ob.cell 2
        have fc:=ob.frozen 2
        have lc:=ob.lt
        simp at qc
        have e1:ρ (.tmp 87)= .slice nA ((pick c.wins (o.take j)).length+1) nc:=(r2 11 (by decide)).trans hu
        have e2:ρ (.tmp 88)= .pointer (some ⟨w.heap.size+1+1,2,none⟩):=(r2 12 (by decide)).trans (hcs 12 (by decide) (by decide) (by decide))
        refine ⟨U.setCell ⟨w.heap.size+1+1,2,none⟩ (.slice nA ((pick c.wins (o.take j)).length+1) nc),by simp only [execOp];go_simp, ?_⟩
        simp only [mkAt,List.take_succ_cons,List.take_zero,List.drop_succ_cons,List.drop_zero,List.range,List.range.loop,List.map_cons,List.map_nil,List.cons_append,List.nil_append]
        clear qc fc lc hq hof hc ob e1 e2
        go_wp2
        go_roundw
        case rel=>exact ⟨j+1,_,by omega,by go_num,HNN,HOJ3⟩
        case measure=>simp [intOf];omega
      ·obtain rfl:j=c.wins.length:=by omega
       have HNX:=Lib.hid (show NQ w W2 wr c.frame v1 vv v3 v4 v5 (normK keyPar c.parts) (normK keyWin c.wins) [] [] X by
        have h:=NQj.out
        rw [List.take_of_length_le (by rw [HOL.out];exact Nat.le_refl _),pick_norm (l:=c.wins) (key:=keyWin) (fun _ _=>keyWin_inj) HO.out] at h
        exact h)
       have HNY:=Lib.hid (show NQ w W2 wr c.frame v1 vv v3 v4 v5 (stg 1 3 (normK keyPar c.parts)) (stg 2 3 (normK keyWin c.wins)) (stg 3 3 (normK keyReg c.regs)) (stg 4 3 (normK keyPrt c.ports)) X by
        rw [stg_lt (s:=1) (k:=3) (by decide),stg_lt (s:=2) (k:=3) (by decide),stg_ge (s:=3) (k:=3) (by decide),stg_ge (s:=4) (k:=3) (by decide)]
        exact HNX.out)
       have HXN:=Lib.hid (show X.map (·.x)=stg 5 3 (normK keyChn c.srt.chans)∧ ∀e ∈ X,e ∈ L from ⟨by rw [HXE.out,stg_ge (by decide)],HXK.out.2⟩)
       go_wp2
       go_roundw
       case rel=>exact ⟨3,v1,vv,v3,v4,v5,X,by omega,by omega,by go_num,HNY,HXN⟩
       case measure=>simp [intOf]
    ·have NQ0:=HNQ.out
     rw [stg_lt (s:=1) (k:=3) (by decide),stg_lt (s:=2) (k:=3) (by decide),stg_ge (s:=3) (k:=3) (by decide),stg_ge (s:=4) (k:=3) (by decide)] at NQ0
     have NQk:=Lib.hid NQ0
     have hXk:=HXK.out.1
     rw [stg_ge (by decide)] at hXk
     have bxk:=NQ0.box HN2.out
     have x0:=bxk.cell 0
     have x1:=bxk.cell 1
     have x2:=bxk.cell 2
     have x3:=bxk.cell 3
     have x4:=bxk.cell 4
     have x5:=bxk.cell 5
     simp at x0 x1 x2 x3 x4 x5
     have hgl:=bxk.lt
     have HCk:=Lib.hid (NQ0.cfg HN2.out HR.out)
     have HXE:=Lib.hid hXk
     clear NQ0 hXk bxk
     go_wp2_with fail
     refine (rKeysS_ok c A1 A2 A3 A4 B5 c1 c2 c3 c4 d5 wr HCk.out HOK.out HSM.out 3 (by decide) (by decide)).mono ?_
     rintro e w3 ⟨KA,n,kd,rfl,hn,hK,hb3⟩
     have HK:=Lib.hid hK
     have HB3:=Lib.hid hb3
     have HN:=Lib.hid hn
     clear x0 x1 x2 x3 x4 x5 hgl hn hK hb3
     go_wp2_with fail
     refine (rOrder_n (keysOf c.srt 3) n HN.out KA kd w3 (keys_len (Cfg.srt_small HSM.out) 3).1 (keys_len (Cfg.srt_small HSM.out) 3).2 HK.out).mono ?_
     rintro e w4 ⟨oA,o,oc,rfl,ho,hown,hb4⟩
     obtain rfl:n=c.regs.length:=by rw [HN.out];simp [keysOf,Cfg.srt]
     have HO:=Lib.hid ho
     have HOL:=Lib.hid ho.len
     have NQ4:=Lib.hid (NQk.out.up (Below.then_ HB3.out hb4))
     have HOW:=Lib.hid (own_lessC hown (show W2.heap.size≤w3.heap.size from Nat.le_trans NQk.out.sz HB3.out.size))
     clear ho hown hb4
     go_wp2
     go_loopw [8] (fun i wr=> ∃(j:Nat) (v:Value),j≤c.regs.length∧i= .int .i64 j∧Hid (NQ w W2 wr c.frame v1 v2 v v4 v5 (normK keyPar c.parts) (normK keyWin c.wins) (pick c.regs (o.take j)) [] X)∧Hid (wr.ownsRow W2.heap.size 3 1 (.slice oA c.regs.length oc) c.regs.length (o.map iV))) (fun i _=>c.regs.length -(intOf i).toNat)
     case atStart=>exact ⟨0,v3,Nat.zero_le _,rfl,Lib.hid (by rw [pick_zero];exact NQ4.out),HOW⟩
     case round=>
      obtain ⟨j,vv,hj,rfl,NQj,HOJ⟩:=hrel
      by_cases hlt:j <c.regs.length
      ·obtain ⟨i,hi⟩:=get_lt (l:=o) (k:=j) (by rw [HOL.out];exact hlt)
       have hin:=HO.out.lt (List.mem_of_getElem? hi)
       have HOI:=Lib.hid hi
       obtain ⟨x,hx⟩:=get_lt (l:=c.regs) (k:=i) hin
       have HX:=Lib.hid hx
       obtain ⟨b,oo,rfl,hb,g0,g1,g2,g3,g4⟩:=reg_at HR.out.regs hx
       have hb2:b <W2.heap.size:=by have:=NQj.out.g;omega
       have hb3:b≠w.heap.size+1+1:=by omega
       have hcw: ∀U:World,(∀t,t <W2.heap.size→t≠w.heap.size+1+1→U.heap[t]? =wr.heap[t]?)→ ∀t,U.cell? ⟨b,t,none⟩=w.cell? ⟨b,t,none⟩:=fun U hU t=>(cell_same (hU b hb2 hb3) t).trans (NQj.out.bel.cell (p:=⟨b,t,none⟩) hb)
       obtain ⟨bo,o2,rfl,hbo,_⟩:=(own_slice HOJ.out).2.2 (by omega)
       have bxj:=Lib.hid (NQj.out.box HN2.out)
       have y3:=bxj.out.cell 3
       simp at y3
       have hwg:=NQj.out.g
       have KEEP: ∀U:World,(∀t,t <W2.heap.size→t≠w.heap.size+1+1→U.heap[t]? =wr.heap[t]?)→U.ownsRow W2.heap.size 3 1 (.slice (some ⟨bo,o2,none⟩) c.regs.length oc) c.regs.length (o.map iV)→(fun U=>U.cell? ⟨w.heap.size,3,none⟩=some (.slice (some ⟨b,oo,none⟩) c.regs.length c3)∧U.cell? ⟨bo,o2+j,none⟩=some (.int .i64 i)∧U.cell? ⟨b,oo+i*5,none⟩=some (.int .u64 x.base)∧U.cell? ⟨b,oo+i*5+1,none⟩=some (.int .u64 x.size)∧U.cell? ⟨b,oo+i*5+2,none⟩=some (.int .u16 x.part)∧U.cell? ⟨b,oo+i*5+3,none⟩=some (.int .u8 x.rights)∧U.cell? ⟨b,oo+i*5+4,none⟩=some (.bool x.shared)) U:=fun U hU hO=>
        ⟨(cell_same (hU w.heap.size (by omega) (by omega)) 3).trans y3,nat_at (by have h:=(own_slice hO).2;rw [←HOL.out] at h;exact h) HOI.out,(hcw U hU _).trans g0,(hcw U hU _).trans g1,(hcw U hU _).trans g2,(hcw U hU _).trans g3,(hcw U hU _).trans g4⟩
       have HSU:=Lib.hid KEEP
       have HSV:=Lib.hid (show ∀U,Below wr.heap.size wr U→(fun U=>U.cell? ⟨w.heap.size,3,none⟩=some (.slice (some ⟨b,oo,none⟩) c.regs.length c3)∧U.cell? ⟨bo,o2+j,none⟩=some (.int .i64 i)∧U.cell? ⟨b,oo+i*5,none⟩=some (.int .u64 x.base)∧U.cell? ⟨b,oo+i*5+1,none⟩=some (.int .u64 x.size)∧U.cell? ⟨b,oo+i*5+2,none⟩=some (.int .u16 x.part)∧U.cell? ⟨b,oo+i*5+3,none⟩=some (.int .u8 x.rights)∧U.cell? ⟨b,oo+i*5+4,none⟩=some (.bool x.shared)) U from fun U hU=>HSU.out U (fun t h1 _=>hU.block t (Nat.lt_of_lt_of_le h1 NQj.out.sz)) (own_below HOJ.out hU))
       obtain ⟨z0,z1,z2,z3,z4,z5,z6⟩:=HSV.out wr (Below.refl _ _)
       have hpl:(pick c.regs (o.take j)).length=j:=by
        rw [pick_len (fun t ht=>HO.out.lt (List.mem_of_mem_take ht))]
        rw [List.length_take,HOL.out];omega
       have HPL:=Lib.hid hpl
       obtain ⟨vA,vc,rfl,_⟩:=own_form NQj.out.o3
       have q1:=NQj.out.out.cell 3
       simp at q1
       have hbl:w.heap.size+1+1 <wr.heap.size:=NQj.out.out.lt
       have hbw:b <wr.heap.size:=Nat.lt_of_lt_of_le hb2 NQj.out.sz
       have hwz0:w.heap.size <wr.heap.size:=by omega
       have n0:(0:Int)≤(i:Int):=by omega
       have n1:(i:Int) <(c.regs.length:Int):=by omega
       have j0:(0:Int)≤(j:Int):=by omega
       have j1:(j:Int) <(c.regs.length:Int):=by omega
       have HBW:=Lib.hid (Below.refl wr.heap.size wr)
       have HB2:=Lib.hid hb2
       have HBB3:=Lib.hid hb3
       have HHB:=Lib.hid hb
       clear KEEP hcw y3 g0 g1 g2 g3 g4 hx hi hin hpl hb2 hb3 hb hwg
       go_upto_region 21 with (fail)
       refine wp_region_B 91 13 10 11 _ rfl rfl (by kernel_rfl) (by kernel_rfl) (by kernel_rfl) (by kernel_rfl) (by kernel_rfl) (Nat.le_of_ble_eq_true (by kernel_rfl)) (by decide) (by decide) (by decide) rfl
        [.pointer (some ⟨w.heap.size+1+1,3,none⟩), .slice vA (pick c.regs (o.take j)).length vc, .pointer (some ⟨w.heap.size,3,none⟩), .slice (some ⟨b,oo,none⟩) c.regs.length c3, .slice (some ⟨bo,o2,none⟩) c.regs.length oc, .int .i64 j, .pointer (some ⟨bo,o2+j,none⟩), .int .i64 i, .pointer (some ⟨b,oo+i*5,none⟩), .agg #[.int .u64 x.base, .int .u64 x.size, .int .u16 x.part, .int .u8 x.rights, .bool x.shared],undef,undef, .pointer (some ⟨w.heap.size+1+1,3,none⟩)]
        (fun v U=> ∃g,v= .slice (some ⟨g,0,none⟩) 1 1∧wr.heap.size≤g∧Blk U g 81 #[.int .u64 x.base, .int .u64 x.size, .int .u16 x.part, .int .u8 x.rights, .bool x.shared])
        (fun v U=> ∃nA nc,v= .slice nA ((pick c.regs (o.take j)).length+1) nc∧U.ownsRow W2.heap.size 81 5 v ((pick c.regs (o.take j)).length+1) ((pick c.regs (o.take j)).flatMap Reg.cells++ [.int .u64 x.base, .int .u64 x.size, .int .u16 x.part, .int .u8 x.rights, .bool x.shared])∧ ∃W1,Below wr.heap.size wr W1∧Off 81 W1 U)
        (fun U=>Below W2.heap.size wr U∧U.ownsRow W2.heap.size 3 1 (.slice (some ⟨bo,o2,none⟩) c.regs.length oc) c.regs.length (o.map iV))
        (fun U=>Below wr.heap.size wr U)
        (fun U U'=>U.grownBy U' (Value.slice vA (pick c.regs (o.take j)).length vc).ownBlock)
        ((Below.refl _ _).drew) (fun U hU=>⟨hU.mono NQj.out.sz,own_below HOJ.out hU⟩)
        (fun v U U' ⟨g,h1,h2,h3⟩ hb=>⟨g,h1,h2,h3.below hb h3.lt⟩)
        (fun v U U' ⟨nA,nc,h1,h2,W1,h3,h4⟩ hb=>⟨nA,nc,h1,own_below h2 hb,W1,h3,off_below h4 hb⟩)
        (fun v U U' hU ⟨g,h1,h2,h3⟩ hg=>⟨g,h1,h2,(hg.block g h3.lt (fun e=>by have h5:=NQj.out.o3.lt g e.symm;omega)).trans h3⟩)
        ?hpure ?hlit ?happ (fun o ho=>by cases ho;exact ⟨{on:=10,ground:= .data},by simp,rfl,rfl⟩) ?hend
       case hpure=>
        intro q o ho hq1 hq2 hq3 U hE ρ r0 r1 r2
        obtain ⟨t0,t1,t2,t3,t4,t5,t6⟩:=HSU.out U (fun t h1 _=>hE.1.block t h1) hE.2
        have tq:=(NQj.out.out.below hE.1 (by have:=NQj.out.g;omega)).cell 3
        simp at tq
        match q,ho with
        |0,ho=>
         cases ho
         have e:=(r1 3 (by decide))
         simp only [execOp,List.getD_cons_zero]
         go_simp
        |1,ho=>
         cases ho
         have e:ρ (.tmp 91)= .pointer (some ⟨w.heap.size+1+1,3,none⟩):=r2 {on:=0,ground:= .data} (by simp) rfl (by decide) (by decide)
         simp only [execOp,List.getD_cons_succ,List.getD_cons_zero]
         go_simp
        |2,ho=>
         cases ho
         have e:=(r1 1 (by decide))
         simp only [execOp,List.getD_cons_succ,List.getD_cons_zero]
         go_simp
        |3,ho=>
         cases ho
         have e:ρ (.tmp 93)= .pointer (some ⟨w.heap.size,3,none⟩):=r2 {on:=2,ground:= .data} (by simp) rfl (by decide) (by decide)
         simp only [execOp,List.getD_cons_succ,List.getD_cons_zero]
         go_simp
        |4,ho=>
         cases ho
         have e:=(r1 7 (by decide))
         simp only [execOp,List.getD_cons_succ,List.getD_cons_zero]
         go_simp
        |5,ho=>
         cases ho
         have e:=(r1 8 (by decide))
         simp only [execOp,List.getD_cons_succ,List.getD_cons_zero]
         go_simp
        |6,ho=>
         cases ho
         have e:ρ (.tmp 95)= .slice (some ⟨bo,o2,none⟩) c.regs.length oc:=r2 {on:=4,ground:= .data} (by simp) rfl (by decide) (by decide)
         have e2:ρ (.tmp 96)= .int .i64 j:=r2 {on:=5,ground:= .data} (by simp) rfl (by decide) (by decide)
         simp only [execOp,List.getD_cons_succ,List.getD_cons_zero]
         go_simp
        |7,ho=>
         cases ho
         have e:ρ (.tmp 97)= .pointer (some ⟨bo,o2+j,none⟩):=r2 {on:=6,ground:= .data} (by simp) rfl (by decide) (by decide)
         simp only [execOp,List.getD_cons_succ,List.getD_cons_zero]
         go_simp
        |8,ho=>
         cases ho
         have e:ρ (.tmp 94)= .slice (some ⟨b,oo,none⟩) c.regs.length c3:=r2 {on:=3,ground:= .data} (by simp) rfl (by decide) (by decide)
         have e2:ρ (.tmp 98)= .int .i64 i:=r2 {on:=7,ground:= .data} (by simp) rfl (by decide) (by decide)
         simp only [execOp,List.getD_cons_succ,List.getD_cons_zero]
         go_simp
        |9,ho=>
         cases ho
         have e:ρ (.tmp 99)= .pointer (some ⟨b,oo+i*5,none⟩):=r2 {on:=8,ground:= .data} (by simp) rfl (by decide) (by decide)
         simp only [execOp,List.getD_cons_succ,List.getD_cons_zero]
         go_simp
        |12,ho=>
         cases ho
         have e:=(r1 3 (by decide))
         simp only [execOp,List.getD_cons_succ,List.getD_cons_zero]
         go_simp
        |10,_=>exact absurd rfl hq2
        |11,_=>exact absurd rfl hq3
        |t+13,ho=>exact absurd hq1 (Nat.not_lt.2 (Nat.le_add_left 13 t))
       case hlit=>
        intro o ho U hE ρ r0 r2
        cases ho
        have e:ρ (.tmp 100)= .agg #[.int .u64 x.base, .int .u64 x.size, .int .u16 x.part, .int .u8 x.rights, .bool x.shared]:=r2 {on:=9,ground:= .data} (by simp) rfl (by decide)
        have hUs:wr.heap.size≤U.heap.size:=hE.1.size
        refine ⟨.slice (some ⟨U.heap.size,0,none⟩) 1 1,U.alloc (.cells #[.int .u64 x.base, .int .u64 x.size, .int .u16 x.part, .int .u8 x.rights, .bool x.shared] 81), ?_,⟨hE.1.alloc (Nat.le_trans NQj.out.sz hUs) _,own_below hE.2 (below_one _ _)⟩,fun hS=>hS.alloc hUs _,below_one _ _,U.heap.size,rfl,hUs,Blk.new _ _ _⟩
        simp only [execOp]
        go_simp
       case happ=>
        intro o ho U v hE ⟨g,hv,hg,hbk⟩ ρ r1 r2
        cases ho
        subst hv
        have e:ρ (.tmp 92)= .slice vA (pick c.regs (o.take j)).length vc:=r2 {on:=1,ground:= .data} (by simp) rfl (by decide)
        have r3:ρ (.tmp 101)= .slice (some ⟨g,0,none⟩) 1 1:=r1
        have hown:=own_below NQj.out.o3 hE
        obtain ⟨v',w',hrun,h2,h3⟩:=run_append_rd (P:=Tryz.prog) U W2.heap.size 25 25 81 ir (.agg #[.int .u64 0, .int .u64 0, .int .u16 0, .int .u8 0, .bool false]) 5 24 Tryz.underlying25 hir hr0 hr1 hr2 rfl (by decide) _ (pick c.regs (o.take j)).length _ hown U.heap.size (some ⟨g,0,none⟩) 1 1 [.int .u64 x.base, .int .u64 x.size, .int .u16 x.part, .int .u8 x.rights, .bool x.shared] (blk_rd hbk rfl) (by intro u hu;simp at hu;rcases hu with rfl |rfl |rfl |rfl |rfl<;>rfl) (by rw [HPL.out];unfold maxLen;omega) (by rw [HPL.out];omega) (Nat.le_trans NQj.out.sz hE.size)
        have hof:=Off.of_own hown h3
        obtain ⟨nA,nc,rfl,_⟩:=own_form h2
        refine ⟨_,w', ?_,⟨below_own (hE.mono NQj.out.sz) h3 hown (Nat.le_trans NQj.out.sz hE.size),own_off (own_below HOJ.out hE) hof (by decide)⟩,h3,nA,nc,rfl,h2,U,hE,hof⟩
        simp only [List.getElem_toArray,List.getElem_cons_succ,List.getElem_cons_zero,execOp,resolve,invoke,builtin,Sem.run_bind,Sem.run_pure,Result.andThen_ok,List.map_toArray,List.map_cons,List.map_nil,e,r3,hrun]
       case hend=>
        intro u U hE ⟨nA,nc,hu,hq,W1,hc,hof⟩ hcs ρ r0 r1 r2
        have HNN:=Lib.hid (NQ.app3 (R':=pick c.regs (o.take (j+1))) (v':= .slice nA ((pick c.regs (o.take j)).length+1) nc) NQj.out hc hE.1 hof (by rw [←hu,pick_take HOI.out HX.out,List.length_append,List.flatMap_append];exact hq))
        have HOJ3:=Lib.hid (own_set hE.2 (p:=⟨w.heap.size+1+1,3,none⟩) (by show w.heap.size+1+1 <_;have:=NQj.out.g;omega) (.slice nA ((pick c.regs (o.take j)).length+1) nc))
        have ob:=NQj.out.out.below hE.1 (by have:=NQj.out.g;omega)
        have qc:=ob.cell 3
        have fc:=ob.frozen 3
        have lc:=ob.lt
        simp at qc
        have e1:ρ (.tmp 102)= .slice nA ((pick c.regs (o.take j)).length+1) nc:=(r2 11 (by decide)).trans hu
        have e2:ρ (.tmp 103)= .pointer (some ⟨w.heap.size+1+1,3,none⟩):=(r2 12 (by decide)).trans (hcs 12 (by decide) (by decide) (by decide))
        refine ⟨U.setCell ⟨w.heap.size+1+1,3,none⟩ (.slice nA ((pick c.regs (o.take j)).length+1) nc),by simp only [execOp];go_simp, ?_⟩
        simp only [mkAt,List.take_succ_cons,List.take_zero,List.drop_succ_cons,List.drop_zero,List.range,List.range.loop,List.map_cons,List.map_nil,List.cons_append,List.nil_append]
        clear qc fc lc hq hof hc ob e1 e2
        go_wp2
        go_roundw
        case rel=>exact ⟨j+1,_,by omega,by go_num,HNN,HOJ3⟩
        case measure=>simp [intOf];omega
      ·obtain rfl:j=c.regs.length:=by omega
       have HNX:=Lib.hid (show NQ w W2 wr c.frame v1 v2 vv v4 v5 (normK keyPar c.parts) (normK keyWin c.wins) (normK keyReg c.regs) [] X by
        have h:=NQj.out
        rw [List.take_of_length_le (by rw [HOL.out];exact Nat.le_refl _),pick_norm (l:=c.regs) (key:=keyReg) (fun _ _=>keyReg_inj) HO.out] at h
        exact h)
       have HNY:=Lib.hid (show NQ w W2 wr c.frame v1 v2 vv v4 v5 (stg 1 4 (normK keyPar c.parts)) (stg 2 4 (normK keyWin c.wins)) (stg 3 4 (normK keyReg c.regs)) (stg 4 4 (normK keyPrt c.ports)) X by
        rw [stg_lt (s:=1) (k:=4) (by decide),stg_lt (s:=2) (k:=4) (by decide),stg_lt (s:=3) (k:=4) (by decide),stg_ge (s:=4) (k:=4) (by decide)]
        exact HNX.out)
       have HXN:=Lib.hid (show X.map (·.x)=stg 5 4 (normK keyChn c.srt.chans)∧ ∀e ∈ X,e ∈ L from ⟨by rw [HXE.out,stg_ge (by decide)],HXK.out.2⟩)
       go_wp2
       go_roundw
       case rel=>exact ⟨4,v1,v2,vv,v4,v5,X,by omega,by omega,by go_num,HNY,HXN⟩
       case measure=>simp [intOf]
    ·have NQ0:=HNQ.out
     rw [stg_lt (s:=1) (k:=4) (by decide),stg_lt (s:=2) (k:=4) (by decide),stg_lt (s:=3) (k:=4) (by decide),stg_ge (s:=4) (k:=4) (by decide)] at NQ0
     have NQk:=Lib.hid NQ0
     have hXk:=HXK.out.1
     rw [stg_ge (by decide)] at hXk
     have bxk:=NQ0.box HN2.out
     have x0:=bxk.cell 0
     have x1:=bxk.cell 1
     have x2:=bxk.cell 2
     have x3:=bxk.cell 3
     have x4:=bxk.cell 4
     have x5:=bxk.cell 5
     simp at x0 x1 x2 x3 x4 x5
     have hgl:=bxk.lt
     have HCk:=Lib.hid (NQ0.cfg HN2.out HR.out)
     have HXE:=Lib.hid hXk
     clear NQ0 hXk bxk
     go_wp2_with fail
     refine (rKeysS_ok c A1 A2 A3 A4 B5 c1 c2 c3 c4 d5 wr HCk.out HOK.out HSM.out 4 (by decide) (by decide)).mono ?_
     rintro e w3 ⟨KA,n,kd,rfl,hn,hK,hb3⟩
     have HK:=Lib.hid hK
     have HB3:=Lib.hid hb3
     have HN:=Lib.hid hn
     clear x0 x1 x2 x3 x4 x5 hgl hn hK hb3
     go_wp2_with fail
     refine (rOrder_n (keysOf c.srt 4) n HN.out KA kd w3 (keys_len (Cfg.srt_small HSM.out) 4).1 (keys_len (Cfg.srt_small HSM.out) 4).2 HK.out).mono ?_
     rintro e w4 ⟨oA,o,oc,rfl,ho,hown,hb4⟩
     obtain rfl:n=c.ports.length:=by rw [HN.out];simp [keysOf,Cfg.srt]
     have HO:=Lib.hid ho
     have HOL:=Lib.hid ho.len
     have NQ4:=Lib.hid (NQk.out.up (Below.then_ HB3.out hb4))
     have HOW:=Lib.hid (own_lessC hown (show W2.heap.size≤w3.heap.size from Nat.le_trans NQk.out.sz HB3.out.size))
     clear ho hown hb4
     go_wp2
     go_loopw [8] (fun i wr=> ∃(j:Nat) (v:Value),j≤c.ports.length∧i= .int .i64 j∧Hid (NQ w W2 wr c.frame v1 v2 v3 v v5 (normK keyPar c.parts) (normK keyWin c.wins) (normK keyReg c.regs) (pick c.ports (o.take j)) X)∧Hid (wr.ownsRow W2.heap.size 3 1 (.slice oA c.ports.length oc) c.ports.length (o.map iV))) (fun i _=>c.ports.length -(intOf i).toNat)
     case atStart=>exact ⟨0,v4,Nat.zero_le _,rfl,Lib.hid (by rw [pick_zero];exact NQ4.out),HOW⟩
     case round=>
      obtain ⟨j,vv,hj,rfl,NQj,HOJ⟩:=hrel
      by_cases hlt:j <c.ports.length
      ·obtain ⟨i,hi⟩:=get_lt (l:=o) (k:=j) (by rw [HOL.out];exact hlt)
       have hin:=HO.out.lt (List.mem_of_getElem? hi)
       have HOI:=Lib.hid hi
       obtain ⟨x,hx⟩:=get_lt (l:=c.ports) (k:=i) hin
       have HX:=Lib.hid hx
       obtain ⟨b,oo,rfl,hb,g0,g1,g2,g3,g4,g5⟩:=prt_at HR.out.ports hx
       have hb2:b <W2.heap.size:=by have:=NQj.out.g;omega
       have hb3:b≠w.heap.size+1+1:=by omega
       have hcw: ∀U:World,(∀t,t <W2.heap.size→t≠w.heap.size+1+1→U.heap[t]? =wr.heap[t]?)→ ∀t,U.cell? ⟨b,t,none⟩=w.cell? ⟨b,t,none⟩:=fun U hU t=>(cell_same (hU b hb2 hb3) t).trans (NQj.out.bel.cell (p:=⟨b,t,none⟩) hb)
       obtain ⟨bo,o2,rfl,hbo,_⟩:=(own_slice HOJ.out).2.2 (by omega)
       have bxj:=Lib.hid (NQj.out.box HN2.out)
       have y4:=bxj.out.cell 4
       simp at y4
       have hwg:=NQj.out.g
       have KEEP: ∀U:World,(∀t,t <W2.heap.size→t≠w.heap.size+1+1→U.heap[t]? =wr.heap[t]?)→U.ownsRow W2.heap.size 3 1 (.slice (some ⟨bo,o2,none⟩) c.ports.length oc) c.ports.length (o.map iV)→(fun U=>U.cell? ⟨w.heap.size,4,none⟩=some (.slice (some ⟨b,oo,none⟩) c.ports.length c4)∧U.cell? ⟨bo,o2+j,none⟩=some (.int .i64 i)∧U.cell? ⟨b,oo+i*6,none⟩=some (.int .u16 x.id)∧U.cell? ⟨b,oo+i*6+1,none⟩=some (.int .u16 x.part)∧U.cell? ⟨b,oo+i*6+2,none⟩=some (.string x.name)∧U.cell? ⟨b,oo+i*6+3,none⟩=some (.bool x.output)∧U.cell? ⟨b,oo+i*6+4,none⟩=some (.bool x.queuing)∧U.cell? ⟨b,oo+i*6+5,none⟩=some (.int .u32 x.size)) U:=fun U hU hO=>
        ⟨(cell_same (hU w.heap.size (by omega) (by omega)) 4).trans y4,nat_at (by have h:=(own_slice hO).2;rw [←HOL.out] at h;exact h) HOI.out,(hcw U hU _).trans g0,(hcw U hU _).trans g1,(hcw U hU _).trans g2,(hcw U hU _).trans g3,(hcw U hU _).trans g4,(hcw U hU _).trans g5⟩
       have HSU:=Lib.hid KEEP
       have HSV:=Lib.hid (show ∀U,Below wr.heap.size wr U→(fun U=>U.cell? ⟨w.heap.size,4,none⟩=some (.slice (some ⟨b,oo,none⟩) c.ports.length c4)∧U.cell? ⟨bo,o2+j,none⟩=some (.int .i64 i)∧U.cell? ⟨b,oo+i*6,none⟩=some (.int .u16 x.id)∧U.cell? ⟨b,oo+i*6+1,none⟩=some (.int .u16 x.part)∧U.cell? ⟨b,oo+i*6+2,none⟩=some (.string x.name)∧U.cell? ⟨b,oo+i*6+3,none⟩=some (.bool x.output)∧U.cell? ⟨b,oo+i*6+4,none⟩=some (.bool x.queuing)∧U.cell? ⟨b,oo+i*6+5,none⟩=some (.int .u32 x.size)) U from fun U hU=>HSU.out U (fun t h1 _=>hU.block t (Nat.lt_of_lt_of_le h1 NQj.out.sz)) (own_below HOJ.out hU))
       obtain ⟨z0,z1,z2,z3,z4,z5,z6,z7⟩:=HSV.out wr (Below.refl _ _)
       have hpl:(pick c.ports (o.take j)).length=j:=by
        rw [pick_len (fun t ht=>HO.out.lt (List.mem_of_mem_take ht))]
        rw [List.length_take,HOL.out];omega
       have HPL:=Lib.hid hpl
       obtain ⟨vA,vc,rfl,_⟩:=own_form NQj.out.o4
       have q1:=NQj.out.out.cell 4
       simp at q1
       have hbl:w.heap.size+1+1 <wr.heap.size:=NQj.out.out.lt
       have hbw:b <wr.heap.size:=Nat.lt_of_lt_of_le hb2 NQj.out.sz
       have hwz0:w.heap.size <wr.heap.size:=by omega
       have n0:(0:Int)≤(i:Int):=by omega
       have n1:(i:Int) <(c.ports.length:Int):=by omega
       have j0:(0:Int)≤(j:Int):=by omega
       have j1:(j:Int) <(c.ports.length:Int):=by omega
       have HBW:=Lib.hid (Below.refl wr.heap.size wr)
       have HB2:=Lib.hid hb2
       have HBB3:=Lib.hid hb3
       have HHB:=Lib.hid hb
       clear KEEP hcw y4 g0 g1 g2 g3 g4 g5 hx hi hin hpl hb2 hb3 hb hwg
       go_upto_region 23 with (fail)
       refine wp_region_B 106 13 10 11 _ rfl rfl (by kernel_rfl) (by kernel_rfl) (by kernel_rfl) (by kernel_rfl) (by kernel_rfl) (Nat.le_of_ble_eq_true (by kernel_rfl)) (by decide) (by decide) (by decide) rfl
        [.pointer (some ⟨w.heap.size+1+1,4,none⟩), .slice vA (pick c.ports (o.take j)).length vc, .pointer (some ⟨w.heap.size,4,none⟩), .slice (some ⟨b,oo,none⟩) c.ports.length c4, .slice (some ⟨bo,o2,none⟩) c.ports.length oc, .int .i64 j, .pointer (some ⟨bo,o2+j,none⟩), .int .i64 i, .pointer (some ⟨b,oo+i*6,none⟩), .agg #[.int .u16 x.id, .int .u16 x.part, .string x.name, .bool x.output, .bool x.queuing, .int .u32 x.size],undef,undef, .pointer (some ⟨w.heap.size+1+1,4,none⟩)]
        (fun v U=> ∃g,v= .slice (some ⟨g,0,none⟩) 1 1∧wr.heap.size≤g∧Blk U g 85 #[.int .u16 x.id, .int .u16 x.part, .string x.name, .bool x.output, .bool x.queuing, .int .u32 x.size])
        (fun v U=> ∃nA nc,v= .slice nA ((pick c.ports (o.take j)).length+1) nc∧U.ownsRow W2.heap.size 85 6 v ((pick c.ports (o.take j)).length+1) ((pick c.ports (o.take j)).flatMap Prt.cells++ [.int .u16 x.id, .int .u16 x.part, .string x.name, .bool x.output, .bool x.queuing, .int .u32 x.size])∧ ∃W1,Below wr.heap.size wr W1∧Off 85 W1 U)
        (fun U=>Below W2.heap.size wr U∧U.ownsRow W2.heap.size 3 1 (.slice (some ⟨bo,o2,none⟩) c.ports.length oc) c.ports.length (o.map iV))
        (fun U=>Below wr.heap.size wr U)
        (fun U U'=>U.grownBy U' (Value.slice vA (pick c.ports (o.take j)).length vc).ownBlock)
        ((Below.refl _ _).drew) (fun U hU=>⟨hU.mono NQj.out.sz,own_below HOJ.out hU⟩)
        (fun v U U' ⟨g,h1,h2,h3⟩ hb=>⟨g,h1,h2,h3.below hb h3.lt⟩)
        (fun v U U' ⟨nA,nc,h1,h2,W1,h3,h4⟩ hb=>⟨nA,nc,h1,own_below h2 hb,W1,h3,off_below h4 hb⟩)
        (fun v U U' hU ⟨g,h1,h2,h3⟩ hg=>⟨g,h1,h2,(hg.block g h3.lt (fun e=>by have h5:=NQj.out.o4.lt g e.symm;omega)).trans h3⟩)
        ?hpure ?hlit ?happ (fun o ho=>by cases ho;exact ⟨{on:=10,ground:= .data},by simp,rfl,rfl⟩) ?hend
       case hpure=>
        intro q o ho hq1 hq2 hq3 U hE ρ r0 r1 r2
        obtain ⟨t0,t1,t2,t3,t4,t5,t6,t7⟩:=HSU.out U (fun t h1 _=>hE.1.block t h1) hE.2
        have tq:=(NQj.out.out.below hE.1 (by have:=NQj.out.g;omega)).cell 4
        simp at tq
        match q,ho with
        |0,ho=>
         cases ho
         have e:=(r1 3 (by decide))
         simp only [execOp,List.getD_cons_zero]
         go_simp
        |1,ho=>
         cases ho
         have e:ρ (.tmp 106)= .pointer (some ⟨w.heap.size+1+1,4,none⟩):=r2 {on:=0,ground:= .data} (by simp) rfl (by decide) (by decide)
         simp only [execOp,List.getD_cons_succ,List.getD_cons_zero]
         go_simp
        |2,ho=>
         cases ho
         have e:=(r1 1 (by decide))
         simp only [execOp,List.getD_cons_succ,List.getD_cons_zero]
         go_simp
        |3,ho=>
         cases ho
         have e:ρ (.tmp 108)= .pointer (some ⟨w.heap.size,4,none⟩):=r2 {on:=2,ground:= .data} (by simp) rfl (by decide) (by decide)
         simp only [execOp,List.getD_cons_succ,List.getD_cons_zero]
         go_simp
        |4,ho=>
         cases ho
         have e:=(r1 7 (by decide))
         simp only [execOp,List.getD_cons_succ,List.getD_cons_zero]
         go_simp
        |5,ho=>
         cases ho
         have e:=(r1 8 (by decide))
         simp only [execOp,List.getD_cons_succ,List.getD_cons_zero]
         go_simp
        |6,ho=>
         cases ho
         have e:ρ (.tmp 110)= .slice (some ⟨bo,o2,none⟩) c.ports.length oc:=r2 {on:=4,ground:= .data} (by simp) rfl (by decide) (by decide)
         have e2:ρ (.tmp 111)= .int .i64 j:=r2 {on:=5,ground:= .data} (by simp) rfl (by decide) (by decide)
         simp only [execOp,List.getD_cons_succ,List.getD_cons_zero]
         go_simp
        |7,ho=>
         cases ho
         have e:ρ (.tmp 112)= .pointer (some ⟨bo,o2+j,none⟩):=r2 {on:=6,ground:= .data} (by simp) rfl (by decide) (by decide)
         simp only [execOp,List.getD_cons_succ,List.getD_cons_zero]
         go_simp
        |8,ho=>
         cases ho
         have e:ρ (.tmp 109)= .slice (some ⟨b,oo,none⟩) c.ports.length c4:=r2 {on:=3,ground:= .data} (by simp) rfl (by decide) (by decide)
         have e2:ρ (.tmp 113)= .int .i64 i:=r2 {on:=7,ground:= .data} (by simp) rfl (by decide) (by decide)
         simp only [execOp,List.getD_cons_succ,List.getD_cons_zero]
         go_simp
        |9,ho=>
         cases ho
         have e:ρ (.tmp 114)= .pointer (some ⟨b,oo+i*6,none⟩):=r2 {on:=8,ground:= .data} (by simp) rfl (by decide) (by decide)
         simp only [execOp,List.getD_cons_succ,List.getD_cons_zero]
         go_simp
        |12,ho=>
         cases ho
         have e:=(r1 3 (by decide))
         simp only [execOp,List.getD_cons_succ,List.getD_cons_zero]
         go_simp
        |10,_=>exact absurd rfl hq2
        |11,_=>exact absurd rfl hq3
        |t+13,ho=>exact absurd hq1 (Nat.not_lt.2 (Nat.le_add_left 13 t))
       case hlit=>
        intro o ho U hE ρ r0 r2
        cases ho
        have e:ρ (.tmp 115)= .agg #[.int .u16 x.id, .int .u16 x.part, .string x.name, .bool x.output, .bool x.queuing, .int .u32 x.size]:=r2 {on:=9,ground:= .data} (by simp) rfl (by decide)
        have hUs:wr.heap.size≤U.heap.size:=hE.1.size
        refine ⟨.slice (some ⟨U.heap.size,0,none⟩) 1 1,U.alloc (.cells #[.int .u16 x.id, .int .u16 x.part, .string x.name, .bool x.output, .bool x.queuing, .int .u32 x.size] 85), ?_,⟨hE.1.alloc (Nat.le_trans NQj.out.sz hUs) _,own_below hE.2 (below_one _ _)⟩,fun hS=>hS.alloc hUs _,below_one _ _,U.heap.size,rfl,hUs,Blk.new _ _ _⟩
        simp only [execOp]
        go_simp
       case happ=>
        intro o ho U v hE ⟨g,hv,hg,hbk⟩ ρ r1 r2
        cases ho
        subst hv
        have e:ρ (.tmp 107)= .slice vA (pick c.ports (o.take j)).length vc:=r2 {on:=1,ground:= .data} (by simp) rfl (by decide)
        have r3:ρ (.tmp 116)= .slice (some ⟨g,0,none⟩) 1 1:=r1
        have hown:=own_below NQj.out.o4 hE
        obtain ⟨v',w',hrun,h2,h3⟩:=run_append_rd (P:=Tryz.prog) U W2.heap.size 26 26 85 it (.agg #[.int .u16 0, .int .u16 0, .string .empty, .bool false, .bool false, .int .u32 0]) 6 32 Tryz.underlying26 hit ht0 ht1 ht2 rfl (by decide) _ (pick c.ports (o.take j)).length _ hown U.heap.size (some ⟨g,0,none⟩) 1 1 [.int .u16 x.id, .int .u16 x.part, .string x.name, .bool x.output, .bool x.queuing, .int .u32 x.size] (blk_rd hbk rfl) (by intro u hu;simp at hu;rcases hu with rfl |rfl |rfl |rfl |rfl |rfl<;>rfl) (by rw [HPL.out];unfold maxLen;omega) (by rw [HPL.out];omega) (Nat.le_trans NQj.out.sz hE.size)
        have hof:=Off.of_own hown h3
        obtain ⟨nA,nc,rfl,_⟩:=own_form h2
        refine ⟨_,w', ?_,⟨below_own (hE.mono NQj.out.sz) h3 hown (Nat.le_trans NQj.out.sz hE.size),own_off (own_below HOJ.out hE) hof (by decide)⟩,h3,nA,nc,rfl,h2,U,hE,hof⟩
        simp only [List.getElem_toArray,List.getElem_cons_succ,List.getElem_cons_zero,execOp,resolve,invoke,builtin,Sem.run_bind,Sem.run_pure,Result.andThen_ok,List.map_toArray,List.map_cons,List.map_nil,e,r3,hrun]
       case hend=>
        intro u U hE ⟨nA,nc,hu,hq,W1,hc,hof⟩ hcs ρ r0 r1 r2
        have HNN:=Lib.hid (NQ.app4 (T':=pick c.ports (o.take (j+1))) (v':= .slice nA ((pick c.ports (o.take j)).length+1) nc) NQj.out hc hE.1 hof (by rw [←hu,pick_take HOI.out HX.out,List.length_append,List.flatMap_append];exact hq))
        have HOJ3:=Lib.hid (own_set hE.2 (p:=⟨w.heap.size+1+1,4,none⟩) (by show w.heap.size+1+1 <_;have:=NQj.out.g;omega) (.slice nA ((pick c.ports (o.take j)).length+1) nc))
        have ob:=NQj.out.out.below hE.1 (by have:=NQj.out.g;omega)
        have qc:=ob.cell 4
        have fc:=ob.frozen 4
        have lc:=ob.lt
        simp at qc
        have e1:ρ (.tmp 117)= .slice nA ((pick c.ports (o.take j)).length+1) nc:=(r2 11 (by decide)).trans hu
        have e2:ρ (.tmp 118)= .pointer (some ⟨w.heap.size+1+1,4,none⟩):=(r2 12 (by decide)).trans (hcs 12 (by decide) (by decide) (by decide))
        refine ⟨U.setCell ⟨w.heap.size+1+1,4,none⟩ (.slice nA ((pick c.ports (o.take j)).length+1) nc),by simp only [execOp];go_simp, ?_⟩
        simp only [mkAt,List.take_succ_cons,List.take_zero,List.drop_succ_cons,List.drop_zero,List.range,List.range.loop,List.map_cons,List.map_nil,List.cons_append,List.nil_append]
        clear qc fc lc hq hof hc ob e1 e2
        go_wp2
        go_roundw
        case rel=>exact ⟨j+1,_,by omega,by go_num,HNN,HOJ3⟩
        case measure=>simp [intOf];omega
      ·obtain rfl:j=c.ports.length:=by omega
       have HNX:=Lib.hid (show NQ w W2 wr c.frame v1 v2 v3 vv v5 (normK keyPar c.parts) (normK keyWin c.wins) (normK keyReg c.regs) (normK keyPrt c.ports) X by
        have h:=NQj.out
        rw [List.take_of_length_le (by rw [HOL.out];exact Nat.le_refl _),pick_norm (l:=c.ports) (key:=keyPrt) (fun _ _=>keyPrt_inj) HO.out] at h
        exact h)
       have HNY:=Lib.hid (show NQ w W2 wr c.frame v1 v2 v3 vv v5 (stg 1 5 (normK keyPar c.parts)) (stg 2 5 (normK keyWin c.wins)) (stg 3 5 (normK keyReg c.regs)) (stg 4 5 (normK keyPrt c.ports)) X by
        rw [stg_lt (s:=1) (k:=5) (by decide),stg_lt (s:=2) (k:=5) (by decide),stg_lt (s:=3) (k:=5) (by decide),stg_lt (s:=4) (k:=5) (by decide)]
        exact HNX.out)
       have HXN:=Lib.hid (show X.map (·.x)=stg 5 5 (normK keyChn c.srt.chans)∧ ∀e ∈ X,e ∈ L from ⟨by rw [HXE.out,stg_ge (by decide)],HXK.out.2⟩)
       go_wp2
       go_roundw
       case rel=>exact ⟨5,v1,v2,v3,vv,v5,X,by omega,by omega,by go_num,HNY,HXN⟩
       case measure=>simp [intOf]
    ·have NQ0:=HNQ.out
     rw [stg_lt (s:=1) (k:=5) (by decide),stg_lt (s:=2) (k:=5) (by decide),stg_lt (s:=3) (k:=5) (by decide),stg_lt (s:=4) (k:=5) (by decide)] at NQ0
     have NQk:=Lib.hid NQ0
     have hXk:=HXK.out.1
     rw [stg_ge (by decide)] at hXk
     have bxk:=NQ0.box HN2.out
     have x0:=bxk.cell 0
     have x1:=bxk.cell 1
     have x2:=bxk.cell 2
     have x3:=bxk.cell 3
     have x4:=bxk.cell 4
     have x5:=bxk.cell 5
     simp at x0 x1 x2 x3 x4 x5
     have hgl:=bxk.lt
     have HCk:=Lib.hid (NQ0.cfg HN2.out HR.out)
     have HXE:=Lib.hid hXk
     clear NQ0 hXk bxk
     go_wp2_with fail
     refine (rKeysS_ok c A1 A2 A3 A4 B5 c1 c2 c3 c4 d5 wr HCk.out HOK.out HSM.out 5 (by decide) (by decide)).mono ?_
     rintro e w3 ⟨KA,n,kd,rfl,hn,hK,hb3⟩
     have HK:=Lib.hid hK
     have HB3:=Lib.hid hb3
     have HN:=Lib.hid hn
     clear x0 x1 x2 x3 x4 x5 hgl hn hK hb3
     go_wp2_with fail
     refine (rOrder_n (keysOf c.srt 5) n HN.out KA kd w3 (keys_len (Cfg.srt_small HSM.out) 5).1 (keys_len (Cfg.srt_small HSM.out) 5).2 HK.out).mono ?_
     rintro e w4 ⟨oA,o,oc,rfl,ho,hown,hb4⟩
     obtain rfl:n=c.chans.length:=by rw [HN.out];simp [keysOf,Cfg.srt]
     have HO:=Lib.hid ho
     have HOL:=Lib.hid ho.len
     have NQ4:=Lib.hid (NQk.out.up (Below.then_ HB3.out hb4))
     have HOW:=Lib.hid (own_lessC hown (show W2.heap.size≤w3.heap.size from Nat.le_trans NQk.out.sz HB3.out.size))
     clear ho hown hb4
     go_wp2
     go_loopw [8] (fun i wr=> ∃(j:Nat) (v:Value),j≤c.chans.length∧i= .int .i64 j∧Hid (NQ w W2 wr c.frame v1 v2 v3 v4 v (normK keyPar c.parts) (normK keyWin c.wins) (normK keyReg c.regs) (normK keyPrt c.ports) (pick L (o.take j)))∧Hid (wr.ownsRow W2.heap.size 3 1 (.slice oA c.chans.length oc) c.chans.length (o.map iV))) (fun i _=>c.chans.length -(intOf i).toNat)
     case atStart=>exact ⟨0,v5,Nat.zero_le _,rfl,Lib.hid (by rw [pick_zero];have h:=NQ4.out;rw [List.map_eq_nil_iff.1 HXE.out] at h;exact h),HOW⟩
     case round=>
      obtain ⟨j,vv,hj,rfl,NQj,HOJ⟩:=hrel
      by_cases hlt:j <c.chans.length
      ·obtain ⟨i,hi⟩:=get_lt (l:=o) (k:=j) (by rw [HOL.out];exact hlt)
       have hin:=HO.out.lt (List.mem_of_getElem? hi)
       have HOI:=Lib.hid hi
       have hLL:L.length=c.chans.length:=by have h:=congrArg List.length HN2.out.lx;simpa [Cfg.srt] using h
       obtain ⟨x,hx⟩:=get_lt (l:=L) (k:=i) (by rw [hLL];exact hin)
       have HX:=Lib.hid hx
       have hrw:=(own_slice HN2.out.own).2
       rw [←hLL] at hrw
       obtain ⟨b,oo,rfl,hb2,g0,g1,g2⟩:=ce_at hrw hx
       have hb3:b≠w.heap.size+1+1:=by have h:=own_low HN2.out.own;omega
       have hb:w.heap.size+1+1 <b:=by have h:=own_low HN2.out.own;omega
       have hcw: ∀U:World,(∀t,t <W2.heap.size→t≠w.heap.size+1+1→U.heap[t]? =wr.heap[t]?)→ ∀t,U.cell? ⟨b,t,none⟩=W2.cell? ⟨b,t,none⟩:=fun U hU t=>(cell_same (hU b hb2 hb3) t).trans (cell_same (NQj.out.kp b hb2 hb3) t)
       clear hrw
       obtain ⟨bo,o2,rfl,hbo,_⟩:=(own_slice HOJ.out).2.2 (by omega)
       have bxj:=Lib.hid (NQj.out.box HN2.out)
       have y5:=bxj.out.cell 5
       simp at y5
       have hwg:=NQj.out.g
       have KEEP: ∀U:World,(∀t,t <W2.heap.size→t≠w.heap.size+1+1→U.heap[t]? =wr.heap[t]?)→U.ownsRow W2.heap.size 3 1 (.slice (some ⟨bo,o2,none⟩) c.chans.length oc) c.chans.length (o.map iV)→(fun U=>U.cell? ⟨w.heap.size,5,none⟩=some (.slice (some ⟨b,oo,none⟩) c.chans.length d5)∧U.cell? ⟨bo,o2+j,none⟩=some (.int .i64 i)∧U.cell? ⟨b,oo+i*3,none⟩=some (.int .u16 x.x.id)∧U.cell? ⟨b,oo+i*3+1,none⟩=some (.int .u16 x.x.source)∧U.cell? ⟨b,oo+i*3+2,none⟩=some (.slice x.A x.x.dests.length x.c)) U:=fun U hU hO=>
        ⟨(cell_same (hU w.heap.size (by omega) (by omega)) 5).trans y5,nat_at (by have h:=(own_slice hO).2;rw [←HOL.out] at h;exact h) HOI.out,(hcw U hU _).trans g0,(hcw U hU _).trans g1,(hcw U hU _).trans g2⟩
       have HSU:=Lib.hid KEEP
       have HSV:=Lib.hid (show ∀U,Below wr.heap.size wr U→(fun U=>U.cell? ⟨w.heap.size,5,none⟩=some (.slice (some ⟨b,oo,none⟩) c.chans.length d5)∧U.cell? ⟨bo,o2+j,none⟩=some (.int .i64 i)∧U.cell? ⟨b,oo+i*3,none⟩=some (.int .u16 x.x.id)∧U.cell? ⟨b,oo+i*3+1,none⟩=some (.int .u16 x.x.source)∧U.cell? ⟨b,oo+i*3+2,none⟩=some (.slice x.A x.x.dests.length x.c)) U from fun U hU=>HSU.out U (fun t h1 _=>hU.block t (Nat.lt_of_lt_of_le h1 NQj.out.sz)) (own_below HOJ.out hU))
       obtain ⟨z0,z1,z2,z3,z4⟩:=HSV.out wr (Below.refl _ _)
       have hpl:(pick L (o.take j)).length=j:=by
        rw [pick_len (fun t ht=>by rw [hLL];exact HO.out.lt (List.mem_of_mem_take ht))]
        rw [List.length_take,HOL.out];omega
       have HPL:=Lib.hid hpl
       obtain ⟨vA,vc,rfl,_⟩:=own_form NQj.out.o5
       have q1:=NQj.out.out.cell 5
       simp at q1
       have hbl:w.heap.size+1+1 <wr.heap.size:=NQj.out.out.lt
       have hbw:b <wr.heap.size:=Nat.lt_of_lt_of_le hb2 NQj.out.sz
       have hwz0:w.heap.size <wr.heap.size:=by omega
       have n0:(0:Int)≤(i:Int):=by omega
       have n1:(i:Int) <(c.chans.length:Int):=by omega
       have j0:(0:Int)≤(j:Int):=by omega
       have j1:(j:Int) <(c.chans.length:Int):=by omega
       have HBW:=Lib.hid (Below.refl wr.heap.size wr)
       have HB2:=Lib.hid hb2
       have HBB3:=Lib.hid hb3
       have HHB:=Lib.hid hb
       clear KEEP hcw y5 g0 g1 g2 hx hi hin hpl hb2 hb3 hb hwg
       go_upto_region 25 with (fail)
       refine wp_region_B 121 13 10 11 _ rfl rfl (by kernel_rfl) (by kernel_rfl) (by kernel_rfl) (by kernel_rfl) (by kernel_rfl) (Nat.le_of_ble_eq_true (by kernel_rfl)) (by decide) (by decide) (by decide) rfl
        [.pointer (some ⟨w.heap.size+1+1,5,none⟩), .slice vA (pick L (o.take j)).length vc, .pointer (some ⟨w.heap.size,5,none⟩), .slice (some ⟨b,oo,none⟩) c.chans.length d5, .slice (some ⟨bo,o2,none⟩) c.chans.length oc, .int .i64 j, .pointer (some ⟨bo,o2+j,none⟩), .int .i64 i, .pointer (some ⟨b,oo+i*3,none⟩), .agg #[.int .u16 x.x.id, .int .u16 x.x.source, .slice x.A x.x.dests.length x.c],undef,undef, .pointer (some ⟨w.heap.size+1+1,5,none⟩)]
        (fun v U=> ∃g,v= .slice (some ⟨g,0,none⟩) 1 1∧wr.heap.size≤g∧Blk U g 89 #[.int .u16 x.x.id, .int .u16 x.x.source, .slice x.A x.x.dests.length x.c])
        (fun v U=> ∃nA nc,v= .slice nA ((pick L (o.take j)).length+1) nc∧U.ownsRow W2.heap.size 89 3 v ((pick L (o.take j)).length+1) ((pick L (o.take j)).flatMap CE.cells++ [.int .u16 x.x.id, .int .u16 x.x.source, .slice x.A x.x.dests.length x.c])∧ ∃W1,Below wr.heap.size wr W1∧Off 89 W1 U)
        (fun U=>Below W2.heap.size wr U∧U.ownsRow W2.heap.size 3 1 (.slice (some ⟨bo,o2,none⟩) c.chans.length oc) c.chans.length (o.map iV))
        (fun U=>Below wr.heap.size wr U)
        (fun U U'=>U.grownBy U' (Value.slice vA (pick L (o.take j)).length vc).ownBlock)
        ((Below.refl _ _).drew) (fun U hU=>⟨hU.mono NQj.out.sz,own_below HOJ.out hU⟩)
        (fun v U U' ⟨g,h1,h2,h3⟩ hb=>⟨g,h1,h2,h3.below hb h3.lt⟩)
        (fun v U U' ⟨nA,nc,h1,h2,W1,h3,h4⟩ hb=>⟨nA,nc,h1,own_below h2 hb,W1,h3,off_below h4 hb⟩)
        (fun v U U' hU ⟨g,h1,h2,h3⟩ hg=>⟨g,h1,h2,(hg.block g h3.lt (fun e=>by have h5:=NQj.out.o5.lt g e.symm;omega)).trans h3⟩)
        ?hpure ?hlit ?happ (fun o ho=>by cases ho;exact ⟨{on:=10,ground:= .data},by simp,rfl,rfl⟩) ?hend
       case hpure=>
        intro q o ho hq1 hq2 hq3 U hE ρ r0 r1 r2
        obtain ⟨t0,t1,t2,t3,t4⟩:=HSU.out U (fun t h1 _=>hE.1.block t h1) hE.2
        have tq:=(NQj.out.out.below hE.1 (by have:=NQj.out.g;omega)).cell 5
        simp at tq
        match q,ho with
        |0,ho=>
         cases ho
         have e:=(r1 3 (by decide))
         simp only [execOp,List.getD_cons_zero]
         go_simp
        |1,ho=>
         cases ho
         have e:ρ (.tmp 121)= .pointer (some ⟨w.heap.size+1+1,5,none⟩):=r2 {on:=0,ground:= .data} (by simp) rfl (by decide) (by decide)
         simp only [execOp,List.getD_cons_succ,List.getD_cons_zero]
         go_simp
        |2,ho=>
         cases ho
         have e:=(r1 1 (by decide))
         simp only [execOp,List.getD_cons_succ,List.getD_cons_zero]
         go_simp
        |3,ho=>
         cases ho
         have e:ρ (.tmp 123)= .pointer (some ⟨w.heap.size,5,none⟩):=r2 {on:=2,ground:= .data} (by simp) rfl (by decide) (by decide)
         simp only [execOp,List.getD_cons_succ,List.getD_cons_zero]
         go_simp
        |4,ho=>
         cases ho
         have e:=(r1 7 (by decide))
         simp only [execOp,List.getD_cons_succ,List.getD_cons_zero]
         go_simp
        |5,ho=>
         cases ho
         have e:=(r1 8 (by decide))
         simp only [execOp,List.getD_cons_succ,List.getD_cons_zero]
         go_simp
        |6,ho=>
         cases ho
         have e:ρ (.tmp 125)= .slice (some ⟨bo,o2,none⟩) c.chans.length oc:=r2 {on:=4,ground:= .data} (by simp) rfl (by decide) (by decide)
         have e2:ρ (.tmp 126)= .int .i64 j:=r2 {on:=5,ground:= .data} (by simp) rfl (by decide) (by decide)
         simp only [execOp,List.getD_cons_succ,List.getD_cons_zero]
         go_simp
        |7,ho=>
         cases ho
         have e:ρ (.tmp 127)= .pointer (some ⟨bo,o2+j,none⟩):=r2 {on:=6,ground:= .data} (by simp) rfl (by decide) (by decide)
         simp only [execOp,List.getD_cons_succ,List.getD_cons_zero]
         go_simp
        |8,ho=>
         cases ho
         have e:ρ (.tmp 124)= .slice (some ⟨b,oo,none⟩) c.chans.length d5:=r2 {on:=3,ground:= .data} (by simp) rfl (by decide) (by decide)
         have e2:ρ (.tmp 128)= .int .i64 i:=r2 {on:=7,ground:= .data} (by simp) rfl (by decide) (by decide)
         simp only [execOp,List.getD_cons_succ,List.getD_cons_zero]
         go_simp
        |9,ho=>
         cases ho
         have e:ρ (.tmp 129)= .pointer (some ⟨b,oo+i*3,none⟩):=r2 {on:=8,ground:= .data} (by simp) rfl (by decide) (by decide)
         simp only [execOp,List.getD_cons_succ,List.getD_cons_zero]
         go_simp
        |12,ho=>
         cases ho
         have e:=(r1 3 (by decide))
         simp only [execOp,List.getD_cons_succ,List.getD_cons_zero]
         go_simp
        |10,_=>exact absurd rfl hq2
        |11,_=>exact absurd rfl hq3
        |t+13,ho=>exact absurd hq1 (Nat.not_lt.2 (Nat.le_add_left 13 t))
       case hlit=>
        intro o ho U hE ρ r0 r2
        cases ho
        have e:ρ (.tmp 130)= .agg #[.int .u16 x.x.id, .int .u16 x.x.source, .slice x.A x.x.dests.length x.c]:=r2 {on:=9,ground:= .data} (by simp) rfl (by decide)
        have hUs:wr.heap.size≤U.heap.size:=hE.1.size
        refine ⟨.slice (some ⟨U.heap.size,0,none⟩) 1 1,U.alloc (.cells #[.int .u16 x.x.id, .int .u16 x.x.source, .slice x.A x.x.dests.length x.c] 89), ?_,⟨hE.1.alloc (Nat.le_trans NQj.out.sz hUs) _,own_below hE.2 (below_one _ _)⟩,fun hS=>hS.alloc hUs _,below_one _ _,U.heap.size,rfl,hUs,Blk.new _ _ _⟩
        simp only [execOp]
        go_simp
       case happ=>
        intro o ho U v hE ⟨g,hv,hg,hbk⟩ ρ r1 r2
        cases ho
        subst hv
        have e:ρ (.tmp 122)= .slice vA (pick L (o.take j)).length vc:=r2 {on:=1,ground:= .data} (by simp) rfl (by decide)
        have r3:ρ (.tmp 131)= .slice (some ⟨g,0,none⟩) 1 1:=r1
        have hown:=own_below NQj.out.o5 hE
        obtain ⟨v',w',hrun,h2,h3⟩:=run_append_rd (P:=Tryz.prog) U W2.heap.size 27 27 89 ic (.agg #[.int .u16 0, .int .u16 0, .slice none 0 0]) 3 32 Tryz.underlying27 hic hc0 hc1 hc2 rfl (by decide) _ (pick L (o.take j)).length _ hown U.heap.size (some ⟨g,0,none⟩) 1 1 [.int .u16 x.x.id, .int .u16 x.x.source, .slice x.A x.x.dests.length x.c] (blk_rd hbk rfl) (by intro u hu;simp at hu;rcases hu with rfl |rfl |rfl<;>rfl) (by rw [HPL.out];unfold maxLen;omega) (by rw [HPL.out];omega) (Nat.le_trans NQj.out.sz hE.size)
        have hof:=Off.of_own hown h3
        obtain ⟨nA,nc,rfl,_⟩:=own_form h2
        refine ⟨_,w', ?_,⟨below_own (hE.mono NQj.out.sz) h3 hown (Nat.le_trans NQj.out.sz hE.size),own_off (own_below HOJ.out hE) hof (by decide)⟩,h3,nA,nc,rfl,h2,U,hE,hof⟩
        simp only [List.getElem_toArray,List.getElem_cons_succ,List.getElem_cons_zero,execOp,resolve,invoke,builtin,Sem.run_bind,Sem.run_pure,Result.andThen_ok,List.map_toArray,List.map_cons,List.map_nil,e,r3,hrun]
       case hend=>
        intro u U hE ⟨nA,nc,hu,hq,W1,hc,hof⟩ hcs ρ r0 r1 r2
        have HNN:=Lib.hid (NQ.app5 (X':=pick L (o.take (j+1))) (v':= .slice nA ((pick L (o.take j)).length+1) nc) NQj.out hc hE.1 hof (by rw [←hu,pick_take HOI.out HX.out,List.length_append,List.flatMap_append];exact hq))
        have HOJ3:=Lib.hid (own_set hE.2 (p:=⟨w.heap.size+1+1,5,none⟩) (by show w.heap.size+1+1 <_;have:=NQj.out.g;omega) (.slice nA ((pick L (o.take j)).length+1) nc))
        have ob:=NQj.out.out.below hE.1 (by have:=NQj.out.g;omega)
        have qc:=ob.cell 5
        have fc:=ob.frozen 5
        have lc:=ob.lt
        simp at qc
        have e1:ρ (.tmp 132)= .slice nA ((pick L (o.take j)).length+1) nc:=(r2 11 (by decide)).trans hu
        have e2:ρ (.tmp 133)= .pointer (some ⟨w.heap.size+1+1,5,none⟩):=(r2 12 (by decide)).trans (hcs 12 (by decide) (by decide) (by decide))
        refine ⟨U.setCell ⟨w.heap.size+1+1,5,none⟩ (.slice nA ((pick L (o.take j)).length+1) nc),by simp only [execOp];go_simp, ?_⟩
        simp only [mkAt,List.take_succ_cons,List.take_zero,List.drop_succ_cons,List.drop_zero,List.range,List.range.loop,List.map_cons,List.map_nil,List.cons_append,List.nil_append]
        clear qc fc lc hq hof hc ob e1 e2
        go_wp2
        go_roundw
        case rel=>exact ⟨j+1,_,by omega,by go_num,HNN,HOJ3⟩
        case measure=>simp [intOf];omega
      ·obtain rfl:j=c.chans.length:=by omega
       have HXM:=Lib.hid (show (pick L o).map (·.x)=normK keyChn c.srt.chans by
        rw [pick_map,HN2.out.lx]
        have hlc:c.srt.chans.length=c.chans.length:=by unfold Cfg.srt;simp
        have h:=HO.out
        rw [←hlc] at h
        exact pick_norm (l:=c.srt.chans) (key:=keyChn) (fun _ _=>keyChn_inj) h)
       have HNY:=Lib.hid (show NQ w W2 wr c.frame v1 v2 v3 v4 vv (stg 1 6 (normK keyPar c.parts)) (stg 2 6 (normK keyWin c.wins)) (stg 3 6 (normK keyReg c.regs)) (stg 4 6 (normK keyPrt c.ports)) (pick L o) by
        rw [stg_lt (s:=1) (k:=6) (by decide),stg_lt (s:=2) (k:=6) (by decide),stg_lt (s:=3) (k:=6) (by decide),stg_lt (s:=4) (k:=6) (by decide)]
        have h:=NQj.out
        rw [List.take_of_length_le (by rw [HOL.out];exact Nat.le_refl _)] at h
        exact h)
       have HXN:=Lib.hid (show (pick L o).map (·.x)=stg 5 6 (normK keyChn c.srt.chans)∧ ∀e ∈ pick L o,e ∈ L from ⟨by rw [HXM.out,stg_lt (by decide)],fun e he=>pick_mem he⟩)
       go_wp2
       go_roundw
       case rel=>exact ⟨6,v1,v2,v3,v4,vv,_,by omega,by omega,by go_num,HNY,HXN⟩
       case measure=>simp [intOf]
    ·have NQ0:=HNQ.out
     rw [stg_lt (s:=1) (k:=6) (by decide),stg_lt (s:=2) (k:=6) (by decide),stg_lt (s:=3) (k:=6) (by decide),stg_lt (s:=4) (k:=6) (by decide)] at NQ0
     have hXk:=HXK.out.1
     rw [stg_lt (by decide)] at hXk
     have hXL:X.length=c.norm.chans.length:=by
      have h:=congrArg List.length hXk
      rw [List.length_map] at h
      exact h
     obtain ⟨B1,e1,rfl,_⟩:=own_form NQ0.o1
     obtain ⟨B2,e2,rfl,_⟩:=own_form NQ0.o2
     obtain ⟨B3,e3,rfl,_⟩:=own_form NQ0.o3
     obtain ⟨B4,e4,rfl,_⟩:=own_form NQ0.o4
     obtain ⟨C5,e5,rfl,_⟩:=own_form NQ0.o5
     rw [hXL] at NQ0
     have NQ6:=Lib.hid (show NQ w W2 wr c.norm.frame (.slice B1 c.norm.parts.length e1) (.slice B2 c.norm.wins.length e2) (.slice B3 c.norm.regs.length e3) (.slice B4 c.norm.ports.length e4) (.slice C5 c.norm.chans.length e5) c.norm.parts c.norm.wins c.norm.regs c.norm.ports X from NQ0)
     have HXL:=Lib.hid hXk
     clear NQ0 hXk hXL HNQ
     have HF:=Lib.hid (fun (V:World) (hk: ∀g,g≠w.heap.size+1→V.heap[g]? =wr.heap[g]?)=>NQ.fin NQ6.out HN2.out (show X.map (·.x)=c.norm.chans from HXL.out) HXK.out.2 hk)
     have HBN:=Lib.hid NQ6.out.bel
     have HRS:=Lib.hid (NQ6.out.res HN2.out)
     have q0:=NQ6.out.out.cell 0
     have q1:=NQ6.out.out.cell 1
     have q2:=NQ6.out.out.cell 2
     have q3:=NQ6.out.out.cell 3
     have q4:=NQ6.out.out.cell 4
     have q5:=NQ6.out.out.cell 5
     simp at q0 q1 q2 q3 q4 q5
     have hgl:=NQ6.out.out.lt
     have r0:=HRS.out.cell 0
     have r1:=HRS.out.cell 1
     have r2:=HRS.out.cell 2
     have r3:=HRS.out.cell 3
     have r4:=HRS.out.cell 4
     have r5:=HRS.out.cell 5
     simp at r0 r1 r2 r3 r4 r5
     have hfr:=HRS.out.frozen
     have hrl:=HRS.out.lt
     go_wp2
     refine bodyPost_ret (v:=cfgV c.norm.frame B1 B2 B3 B4 C5 c.norm.parts.length c.norm.wins.length c.norm.regs.length c.norm.ports.length c.norm.chans.length e1 e2 e3 e4 e5) (by simp [results,Tryz.results52,go_sem,r0,r1,r2,r3,r4,r5]) rfl ?_
     refine ⟨_,_,_,_,_,_,_,_,_,_,rfl, ?_, ?_⟩
     ·exact HF.out _ fun j hj=>(Below.heap_setCell _ _ _ j hj).trans ((Below.heap_setCell _ _ _ j hj).trans ((Below.heap_setCell _ _ _ j hj).trans ((Below.heap_setCell _ _ _ j hj).trans ((Below.heap_setCell _ _ _ j hj).trans (Below.heap_setCell _ _ _ j hj)))))
     ·exact (((((HBN.out.setCell (Nat.le_succ _) _).setCell (Nat.le_succ _) _).setCell (Nat.le_succ _) _).setCell (Nat.le_succ _) _).setCell (Nat.le_succ _) _).setCell (Nat.le_succ _) _
end Go.Proofs.YtcfoolooemhbeaaGreat
