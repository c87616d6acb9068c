/-
  slices.Values, AppendSeq and Collect at api.Partition, walked: a row of the call's own with the same records.
-/
import Derived.Test.YteelncofiodflaaGreatSkZ
namespace Go.Proofs.YteelncofiodflaaGreat
open Go.RowKit Go.Maps Go.Shelf
set_option maxRecDepth 100000 in
set_option maxHeartbeats 2000000 in
theorem valsPar_in (F:Fence) (n:Nat) (h10:F.fn 149) (hro:F.round=none) (hn:1≤n) (Bm:Nat) (xs:List Par) (A:Option Addr) (c:Nat) (w:World) (hl:xs.length≤4194304) (hBm:Bm <w.heap.size) (hm:w.cell? ⟨Bm,0,none⟩=some (.slice A xs.length c)) (hR:Rd w w.heap.size 4 A xs.length (xs.flatMap Par.cells)):
  SeqB F n Tryz.prog 149 #[.pointer (some ⟨Bm,0,none⟩)] (fun x:Par=>Value.agg #[.int .u16 x.id, .string x.name, .int .u64 x.period, .int .u64 x.duration]) xs w:=fun l J W hW hJ hJB hY h0=>by
 have hm':=(hW.cell (p:=⟨Bm,0,none⟩) hBm).trans hm
 refine callsIn_of_wp Tryz.func149 rfl h10 ?_ hro
 simp only [Tryz.ntmps149,List.size_toArray,List.length_cons,List.length_nil,Nat.reduceAdd,Nat.reduceSub,Array.replicate_succ,Array.replicate_zero,List.push_toArray,List.append_toArray,List.nil_append,List.cons_append]
 gi_wp2
 gi_loopw [7] (fun i wr=> ∃k:Nat,k≤xs.length∧i= .int .i64 k∧J (xs.take k) wr∧Below W.heap.size W W) (fun i _=>xs.length -(intOf i).toNat)
 case atStart=>exact ⟨0,Nat.zero_le _,rfl,by simpa using h0,Below.refl _ _⟩
 case round=>
  obtain ⟨k,hk,rfl,hJs,_⟩:=hrel
  by_cases hlt:k <xs.length
  ·obtain ⟨x,hx⟩:=get_lt hlt
   obtain ⟨b,o,rfl,hb,g0,g1,g2,g3⟩:=par_at (hR.below (hJB _ _ hJs)) hx
   have k0:(0:Int)≤(k:Int):=by omega
   have k1:(k:Int) <(xs.length:Int):=by omega
   have HX:=Lib.hid (take_next hx)
   have hW1:J (xs.take k) (wr.alloc (.cells #[.int .u16 x.id, .string x.name, .int .u64 x.period, .int .u64 x.duration] 49)):=hJ _ wr _ none hJs (gB_alloc _ _) (fun r e=>by cases e)
   have hlk:(xs.take k).length <xs.length:=by rw [List.length_take];omega
   obtain ⟨fn,tmps,assign,body,hy,hRd⟩:=hY (xs.take k) x _ hW1 hlk
   clear hx hlk
   gi_wp2
   refine hRd.mono ?_
   rintro e W3 ⟨rfl,hJ3,hk3⟩
   gi_wp2
   go_roundw
   case rel=>exact ⟨k+1,by omega,by first |rfl |go_num |simp,by rw [HX.out];exact hJ3,Below.refl _ _⟩
   case measure=>simp [intOf];omega
  ·obtain rfl:k=xs.length:=by omega
   rw [List.take_length] at hJs
   gi_wp2
   go_end0
   exact ⟨⟨_,rfl⟩,hJs⟩
def apParAssign : Code := (Code.region 2 #[{ dst := some 5, op := Op.alloc 49, type := 0, pos := "iter.go:51", after := #[], guard := none }, { dst := none, op := Op.store 49 (Operand.tmp 5) (Operand.tmp 7), type := 0, pos := "iter.go:51", after := #[{ on := 0, ground := Ground.data }, { on := 0, ground := Ground.phase }], guard := none }] false)
def apParBody : Code := (Code.block 1 (Code.region 3 #[{ dst := some 8, op := Op.load 23 (Operand.tmp 2), type := 23, pos := "iter.go:52", after := #[], guard := none }, { dst := some 9, op := Op.load 49 (Operand.tmp 5), type := 49, pos := "iter.go:52", after := #[], guard := none }, { dst := some 10, op := Op.buildSlice 23 1 #[(0, Operand.tmp 9)], type := 23, pos := "iter.go:52", after := #[{ on := 1, ground := Ground.data }], guard := none }, { dst := some 11, op := Op.call { callee := Callee.builtin Builtin.append, args := #[Operand.tmp 8, Operand.tmp 10], argTypes := #[23, 23] }, type := 23, pos := "iter.go:52", after := #[{ on := 0, ground := Ground.data }, { on := 2, ground := Ground.data }], guard := none }, { dst := none, op := Op.store 23 (Operand.tmp 2) (Operand.tmp 11), type := 0, pos := "iter.go:52", after := #[{ on := 3, ground := Ground.data }, { on := 3, ground := Ground.chain }, { on := 0, ground := Ground.phase }, { on := 1, ground := Ground.phase }, { on := 2, ground := Ground.phase }, { on := 3, ground := Ground.phase }], guard := none }] false))
def apParRec (fn:FuncId) (sv:Value) (Bs D:Nat) (st:LoopState) (pend:Option Code):Loop:=
 {state:=st,pending:=pend,fn,tmps:= #[.slice none 0 0,sv, .pointer (some ⟨Bs,0,none⟩),undef, .slice none 0 0,undef,sv,undef,undef,undef,undef,undef,undef],params:= #[7],assign:=apParAssign,body:=apParBody,defers:=D}
structure ApPar (w0:World) (fn:FuncId) (sv:Value) (Bs l D:Nat) (ss:List Par) (W:World):Prop where
 box: ∃v,W.heap[Bs]? =some (.cells #[v] 23 (0,0))∧W.ownsRow w0.heap.size 49 4 v ss.length (ss.flatMap Par.cells)
 L:W.heap[l]? =some (.loop (apParRec fn sv Bs D .ready none))
 K:W.heap[D]? =some (.deferred (some []))
 below:Below w0.heap.size w0 W
theorem apPar_abides (w0:World) (fn:FuncId) (sv:Value) (Bs l D B:Nat) (hB:w0.heap.size≤B):AbidesFrom B (ApPar w0 fn sv Bs l D):=fun s W W' row h hg hrow=>by
 have hrow': ∀r,row=some r→ ∃o:Obj,W.heap[r]? =some o∧o.isWalk=true:=fun r e=>(hrow r e).2
 obtain ⟨v,hv,hr⟩:=h.box
 exact ⟨⟨v,(grownBy_keeps hg hrow' hv rfl).trans hv,oR_abides hr hg hrow'⟩,(grownBy_keeps hg hrow' h.L rfl).trans h.L,(grownBy_keeps hg hrow' h.K rfl).trans h.K,
  h.below.grown hg h.below.size (fun k e=>Nat.le_trans hB (hrow k e).1)⟩
set_option maxRecDepth 100000 in
set_option maxHeartbeats 4000000 in
theorem apPar_yield (F:Fence) (m:Nat) (w0:World) (fn:FuncId) (hfn:F.fn fn) (sv:Value) (Bs l D:Nat) (hBl:Bs≠l) (hDl:D≠l) (hDB:D≠Bs) (h0B:w0.heap.size≤Bs) (h0l:w0.heap.size≤l)
  (N:Nat) (hN:N≤4194304) (ss:List Par) (x:Par) (W:World) (h:ApPar w0 fn sv Bs l D ss W) (hlen:ss.length <N):
  YieldAt F m Tryz.prog l #[.agg #[.int .u16 x.id, .string x.name, .int .u64 x.period, .int .u64 x.duration]] W fun e W'=>e= .returned (.bool true)∧ApPar w0 fn sv Bs l D (ss++ [x]) W'∧KeepsWalks W W':=by
 obtain ⟨i0,hi,hz0,hz1,hz2⟩:=info_parts infoPartition
 obtain ⟨v,hv,hrow⟩:=h.box
 refine ⟨fn,#[.slice none 0 0,sv, .pointer (some ⟨Bs,0,none⟩),undef, .slice none 0 0,undef,sv,(.agg #[.int .u16 x.id, .string x.name, .int .u64 x.period, .int .u64 x.duration]),undef,undef,undef,undef,undef],apParAssign,apParBody,by simpa [apParRec] using run_yield (P:=Tryz.prog) (args:= #[(.agg #[.int .u16 x.id, .string x.name, .int .u64 x.period, .int .u64 x.duration])]) h.L rfl,roundIn_of_wpIn hfn ?_⟩
 obtain ⟨Wa,hWa⟩: ∃Wa,W.alloc (.cells #[.int .u16 x.id, .string x.name, .int .u64 x.period, .int .u64 x.duration] 49)=Wa:=⟨_,rfl⟩
 have hbxa:Blk Wa W.heap.size 49 #[.int .u16 x.id, .string x.name, .int .u64 x.period, .int .u64 x.duration]:=by rw [←hWa];exact Blk.new W 49 #[.int .u16 x.id, .string x.name, .int .u64 x.period, .int .u64 x.duration]
 have old: ∀k,k <W.heap.size→Wa.heap[k]? =W.heap[k]? :=fun k hk=>by rw [←hWa];exact Below.heap_alloc _ _ k hk
 have hva:=(old Bs (Array.getElem?_eq_some_iff.1 hv).1).trans hv
 have hKa:=(old D (Array.getElem?_eq_some_iff.1 h.K).1).trans h.K
 have hLa:=(old l (Array.getElem?_eq_some_iff.1 h.L).1).trans h.L
 have hrowa:Wa.ownsRow w0.heap.size 49 4 v ss.length (ss.flatMap Par.cells):=by rw [←hWa];exact hrow.alloc _
 have hba:Below w0.heap.size w0 Wa:=by rw [←hWa];exact h.below.alloc h.below.size _
 have hka:KeepsWalks W Wa:=by rw [←hWa];exact KeepsWalks.alloc _ _
 have hl:l <Wa.heap.size:=(Array.getElem?_eq_some_iff.1 hLa).1
 have hne:l≠W.heap.size:=by have:=(Array.getElem?_eq_some_iff.1 h.L).1;omega
 have hbr:=run_beginRound (P:=Tryz.prog) hLa rfl
 obtain ⟨W3,hW3⟩: ∃W3,Wa.putObj l (.loop {apParRec fn sv Bs D .ready none with state:= .busy})=W3:=⟨_,rfl⟩
 rw [hW3] at hbr
 have hg3:Wa.grownBy W3 (some l):=by rw [←hW3];exact gB_putObj _ _ _
 have hk3:KeepsWalks W W3:=hka.trans (by rw [←hW3];exact KeepsWalks.putObj _ hLa rfl)
 have hv3:W3.heap[Bs]? =some (.cells #[v] 23 (0,0)):=by rw [←hW3];exact (World.putObj_heap_other hBl).trans hva
 have hK3:W3.heap[D]? =some (.deferred (some [])):=by rw [←hW3];exact (World.putObj_heap_other hDl).trans hKa
 have hL3:W3.heap[l]? =some (.loop {apParRec fn sv Bs D .ready none with state:= .busy}):=by rw [←hW3];exact World.putObj_heap_same hl
 have hrow3:W3.ownsRow w0.heap.size 49 4 v ss.length (ss.flatMap Par.cells):=hrowa.kept hg3 (oR_ne hrowa hLa (fun cur e=>by first |cases e |exact absurd (Obj.cells.inj e).2.1 (by decide)))
 have hb3:Below w0.heap.size w0 W3:=hba.grown hg3 hba.size (fun k e=>by cases e;exact h0l)
 have hbx:Blk W3 W.heap.size 49 #[.int .u16 x.id, .string x.name, .int .u64 x.period, .int .u64 x.duration]:=(hg3.block W.heap.size hbxa.lt (fun e=>hne (by cases e;rfl))).trans hbxa
 clear hW3
 unfold apParAssign
 gi_wp2_with ((rw [Oper.semAt_eq _ _ _ (fun c h=>by cases h)];go_simp;try go_bits))
 clear hv hrow hva hKa hLa hrowa hba hka hl hne hbr hg3 hbxa old hWa
 generalize W.heap.size=bx at hbx ⊢
 have x0:=hbx.cell 0
 have x1:=hbx.cell 1
 have x2:=hbx.cell 2
 have x3:=hbx.cell 3
 simp at x0 x1 x2 x3
 have hbl:=hbx.lt
 obtain ⟨hc2,hf2⟩:=c_of_box hv3
 have hBlt:Bs <W3.heap.size:=(Array.getElem?_eq_some_iff.1 hv3).1
 have hl2:l <W3.heap.size:=(Array.getElem?_eq_some_iff.1 hL3).1
 have hDlt:D <W3.heap.size:=(Array.getElem?_eq_some_iff.1 hK3).1
 have ne_of: ∀ {j:Nat} {o:Obj},W3.heap[j]? =some o→(∀cur,o≠ .cells cur 49 (0,0))→some j≠v.ownBlock:=fun hj hno=>by
  rcases oR_ne hrow3 hj hno with e |e
  ·rw [e];simp
  ·exact fun e'=>e e'.symm
 clear hbx
 unfold apParBody
 gi_wp2_with (first
  |(gi_at_builtin;refine wpListIn_append_own _ rfl _ _ 23 rfl w0.heap.size 49 i0 (.agg #[.int .u16 0, .string .empty, .int .u64 0, .int .u64 0]) 4 40 Tryz.underlying23 hi hz0 hz1 hz2 rfl (by decide) _ _ _ rfl (hrow3.alloc _) ⟨W3.heap.size,0,none⟩ 1 1 [.int .u16 x.id, .string x.name, .int .u64 x.period, .int .u64 x.duration] rfl rfl (World.news_of_block (heap_alloc_new W3 _)) (by simp [Value.oneCell']) (by unfold maxLen;omega) (by omega) (by have:=hb3.size;simp;omega) ?_;intro v' w3 hown' hg3 hnil3
    have hv4:w3.heap[Bs]? =some (.cells #[v] 23 (0,0)):=(hg3.block Bs (by simp;omega) (ne_of hv3 (fun cur e=>by first |cases e |exact absurd (Obj.cells.inj e).2.1 (by decide)))).trans ((Below.heap_alloc _ _ Bs hBlt).trans hv3)
    obtain ⟨hc3,hf3⟩:=c_of_box hv4
    obtain ⟨g',cap',cur',rfl,hbase',hgb',hr1,hr2,hr3,hr4⟩: ∃g' cap' cur',v'= .slice (some ⟨g',0,none⟩) (ss.length+1) cap'∧w0.heap.size≤g'∧w3.heap[g']? =some (.cells cur' 49 (0,0))∧ss.length+1≤cap'∧cap'≤maxLen∧cur'.size=cap'*4∧cur'.toList.take ((ss.length+1)*4)=ss.flatMap Par.cells++ [.int .u16 x.id, .string x.name, .int .u64 x.period, .int .u64 x.duration]:=by
     rcases hown'.2 with ⟨_,h0⟩ |h'
     ·exact absurd h0 (by omega)
     ·exact h'
    go_frame)
  |((rw [Oper.semAt_eq _ _ _ (fun c h=>by cases h)];go_simp;try go_bits)))
 have hg3':(W3.alloc (.cells #[.int .u16 x.id, .string x.name, .int .u64 x.period, .int .u64 x.duration] 49)).grownBy w3 v.ownBlock:=hg3
 have hL4:w3.heap[l]? =some (.loop {apParRec fn sv Bs D .ready none with state:= .busy}):=(hg3'.block l (by simp;omega) (ne_of hL3 (fun cur e=>by first |cases e |exact absurd (Obj.cells.inj e).2.1 (by decide)))).trans ((Below.heap_alloc _ _ l hl2).trans hL3)
 have hK4:w3.heap[D]? =some (.deferred (some [])):=(hg3'.block D (by simp;omega) (ne_of hK3 (fun cur e=>by first |cases e |exact absurd (Obj.cells.inj e).2.1 (by decide)))).trans ((Below.heap_alloc _ _ D hDlt).trans hK3)
 obtain ⟨w4,hw4⟩: ∃w4,w3.setCell ⟨Bs,0,none⟩ (.slice (some ⟨g',0,none⟩) (ss.length+1) cap')=w4:=⟨_,rfl⟩
 rw [hw4]
 have hg4:w3.grownBy w4 (some Bs):=by rw [←hw4];exact gB_setCell0 _ _ _
 have hv5:w4.heap[Bs]? =some (.cells #[.slice (some ⟨g',0,none⟩) (ss.length+1) cap'] 23 (0,0)):=by rw [←hw4];exact h_setCell_box _ hv4
 have hL5:w4.heap[l]? =some (.loop {apParRec fn sv Bs D .ready none with state:= .busy}):=(hg4.block l (Array.getElem?_eq_some_iff.1 hL4).1 (fun e=>hBl (by cases e;rfl))).trans hL4
 have hK5:w4.heap[D]? =some (.deferred (some [])):=(hg4.block D (Array.getElem?_eq_some_iff.1 hK4).1 (fun e=>hDB (by cases e;rfl))).trans hK4
 have hrow5:=hown'.kept hg4 (oR_ne hown' hv4 (fun cur e=>by first |cases e |exact absurd (Obj.cells.inj e).2.1 (by decide)))
 have hl5:l <w4.heap.size:=(Array.getElem?_eq_some_iff.1 hL5).1
 have hb4:Below w0.heap.size w0 w3:=(hb3.alloc hb3.size _).grown hg3' (by have:=hb3.size;simp;omega) (fun k e=>(hrow3.lt k e).1)
 have hb5:Below w0.heap.size w0 w4:=hb4.grown hg4 hb4.size (fun k e=>by cases e;exact h0B)
 have hk5:KeepsWalks W w4:=((hk3.trans (KeepsWalks.alloc _ _)).trans (KeepsWalks.of_grownBy hg3' (oR_not_walk (hrow3.alloc _)))).trans (by rw [←hw4];exact KeepsWalks.setCell _ _ _)
 clear hw4
 refine ⟨_,_,run_endRound none hL5,rfl,⟨⟨_,(World.putObj_heap_other hBl).trans hv5, ?_⟩,World.putObj_heap_same hl5,(World.putObj_heap_other hDl).trans hK5,hb5.grown (gB_putObj _ _ _) hb5.size (fun k e=>by cases e;exact h0l)⟩,hk5.trans (KeepsWalks.putObj _ hL5 rfl)⟩
 have:=hrow5.kept (gB_putObj w4 l (.loop {{apParRec fn sv Bs D .ready none with state:= .busy} with state:=if (none:Option Code).isNone then .ready else .done,pending:=none})) (oR_ne hrow5 hL5 (fun cur e=>by first |cases e |exact absurd (Obj.cells.inj e).2.1 (by decide)))
 rw [List.flatMap_append,List.length_append]
 simpa [Par.cells] using this
set_option maxRecDepth 100000 in
set_option maxHeartbeats 2000000 in
theorem apPar_in (F:Fence) (n:Nat) (h11:F.fn 175) (hro:F.round=none) (hn:2≤n) (g:Nat) (lb:Array Value) (hFg:F.fn g) (eg: ∀args w,(callFunc g args).run Tryz.prog w= .ok (.enter g args) w)
  (xs:List Par) (hN:xs.length≤4194304) (w:World) (hseq:SeqB F (n -1) Tryz.prog g lb (fun x:Par=>Value.agg #[.int .u16 x.id, .string x.name, .int .u64 x.period, .int .u64 x.duration]) xs w):
  CallsIn F n Tryz.prog 175 #[.slice none 0 0, .func (.func g) #[] lb] w fun e w'=> ∃(v:Value),e= .returned v∧w'.ownsRow w.heap.size 49 4 v xs.length (xs.flatMap Par.cells)∧Below w.heap.size w w':=by
 have h1:1≤n:=by omega
 refine callsIn_of_wp_marks Tryz.func175 rfl h11 ?_ hro
 simp only [Tryz.ntmps175,List.size_toArray,List.length_cons,List.length_nil,Nat.reduceAdd,Nat.reduceSub,Array.replicate_succ,Array.replicate_zero,List.push_toArray,List.append_toArray,List.nil_append,List.cons_append]
 gi_wp2
 refine wpIn_rangeFunc ?_
 intro fn hfn
 rw [hro]
 obtain ⟨W0,hW0⟩: ∃W0,w.alloc (.cells #[.slice none 0 0] 23)=W0:=⟨_,rfl⟩
 have hs0:W0.heap.size=w.heap.size+1:=by rw [←hW0];simp
 have hv0:W0.heap[w.heap.size]? =some (.cells #[.slice none 0 0] 23 (0,0)):=by rw [←hW0];exact World.alloc_heap_new w _
 have hb0:Below w.heap.size w W0:=by rw [←hW0];exact (Below.refl _ w).alloc (Nat.le_refl _) _
 rw [hW0]
 obtain ⟨W1,hW1⟩: ∃W1,(W0.alloc (.deferred (some []))).alloc (.loop (apParRec fn (.func (.func g) #[] lb) w.heap.size W0.heap.size .ready none))=W1:=⟨_,rfl⟩
 have hold: ∀k,k <W0.heap.size→W1.heap[k]? =W0.heap[k]? :=fun k hk=>by
  rw [←hW1];exact (Below.heap_alloc _ _ k (by simp;omega)).trans (Below.heap_alloc _ _ k hk)
 have hb1:Below w.heap.size w W1:=by rw [←hW1];exact (hb0.alloc hb0.size _).alloc (by have:=hb0.size;simp;omega) _
 have hs1:W1.heap.size=W0.heap.size+2:=by rw [←hW1];simp
 have hM:ApPar w fn (.func (.func g) #[] lb) w.heap.size (W0.heap.size+1) W0.heap.size [] W1:=
  ⟨⟨_,(hold w.heap.size (by omega)).trans hv0,⟨rfl, .inl ⟨rfl,rfl⟩⟩⟩,
   by rw [←hW1];have:=World.alloc_heap_new (W0.alloc (.deferred (some []))) (.loop (apParRec fn (.func (.func g) #[] lb) w.heap.size W0.heap.size .ready none));rwa [World.size_alloc] at this,
   by rw [←hW1];exact (Below.heap_alloc _ _ _ (by simp)).trans (World.alloc_heap_new W0 _),hb1⟩
 refine ⟨W0.heap.size+1,[{target:= .collected W0.heap.size,args:= #[]}],W1,{target:= .fn (.func g) lb,args:= #[.func (.yield (W0.heap.size+1)) #[] #[]]},W1,g,
  #[.func (.yield (W0.heap.size+1)) #[] #[]]++lb,W1, ?_, ?_, ?_, ?_,fun _=>h1, ?_⟩
 ·rw [←hW1];exact run_enterLoop_outer _ _ _ _ _
 ·simp [resolve,go_sem]
 ·intro f' hf';simp [Target.leads] at hf';subst hf';exact hFg
 ·simp [invoke,go_sem,eg]
 ·refine (hseq (W0.heap.size+1) (ApPar w fn (.func (.func g) #[] lb) w.heap.size (W0.heap.size+1) W0.heap.size) W1 hb1 (apPar_abides _ _ _ _ _ _ _ hb1.size) (fun pre W1 h=>h.below)
   (fun pre x W hJ hl=>apPar_yield F (n -1 -1) w fn hfn _ w.heap.size (W0.heap.size+1) W0.heap.size (by omega) (by omega) (by omega) (Nat.le_refl _) (by omega) xs.length hN pre x W hJ hl) hM).mono ?_
  rintro e W2 ⟨⟨v0,rfl⟩,h2⟩
  obtain ⟨v,hv,hrow⟩:=h2.box
  have hend:=run_endLoop (P:=Tryz.prog) h2.L (by simp [apParRec])
  obtain ⟨W3,hW3⟩: ∃W3,W2.putObj (W0.heap.size+1) (.loop {apParRec fn (.func (.func g) #[] lb) w.heap.size W0.heap.size .ready none with state:= .exhausted})=W3:=⟨_,rfl⟩
  rw [hW3] at hend
  have hg3:W2.grownBy W3 (some (W0.heap.size+1)):=by rw [←hW3];exact gB_putObj _ _ _
  have hv3:W3.heap[w.heap.size]? =some (.cells #[v] 23 (0,0)):=by rw [←hW3];exact (World.putObj_heap_other (by omega)).trans hv
  have hK3:W3.heap[W0.heap.size]? =some (.deferred (some [])):=by rw [←hW3];exact (World.putObj_heap_other (by omega)).trans h2.K
  have hrow3:=hrow.kept hg3 (oR_ne hrow h2.L (fun cur e=>by first |cases e |exact absurd (Obj.cells.inj e).2.1 (by decide)))
  have hb3:Below w.heap.size w W3:=h2.below.grown hg3 h2.below.size (fun k e=>by cases e;omega)
  obtain ⟨hc3,hf3⟩:=c_of_box hv3
  clear hW3
  refine ⟨none,W3,hend, ?_⟩
  gi_wp2
  rw [←hs0]
  refine ⟨by simp, .inl ⟨_,_,rfl,run_takeDeferred hK3, ?_⟩⟩
  exact ⟨_,results_tmp rfl _ _ _,v,rfl,hrow3.kept (gB_putObj _ _ _) (oR_ne hrow3 hK3 (fun cur e=>by first |cases e |exact absurd (Obj.cells.inj e).2.1 (by decide))),hb3.grown (gB_putObj _ _ _) hb3.size (fun k e=>by cases e;omega)⟩
set_option maxRecDepth 100000 in
set_option maxHeartbeats 1000000 in
theorem collPar_in (F:Fence) (n:Nat) (h8:F.fn 147) (h11:F.fn 175) (hro:F.round=none) (hn:3≤n) (g:Nat) (lb:Array Value) (hFg:F.fn g) (eg: ∀args w,(callFunc g args).run Tryz.prog w= .ok (.enter g args) w)
  (xs:List Par) (hN:xs.length≤4194304) (w:World) (hseq:SeqB F (n -1 -1) Tryz.prog g lb (fun x:Par=>Value.agg #[.int .u16 x.id, .string x.name, .int .u64 x.period, .int .u64 x.duration]) xs w):
  CallsIn F n Tryz.prog 147 #[.func (.func g) #[] lb] w fun e w'=> ∃(v:Value),e= .returned v∧w'.ownsRow w.heap.size 49 4 v xs.length (xs.flatMap Par.cells)∧Below w.heap.size w w':=by
 have h1:1≤n:=by omega
 refine callsIn_of_wp Tryz.func147 rfl h8 ?_ hro
 simp only [Tryz.ntmps147,List.size_toArray,List.length_cons,List.length_nil,Nat.reduceAdd,Nat.reduceSub,Array.replicate_succ,Array.replicate_zero,List.push_toArray,List.append_toArray,List.nil_append,List.cons_append]
 gi_wp2_with (gi_at_call 175;refine (apPar_in F (n -1) h11 hro (by omega) g lb hFg eg xs hN _ hseq).mono ?_;rintro e w' ⟨v,rfl,hrow,hb⟩)
 go_ret
 exact ⟨v,rfl,hrow,hb⟩
set_option maxRecDepth 100000 in
set_option maxHeartbeats 1000000 in
theorem valsPar_ok (A:Option Addr) (k c:Nat) (w:World):Calls Tryz.prog 103 #[.slice A k c] w fun e w'=>e= .returned (.func (.func 149) #[] #[.pointer (some ⟨w.heap.size,0,none⟩)])∧w'=w.alloc (.cells #[.slice A k c] 23):=by
 go_enter Tryz.func103,Tryz.ntmps103
 go_wp2
 go_ret
 exact ⟨rfl,rfl⟩
theorem collPar_ok (Bm:Nat) (xs:List Par) (A:Option Addr) (c:Nat) (w:World) (hl:xs.length≤4194304) (hBm:Bm <w.heap.size) (hm:w.cell? ⟨Bm,0,none⟩=some (.slice A xs.length c)) (hR:Rd w w.heap.size 4 A xs.length (xs.flatMap Par.cells)):
  Calls Tryz.prog 147 #[.func (.func 149) #[] #[.pointer (some ⟨Bm,0,none⟩)]] w fun e w'=> ∃(v:Value),e= .returned v∧w'.ownsRow w.heap.size 49 4 v xs.length (xs.flatMap Par.cells)∧Below w.heap.size w w':=by
 have hseq:=valsPar_in Fence.wide 1 trivial rfl (Nat.le_refl _) Bm xs A c w hl hBm hm hR
 exact callsIn_wide.1 (collPar_in Fence.wide 3 trivial trivial rfl (Nat.le_refl _) 149 _ trivial (enters_of Tryz.func149 (by kernel_rfl) rfl) xs hl w hseq)
end Go.Proofs.YteelncofiodflaaGreat
namespace Go.Proofs.YteelncofiodflaaGreat
open Go.RowKit Go.Maps Go.Shelf
set_option maxRecDepth 100000 in
set_option maxHeartbeats 2000000 in
theorem valsWin_in (F:Fence) (n:Nat) (h10:F.fn 155) (hro:F.round=none) (hn:1≤n) (Bm:Nat) (xs:List Win) (A:Option Addr) (c:Nat) (w:World) (hl:xs.length≤4194304) (hBm:Bm <w.heap.size) (hm:w.cell? ⟨Bm,0,none⟩=some (.slice A xs.length c)) (hR:Rd w w.heap.size 3 A xs.length (xs.flatMap Win.cells)):
  SeqB F n Tryz.prog 155 #[.pointer (some ⟨Bm,0,none⟩)] (fun x:Win=>Value.agg #[.int .u64 x.start, .int .u64 x.len, .int .u16 x.part]) xs w:=fun l J W hW hJ hJB hY h0=>by
 have hm':=(hW.cell (p:=⟨Bm,0,none⟩) hBm).trans hm
 refine callsIn_of_wp Tryz.func155 rfl h10 ?_ hro
 simp only [Tryz.ntmps155,List.size_toArray,List.length_cons,List.length_nil,Nat.reduceAdd,Nat.reduceSub,Array.replicate_succ,Array.replicate_zero,List.push_toArray,List.append_toArray,List.nil_append,List.cons_append]
 gi_wp2
 gi_loopw [7] (fun i wr=> ∃k:Nat,k≤xs.length∧i= .int .i64 k∧J (xs.take k) wr∧Below W.heap.size W W) (fun i _=>xs.length -(intOf i).toNat)
 case atStart=>exact ⟨0,Nat.zero_le _,rfl,by simpa using h0,Below.refl _ _⟩
 case round=>
  obtain ⟨k,hk,rfl,hJs,_⟩:=hrel
  by_cases hlt:k <xs.length
  ·obtain ⟨x,hx⟩:=get_lt hlt
   obtain ⟨b,o,rfl,hb,g0,g1,g2⟩:=win_at (hR.below (hJB _ _ hJs)) hx
   have k0:(0:Int)≤(k:Int):=by omega
   have k1:(k:Int) <(xs.length:Int):=by omega
   have HX:=Lib.hid (take_next hx)
   have hW1:J (xs.take k) (wr.alloc (.cells #[.int .u64 x.start, .int .u64 x.len, .int .u16 x.part] 71)):=hJ _ wr _ none hJs (gB_alloc _ _) (fun r e=>by cases e)
   have hlk:(xs.take k).length <xs.length:=by rw [List.length_take];omega
   obtain ⟨fn,tmps,assign,body,hy,hRd⟩:=hY (xs.take k) x _ hW1 hlk
   clear hx hlk
   gi_wp2
   refine hRd.mono ?_
   rintro e W3 ⟨rfl,hJ3,hk3⟩
   gi_wp2
   go_roundw
   case rel=>exact ⟨k+1,by omega,by first |rfl |go_num |simp,by rw [HX.out];exact hJ3,Below.refl _ _⟩
   case measure=>simp [intOf];omega
  ·obtain rfl:k=xs.length:=by omega
   rw [List.take_length] at hJs
   gi_wp2
   go_end0
   exact ⟨⟨_,rfl⟩,hJs⟩
def apWinAssign : Code := (Code.region 2 #[{ dst := some 5, op := Op.alloc 71, type := 0, pos := "iter.go:51", after := #[], guard := none }, { dst := none, op := Op.store 71 (Operand.tmp 5) (Operand.tmp 7), type := 0, pos := "iter.go:51", after := #[{ on := 0, ground := Ground.data }, { on := 0, ground := Ground.phase }], guard := none }] false)
def apWinBody : Code := (Code.block 1 (Code.region 3 #[{ dst := some 8, op := Op.load 24 (Operand.tmp 2), type := 24, pos := "iter.go:52", after := #[], guard := none }, { dst := some 9, op := Op.load 71 (Operand.tmp 5), type := 71, pos := "iter.go:52", after := #[], guard := none }, { dst := some 10, op := Op.buildSlice 24 1 #[(0, Operand.tmp 9)], type := 24, pos := "iter.go:52", after := #[{ on := 1, ground := Ground.data }], guard := none }, { dst := some 11, op := Op.call { callee := Callee.builtin Builtin.append, args := #[Operand.tmp 8, Operand.tmp 10], argTypes := #[24, 24] }, type := 24, pos := "iter.go:52", after := #[{ on := 0, ground := Ground.data }, { on := 2, ground := Ground.data }], guard := none }, { dst := none, op := Op.store 24 (Operand.tmp 2) (Operand.tmp 11), type := 0, pos := "iter.go:52", after := #[{ on := 3, ground := Ground.data }, { on := 3, ground := Ground.chain }, { on := 0, ground := Ground.phase }, { on := 1, ground := Ground.phase }, { on := 2, ground := Ground.phase }, { on := 3, ground := Ground.phase }], guard := none }] false))
def apWinRec (fn:FuncId) (sv:Value) (Bs D:Nat) (st:LoopState) (pend:Option Code):Loop:=
 {state:=st,pending:=pend,fn,tmps:= #[.slice none 0 0,sv, .pointer (some ⟨Bs,0,none⟩),undef, .slice none 0 0,undef,sv,undef,undef,undef,undef,undef,undef],params:= #[7],assign:=apWinAssign,body:=apWinBody,defers:=D}
structure ApWin (w0:World) (fn:FuncId) (sv:Value) (Bs l D:Nat) (ss:List Win) (W:World):Prop where
 box: ∃v,W.heap[Bs]? =some (.cells #[v] 24 (0,0))∧W.ownsRow w0.heap.size 71 3 v ss.length (ss.flatMap Win.cells)
 L:W.heap[l]? =some (.loop (apWinRec fn sv Bs D .ready none))
 K:W.heap[D]? =some (.deferred (some []))
 below:Below w0.heap.size w0 W
theorem apWin_abides (w0:World) (fn:FuncId) (sv:Value) (Bs l D B:Nat) (hB:w0.heap.size≤B):AbidesFrom B (ApWin w0 fn sv Bs l D):=fun s W W' row h hg hrow=>by
 have hrow': ∀r,row=some r→ ∃o:Obj,W.heap[r]? =some o∧o.isWalk=true:=fun r e=>(hrow r e).2
 obtain ⟨v,hv,hr⟩:=h.box
 exact ⟨⟨v,(grownBy_keeps hg hrow' hv rfl).trans hv,oR_abides hr hg hrow'⟩,(grownBy_keeps hg hrow' h.L rfl).trans h.L,(grownBy_keeps hg hrow' h.K rfl).trans h.K,
  h.below.grown hg h.below.size (fun k e=>Nat.le_trans hB (hrow k e).1)⟩
set_option maxRecDepth 100000 in
set_option maxHeartbeats 4000000 in
theorem apWin_yield (F:Fence) (m:Nat) (w0:World) (fn:FuncId) (hfn:F.fn fn) (sv:Value) (Bs l D:Nat) (hBl:Bs≠l) (hDl:D≠l) (hDB:D≠Bs) (h0B:w0.heap.size≤Bs) (h0l:w0.heap.size≤l)
  (N:Nat) (hN:N≤4194304) (ss:List Win) (x:Win) (W:World) (h:ApWin w0 fn sv Bs l D ss W) (hlen:ss.length <N):
  YieldAt F m Tryz.prog l #[.agg #[.int .u64 x.start, .int .u64 x.len, .int .u16 x.part]] W fun e W'=>e= .returned (.bool true)∧ApWin w0 fn sv Bs l D (ss++ [x]) W'∧KeepsWalks W W':=by
 obtain ⟨i0,hi,hz0,hz1,hz2⟩:=info_parts infoWindow
 obtain ⟨v,hv,hrow⟩:=h.box
 refine ⟨fn,#[.slice none 0 0,sv, .pointer (some ⟨Bs,0,none⟩),undef, .slice none 0 0,undef,sv,(.agg #[.int .u64 x.start, .int .u64 x.len, .int .u16 x.part]),undef,undef,undef,undef,undef],apWinAssign,apWinBody,by simpa [apWinRec] using run_yield (P:=Tryz.prog) (args:= #[(.agg #[.int .u64 x.start, .int .u64 x.len, .int .u16 x.part])]) h.L rfl,roundIn_of_wpIn hfn ?_⟩
 obtain ⟨Wa,hWa⟩: ∃Wa,W.alloc (.cells #[.int .u64 x.start, .int .u64 x.len, .int .u16 x.part] 71)=Wa:=⟨_,rfl⟩
 have hbxa:Blk Wa W.heap.size 71 #[.int .u64 x.start, .int .u64 x.len, .int .u16 x.part]:=by rw [←hWa];exact Blk.new W 71 #[.int .u64 x.start, .int .u64 x.len, .int .u16 x.part]
 have old: ∀k,k <W.heap.size→Wa.heap[k]? =W.heap[k]? :=fun k hk=>by rw [←hWa];exact Below.heap_alloc _ _ k hk
 have hva:=(old Bs (Array.getElem?_eq_some_iff.1 hv).1).trans hv
 have hKa:=(old D (Array.getElem?_eq_some_iff.1 h.K).1).trans h.K
 have hLa:=(old l (Array.getElem?_eq_some_iff.1 h.L).1).trans h.L
 have hrowa:Wa.ownsRow w0.heap.size 71 3 v ss.length (ss.flatMap Win.cells):=by rw [←hWa];exact hrow.alloc _
 have hba:Below w0.heap.size w0 Wa:=by rw [←hWa];exact h.below.alloc h.below.size _
 have hka:KeepsWalks W Wa:=by rw [←hWa];exact KeepsWalks.alloc _ _
 have hl:l <Wa.heap.size:=(Array.getElem?_eq_some_iff.1 hLa).1
 have hne:l≠W.heap.size:=by have:=(Array.getElem?_eq_some_iff.1 h.L).1;omega
 have hbr:=run_beginRound (P:=Tryz.prog) hLa rfl
 obtain ⟨W3,hW3⟩: ∃W3,Wa.putObj l (.loop {apWinRec fn sv Bs D .ready none with state:= .busy})=W3:=⟨_,rfl⟩
 rw [hW3] at hbr
 have hg3:Wa.grownBy W3 (some l):=by rw [←hW3];exact gB_putObj _ _ _
 have hk3:KeepsWalks W W3:=hka.trans (by rw [←hW3];exact KeepsWalks.putObj _ hLa rfl)
 have hv3:W3.heap[Bs]? =some (.cells #[v] 24 (0,0)):=by rw [←hW3];exact (World.putObj_heap_other hBl).trans hva
 have hK3:W3.heap[D]? =some (.deferred (some [])):=by rw [←hW3];exact (World.putObj_heap_other hDl).trans hKa
 have hL3:W3.heap[l]? =some (.loop {apWinRec fn sv Bs D .ready none with state:= .busy}):=by rw [←hW3];exact World.putObj_heap_same hl
 have hrow3:W3.ownsRow w0.heap.size 71 3 v ss.length (ss.flatMap Win.cells):=hrowa.kept hg3 (oR_ne hrowa hLa (fun cur e=>by first |cases e |exact absurd (Obj.cells.inj e).2.1 (by decide)))
 have hb3:Below w0.heap.size w0 W3:=hba.grown hg3 hba.size (fun k e=>by cases e;exact h0l)
 have hbx:Blk W3 W.heap.size 71 #[.int .u64 x.start, .int .u64 x.len, .int .u16 x.part]:=(hg3.block W.heap.size hbxa.lt (fun e=>hne (by cases e;rfl))).trans hbxa
 clear hW3
 unfold apWinAssign
 gi_wp2_with ((rw [Oper.semAt_eq _ _ _ (fun c h=>by cases h)];go_simp;try go_bits))
 clear hv hrow hva hKa hLa hrowa hba hka hl hne hbr hg3 hbxa old hWa
 generalize W.heap.size=bx at hbx ⊢
 have x0:=hbx.cell 0
 have x1:=hbx.cell 1
 have x2:=hbx.cell 2
 simp at x0 x1 x2
 have hbl:=hbx.lt
 obtain ⟨hc2,hf2⟩:=c_of_box hv3
 have hBlt:Bs <W3.heap.size:=(Array.getElem?_eq_some_iff.1 hv3).1
 have hl2:l <W3.heap.size:=(Array.getElem?_eq_some_iff.1 hL3).1
 have hDlt:D <W3.heap.size:=(Array.getElem?_eq_some_iff.1 hK3).1
 have ne_of: ∀ {j:Nat} {o:Obj},W3.heap[j]? =some o→(∀cur,o≠ .cells cur 71 (0,0))→some j≠v.ownBlock:=fun hj hno=>by
  rcases oR_ne hrow3 hj hno with e |e
  ·rw [e];simp
  ·exact fun e'=>e e'.symm
 clear hbx
 unfold apWinBody
 gi_wp2_with (first
  |(gi_at_builtin;refine wpListIn_append_own _ rfl _ _ 24 rfl w0.heap.size 71 i0 (.agg #[.int .u64 0, .int .u64 0, .int .u16 0]) 3 24 Tryz.underlying24 hi hz0 hz1 hz2 rfl (by decide) _ _ _ rfl (hrow3.alloc _) ⟨W3.heap.size,0,none⟩ 1 1 [.int .u64 x.start, .int .u64 x.len, .int .u16 x.part] rfl rfl (World.news_of_block (heap_alloc_new W3 _)) (by simp [Value.oneCell']) (by unfold maxLen;omega) (by omega) (by have:=hb3.size;simp;omega) ?_;intro v' w3 hown' hg3 hnil3
    have hv4:w3.heap[Bs]? =some (.cells #[v] 24 (0,0)):=(hg3.block Bs (by simp;omega) (ne_of hv3 (fun cur e=>by first |cases e |exact absurd (Obj.cells.inj e).2.1 (by decide)))).trans ((Below.heap_alloc _ _ Bs hBlt).trans hv3)
    obtain ⟨hc3,hf3⟩:=c_of_box hv4
    obtain ⟨g',cap',cur',rfl,hbase',hgb',hr1,hr2,hr3,hr4⟩: ∃g' cap' cur',v'= .slice (some ⟨g',0,none⟩) (ss.length+1) cap'∧w0.heap.size≤g'∧w3.heap[g']? =some (.cells cur' 71 (0,0))∧ss.length+1≤cap'∧cap'≤maxLen∧cur'.size=cap'*3∧cur'.toList.take ((ss.length+1)*3)=ss.flatMap Win.cells++ [.int .u64 x.start, .int .u64 x.len, .int .u16 x.part]:=by
     rcases hown'.2 with ⟨_,h0⟩ |h'
     ·exact absurd h0 (by omega)
     ·exact h'
    go_frame)
  |((rw [Oper.semAt_eq _ _ _ (fun c h=>by cases h)];go_simp;try go_bits)))
 have hg3':(W3.alloc (.cells #[.int .u64 x.start, .int .u64 x.len, .int .u16 x.part] 71)).grownBy w3 v.ownBlock:=hg3
 have hL4:w3.heap[l]? =some (.loop {apWinRec fn sv Bs D .ready none with state:= .busy}):=(hg3'.block l (by simp;omega) (ne_of hL3 (fun cur e=>by first |cases e |exact absurd (Obj.cells.inj e).2.1 (by decide)))).trans ((Below.heap_alloc _ _ l hl2).trans hL3)
 have hK4:w3.heap[D]? =some (.deferred (some [])):=(hg3'.block D (by simp;omega) (ne_of hK3 (fun cur e=>by first |cases e |exact absurd (Obj.cells.inj e).2.1 (by decide)))).trans ((Below.heap_alloc _ _ D hDlt).trans hK3)
 obtain ⟨w4,hw4⟩: ∃w4,w3.setCell ⟨Bs,0,none⟩ (.slice (some ⟨g',0,none⟩) (ss.length+1) cap')=w4:=⟨_,rfl⟩
 rw [hw4]
 have hg4:w3.grownBy w4 (some Bs):=by rw [←hw4];exact gB_setCell0 _ _ _
 have hv5:w4.heap[Bs]? =some (.cells #[.slice (some ⟨g',0,none⟩) (ss.length+1) cap'] 24 (0,0)):=by rw [←hw4];exact h_setCell_box _ hv4
 have hL5:w4.heap[l]? =some (.loop {apWinRec fn sv Bs D .ready none with state:= .busy}):=(hg4.block l (Array.getElem?_eq_some_iff.1 hL4).1 (fun e=>hBl (by cases e;rfl))).trans hL4
 have hK5:w4.heap[D]? =some (.deferred (some [])):=(hg4.block D (Array.getElem?_eq_some_iff.1 hK4).1 (fun e=>hDB (by cases e;rfl))).trans hK4
 have hrow5:=hown'.kept hg4 (oR_ne hown' hv4 (fun cur e=>by first |cases e |exact absurd (Obj.cells.inj e).2.1 (by decide)))
 have hl5:l <w4.heap.size:=(Array.getElem?_eq_some_iff.1 hL5).1
 have hb4:Below w0.heap.size w0 w3:=(hb3.alloc hb3.size _).grown hg3' (by have:=hb3.size;simp;omega) (fun k e=>(hrow3.lt k e).1)
 have hb5:Below w0.heap.size w0 w4:=hb4.grown hg4 hb4.size (fun k e=>by cases e;exact h0B)
 have hk5:KeepsWalks W w4:=((hk3.trans (KeepsWalks.alloc _ _)).trans (KeepsWalks.of_grownBy hg3' (oR_not_walk (hrow3.alloc _)))).trans (by rw [←hw4];exact KeepsWalks.setCell _ _ _)
 clear hw4
 refine ⟨_,_,run_endRound none hL5,rfl,⟨⟨_,(World.putObj_heap_other hBl).trans hv5, ?_⟩,World.putObj_heap_same hl5,(World.putObj_heap_other hDl).trans hK5,hb5.grown (gB_putObj _ _ _) hb5.size (fun k e=>by cases e;exact h0l)⟩,hk5.trans (KeepsWalks.putObj _ hL5 rfl)⟩
 have:=hrow5.kept (gB_putObj w4 l (.loop {{apWinRec fn sv Bs D .ready none with state:= .busy} with state:=if (none:Option Code).isNone then .ready else .done,pending:=none})) (oR_ne hrow5 hL5 (fun cur e=>by first |cases e |exact absurd (Obj.cells.inj e).2.1 (by decide)))
 rw [List.flatMap_append,List.length_append]
 simpa [Win.cells] using this
set_option maxRecDepth 100000 in
set_option maxHeartbeats 2000000 in
theorem apWin_in (F:Fence) (n:Nat) (h11:F.fn 178) (hro:F.round=none) (hn:2≤n) (g:Nat) (lb:Array Value) (hFg:F.fn g) (eg: ∀args w,(callFunc g args).run Tryz.prog w= .ok (.enter g args) w)
  (xs:List Win) (hN:xs.length≤4194304) (w:World) (hseq:SeqB F (n -1) Tryz.prog g lb (fun x:Win=>Value.agg #[.int .u64 x.start, .int .u64 x.len, .int .u16 x.part]) xs w):
  CallsIn F n Tryz.prog 178 #[.slice none 0 0, .func (.func g) #[] lb] w fun e w'=> ∃(v:Value),e= .returned v∧w'.ownsRow w.heap.size 71 3 v xs.length (xs.flatMap Win.cells)∧Below w.heap.size w w':=by
 have h1:1≤n:=by omega
 refine callsIn_of_wp_marks Tryz.func178 rfl h11 ?_ hro
 simp only [Tryz.ntmps178,List.size_toArray,List.length_cons,List.length_nil,Nat.reduceAdd,Nat.reduceSub,Array.replicate_succ,Array.replicate_zero,List.push_toArray,List.append_toArray,List.nil_append,List.cons_append]
 gi_wp2
 refine wpIn_rangeFunc ?_
 intro fn hfn
 rw [hro]
 obtain ⟨W0,hW0⟩: ∃W0,w.alloc (.cells #[.slice none 0 0] 24)=W0:=⟨_,rfl⟩
 have hs0:W0.heap.size=w.heap.size+1:=by rw [←hW0];simp
 have hv0:W0.heap[w.heap.size]? =some (.cells #[.slice none 0 0] 24 (0,0)):=by rw [←hW0];exact World.alloc_heap_new w _
 have hb0:Below w.heap.size w W0:=by rw [←hW0];exact (Below.refl _ w).alloc (Nat.le_refl _) _
 rw [hW0]
 obtain ⟨W1,hW1⟩: ∃W1,(W0.alloc (.deferred (some []))).alloc (.loop (apWinRec fn (.func (.func g) #[] lb) w.heap.size W0.heap.size .ready none))=W1:=⟨_,rfl⟩
 have hold: ∀k,k <W0.heap.size→W1.heap[k]? =W0.heap[k]? :=fun k hk=>by
  rw [←hW1];exact (Below.heap_alloc _ _ k (by simp;omega)).trans (Below.heap_alloc _ _ k hk)
 have hb1:Below w.heap.size w W1:=by rw [←hW1];exact (hb0.alloc hb0.size _).alloc (by have:=hb0.size;simp;omega) _
 have hs1:W1.heap.size=W0.heap.size+2:=by rw [←hW1];simp
 have hM:ApWin w fn (.func (.func g) #[] lb) w.heap.size (W0.heap.size+1) W0.heap.size [] W1:=
  ⟨⟨_,(hold w.heap.size (by omega)).trans hv0,⟨rfl, .inl ⟨rfl,rfl⟩⟩⟩,
   by rw [←hW1];have:=World.alloc_heap_new (W0.alloc (.deferred (some []))) (.loop (apWinRec fn (.func (.func g) #[] lb) w.heap.size W0.heap.size .ready none));rwa [World.size_alloc] at this,
   by rw [←hW1];exact (Below.heap_alloc _ _ _ (by simp)).trans (World.alloc_heap_new W0 _),hb1⟩
 refine ⟨W0.heap.size+1,[{target:= .collected W0.heap.size,args:= #[]}],W1,{target:= .fn (.func g) lb,args:= #[.func (.yield (W0.heap.size+1)) #[] #[]]},W1,g,
  #[.func (.yield (W0.heap.size+1)) #[] #[]]++lb,W1, ?_, ?_, ?_, ?_,fun _=>h1, ?_⟩
 ·rw [←hW1];exact run_enterLoop_outer _ _ _ _ _
 ·simp [resolve,go_sem]
 ·intro f' hf';simp [Target.leads] at hf';subst hf';exact hFg
 ·simp [invoke,go_sem,eg]
 ·refine (hseq (W0.heap.size+1) (ApWin w fn (.func (.func g) #[] lb) w.heap.size (W0.heap.size+1) W0.heap.size) W1 hb1 (apWin_abides _ _ _ _ _ _ _ hb1.size) (fun pre W1 h=>h.below)
   (fun pre x W hJ hl=>apWin_yield F (n -1 -1) w fn hfn _ w.heap.size (W0.heap.size+1) W0.heap.size (by omega) (by omega) (by omega) (Nat.le_refl _) (by omega) xs.length hN pre x W hJ hl) hM).mono ?_
  rintro e W2 ⟨⟨v0,rfl⟩,h2⟩
  obtain ⟨v,hv,hrow⟩:=h2.box
  have hend:=run_endLoop (P:=Tryz.prog) h2.L (by simp [apWinRec])
  obtain ⟨W3,hW3⟩: ∃W3,W2.putObj (W0.heap.size+1) (.loop {apWinRec fn (.func (.func g) #[] lb) w.heap.size W0.heap.size .ready none with state:= .exhausted})=W3:=⟨_,rfl⟩
  rw [hW3] at hend
  have hg3:W2.grownBy W3 (some (W0.heap.size+1)):=by rw [←hW3];exact gB_putObj _ _ _
  have hv3:W3.heap[w.heap.size]? =some (.cells #[v] 24 (0,0)):=by rw [←hW3];exact (World.putObj_heap_other (by omega)).trans hv
  have hK3:W3.heap[W0.heap.size]? =some (.deferred (some [])):=by rw [←hW3];exact (World.putObj_heap_other (by omega)).trans h2.K
  have hrow3:=hrow.kept hg3 (oR_ne hrow h2.L (fun cur e=>by first |cases e |exact absurd (Obj.cells.inj e).2.1 (by decide)))
  have hb3:Below w.heap.size w W3:=h2.below.grown hg3 h2.below.size (fun k e=>by cases e;omega)
  obtain ⟨hc3,hf3⟩:=c_of_box hv3
  clear hW3
  refine ⟨none,W3,hend, ?_⟩
  gi_wp2
  rw [←hs0]
  refine ⟨by simp, .inl ⟨_,_,rfl,run_takeDeferred hK3, ?_⟩⟩
  exact ⟨_,results_tmp rfl _ _ _,v,rfl,hrow3.kept (gB_putObj _ _ _) (oR_ne hrow3 hK3 (fun cur e=>by first |cases e |exact absurd (Obj.cells.inj e).2.1 (by decide))),hb3.grown (gB_putObj _ _ _) hb3.size (fun k e=>by cases e;omega)⟩
set_option maxRecDepth 100000 in
set_option maxHeartbeats 1000000 in
theorem collWin_in (F:Fence) (n:Nat) (h8:F.fn 153) (h11:F.fn 178) (hro:F.round=none) (hn:3≤n) (g:Nat) (lb:Array Value) (hFg:F.fn g) (eg: ∀args w,(callFunc g args).run Tryz.prog w= .ok (.enter g args) w)
  (xs:List Win) (hN:xs.length≤4194304) (w:World) (hseq:SeqB F (n -1 -1) Tryz.prog g lb (fun x:Win=>Value.agg #[.int .u64 x.start, .int .u64 x.len, .int .u16 x.part]) xs w):
  CallsIn F n Tryz.prog 153 #[.func (.func g) #[] lb] w fun e w'=> ∃(v:Value),e= .returned v∧w'.ownsRow w.heap.size 71 3 v xs.length (xs.flatMap Win.cells)∧Below w.heap.size w w':=by
 have h1:1≤n:=by omega
 refine callsIn_of_wp Tryz.func153 rfl h8 ?_ hro
 simp only [Tryz.ntmps153,List.size_toArray,List.length_cons,List.length_nil,Nat.reduceAdd,Nat.reduceSub,Array.replicate_succ,Array.replicate_zero,List.push_toArray,List.append_toArray,List.nil_append,List.cons_append]
 gi_wp2_with (gi_at_call 178;refine (apWin_in F (n -1) h11 hro (by omega) g lb hFg eg xs hN _ hseq).mono ?_;rintro e w' ⟨v,rfl,hrow,hb⟩)
 go_ret
 exact ⟨v,rfl,hrow,hb⟩
set_option maxRecDepth 100000 in
set_option maxHeartbeats 1000000 in
theorem valsWin_ok (A:Option Addr) (k c:Nat) (w:World):Calls Tryz.prog 110 #[.slice A k c] w fun e w'=>e= .returned (.func (.func 155) #[] #[.pointer (some ⟨w.heap.size,0,none⟩)])∧w'=w.alloc (.cells #[.slice A k c] 24):=by
 go_enter Tryz.func110,Tryz.ntmps110
 go_wp2
 go_ret
 exact ⟨rfl,rfl⟩
theorem collWin_ok (Bm:Nat) (xs:List Win) (A:Option Addr) (c:Nat) (w:World) (hl:xs.length≤4194304) (hBm:Bm <w.heap.size) (hm:w.cell? ⟨Bm,0,none⟩=some (.slice A xs.length c)) (hR:Rd w w.heap.size 3 A xs.length (xs.flatMap Win.cells)):
  Calls Tryz.prog 153 #[.func (.func 155) #[] #[.pointer (some ⟨Bm,0,none⟩)]] w fun e w'=> ∃(v:Value),e= .returned v∧w'.ownsRow w.heap.size 71 3 v xs.length (xs.flatMap Win.cells)∧Below w.heap.size w w':=by
 have hseq:=valsWin_in Fence.wide 1 trivial rfl (Nat.le_refl _) Bm xs A c w hl hBm hm hR
 exact callsIn_wide.1 (collWin_in Fence.wide 3 trivial trivial rfl (Nat.le_refl _) 155 _ trivial (enters_of Tryz.func155 (by kernel_rfl) rfl) xs hl w hseq)
end Go.Proofs.YteelncofiodflaaGreat
namespace Go.Proofs.YteelncofiodflaaGreat
open Go.RowKit Go.Maps Go.Shelf
set_option maxRecDepth 100000 in
set_option maxHeartbeats 2000000 in
theorem valsReg_in (F:Fence) (n:Nat) (h10:F.fn 158) (hro:F.round=none) (hn:1≤n) (Bm:Nat) (xs:List Reg) (A:Option Addr) (c:Nat) (w:World) (hl:xs.length≤4194304) (hBm:Bm <w.heap.size) (hm:w.cell? ⟨Bm,0,none⟩=some (.slice A xs.length c)) (hR:Rd w w.heap.size 5 A xs.length (xs.flatMap Reg.cells)):
  SeqB F n Tryz.prog 158 #[.pointer (some ⟨Bm,0,none⟩)] (fun x:Reg=>Value.agg #[.int .u64 x.base, .int .u64 x.size, .int .u16 x.part, .int .u8 x.rights, .bool x.shared]) xs w:=fun l J W hW hJ hJB hY h0=>by
 have hm':=(hW.cell (p:=⟨Bm,0,none⟩) hBm).trans hm
 refine callsIn_of_wp Tryz.func158 rfl h10 ?_ hro
 simp only [Tryz.ntmps158,List.size_toArray,List.length_cons,List.length_nil,Nat.reduceAdd,Nat.reduceSub,Array.replicate_succ,Array.replicate_zero,List.push_toArray,List.append_toArray,List.nil_append,List.cons_append]
 gi_wp2
 gi_loopw [7] (fun i wr=> ∃k:Nat,k≤xs.length∧i= .int .i64 k∧J (xs.take k) wr∧Below W.heap.size W W) (fun i _=>xs.length -(intOf i).toNat)
 case atStart=>exact ⟨0,Nat.zero_le _,rfl,by simpa using h0,Below.refl _ _⟩
 case round=>
  obtain ⟨k,hk,rfl,hJs,_⟩:=hrel
  by_cases hlt:k <xs.length
  ·obtain ⟨x,hx⟩:=get_lt hlt
   obtain ⟨b,o,rfl,hb,g0,g1,g2,g3,g4⟩:=reg_at (hR.below (hJB _ _ hJs)) hx
   have k0:(0:Int)≤(k:Int):=by omega
   have k1:(k:Int) <(xs.length:Int):=by omega
   have HX:=Lib.hid (take_next hx)
   have hW1:J (xs.take k) (wr.alloc (.cells #[.int .u64 x.base, .int .u64 x.size, .int .u16 x.part, .int .u8 x.rights, .bool x.shared] 75)):=hJ _ wr _ none hJs (gB_alloc _ _) (fun r e=>by cases e)
   have hlk:(xs.take k).length <xs.length:=by rw [List.length_take];omega
   obtain ⟨fn,tmps,assign,body,hy,hRd⟩:=hY (xs.take k) x _ hW1 hlk
   clear hx hlk
   gi_wp2
   refine hRd.mono ?_
   rintro e W3 ⟨rfl,hJ3,hk3⟩
   gi_wp2
   go_roundw
   case rel=>exact ⟨k+1,by omega,by first |rfl |go_num |simp,by rw [HX.out];exact hJ3,Below.refl _ _⟩
   case measure=>simp [intOf];omega
  ·obtain rfl:k=xs.length:=by omega
   rw [List.take_length] at hJs
   gi_wp2
   go_end0
   exact ⟨⟨_,rfl⟩,hJs⟩
def apRegAssign : Code := (Code.region 2 #[{ dst := some 5, op := Op.alloc 75, type := 0, pos := "iter.go:51", after := #[], guard := none }, { dst := none, op := Op.store 75 (Operand.tmp 5) (Operand.tmp 7), type := 0, pos := "iter.go:51", after := #[{ on := 0, ground := Ground.data }, { on := 0, ground := Ground.phase }], guard := none }] false)
def apRegBody : Code := (Code.block 1 (Code.region 3 #[{ dst := some 8, op := Op.load 25 (Operand.tmp 2), type := 25, pos := "iter.go:52", after := #[], guard := none }, { dst := some 9, op := Op.load 75 (Operand.tmp 5), type := 75, pos := "iter.go:52", after := #[], guard := none }, { dst := some 10, op := Op.buildSlice 25 1 #[(0, Operand.tmp 9)], type := 25, pos := "iter.go:52", after := #[{ on := 1, ground := Ground.data }], guard := none }, { dst := some 11, op := Op.call { callee := Callee.builtin Builtin.append, args := #[Operand.tmp 8, Operand.tmp 10], argTypes := #[25, 25] }, type := 25, pos := "iter.go:52", after := #[{ on := 0, ground := Ground.data }, { on := 2, ground := Ground.data }], guard := none }, { dst := none, op := Op.store 25 (Operand.tmp 2) (Operand.tmp 11), type := 0, pos := "iter.go:52", after := #[{ on := 3, ground := Ground.data }, { on := 3, ground := Ground.chain }, { on := 0, ground := Ground.phase }, { on := 1, ground := Ground.phase }, { on := 2, ground := Ground.phase }, { on := 3, ground := Ground.phase }], guard := none }] false))
def apRegRec (fn:FuncId) (sv:Value) (Bs D:Nat) (st:LoopState) (pend:Option Code):Loop:=
 {state:=st,pending:=pend,fn,tmps:= #[.slice none 0 0,sv, .pointer (some ⟨Bs,0,none⟩),undef, .slice none 0 0,undef,sv,undef,undef,undef,undef,undef,undef],params:= #[7],assign:=apRegAssign,body:=apRegBody,defers:=D}
structure ApReg (w0:World) (fn:FuncId) (sv:Value) (Bs l D:Nat) (ss:List Reg) (W:World):Prop where
 box: ∃v,W.heap[Bs]? =some (.cells #[v] 25 (0,0))∧W.ownsRow w0.heap.size 75 5 v ss.length (ss.flatMap Reg.cells)
 L:W.heap[l]? =some (.loop (apRegRec fn sv Bs D .ready none))
 K:W.heap[D]? =some (.deferred (some []))
 below:Below w0.heap.size w0 W
theorem apReg_abides (w0:World) (fn:FuncId) (sv:Value) (Bs l D B:Nat) (hB:w0.heap.size≤B):AbidesFrom B (ApReg w0 fn sv Bs l D):=fun s W W' row h hg hrow=>by
 have hrow': ∀r,row=some r→ ∃o:Obj,W.heap[r]? =some o∧o.isWalk=true:=fun r e=>(hrow r e).2
 obtain ⟨v,hv,hr⟩:=h.box
 exact ⟨⟨v,(grownBy_keeps hg hrow' hv rfl).trans hv,oR_abides hr hg hrow'⟩,(grownBy_keeps hg hrow' h.L rfl).trans h.L,(grownBy_keeps hg hrow' h.K rfl).trans h.K,
  h.below.grown hg h.below.size (fun k e=>Nat.le_trans hB (hrow k e).1)⟩
set_option maxRecDepth 100000 in
set_option maxHeartbeats 4000000 in
theorem apReg_yield (F:Fence) (m:Nat) (w0:World) (fn:FuncId) (hfn:F.fn fn) (sv:Value) (Bs l D:Nat) (hBl:Bs≠l) (hDl:D≠l) (hDB:D≠Bs) (h0B:w0.heap.size≤Bs) (h0l:w0.heap.size≤l)
  (N:Nat) (hN:N≤4194304) (ss:List Reg) (x:Reg) (W:World) (h:ApReg w0 fn sv Bs l D ss W) (hlen:ss.length <N):
  YieldAt F m Tryz.prog l #[.agg #[.int .u64 x.base, .int .u64 x.size, .int .u16 x.part, .int .u8 x.rights, .bool x.shared]] W fun e W'=>e= .returned (.bool true)∧ApReg w0 fn sv Bs l D (ss++ [x]) W'∧KeepsWalks W W':=by
 obtain ⟨i0,hi,hz0,hz1,hz2⟩:=info_parts infoRegion
 obtain ⟨v,hv,hrow⟩:=h.box
 refine ⟨fn,#[.slice none 0 0,sv, .pointer (some ⟨Bs,0,none⟩),undef, .slice none 0 0,undef,sv,(.agg #[.int .u64 x.base, .int .u64 x.size, .int .u16 x.part, .int .u8 x.rights, .bool x.shared]),undef,undef,undef,undef,undef],apRegAssign,apRegBody,by simpa [apRegRec] using run_yield (P:=Tryz.prog) (args:= #[(.agg #[.int .u64 x.base, .int .u64 x.size, .int .u16 x.part, .int .u8 x.rights, .bool x.shared])]) h.L rfl,roundIn_of_wpIn hfn ?_⟩
 obtain ⟨Wa,hWa⟩: ∃Wa,W.alloc (.cells #[.int .u64 x.base, .int .u64 x.size, .int .u16 x.part, .int .u8 x.rights, .bool x.shared] 75)=Wa:=⟨_,rfl⟩
 have hbxa:Blk Wa W.heap.size 75 #[.int .u64 x.base, .int .u64 x.size, .int .u16 x.part, .int .u8 x.rights, .bool x.shared]:=by rw [←hWa];exact Blk.new W 75 #[.int .u64 x.base, .int .u64 x.size, .int .u16 x.part, .int .u8 x.rights, .bool x.shared]
 have old: ∀k,k <W.heap.size→Wa.heap[k]? =W.heap[k]? :=fun k hk=>by rw [←hWa];exact Below.heap_alloc _ _ k hk
 have hva:=(old Bs (Array.getElem?_eq_some_iff.1 hv).1).trans hv
 have hKa:=(old D (Array.getElem?_eq_some_iff.1 h.K).1).trans h.K
 have hLa:=(old l (Array.getElem?_eq_some_iff.1 h.L).1).trans h.L
 have hrowa:Wa.ownsRow w0.heap.size 75 5 v ss.length (ss.flatMap Reg.cells):=by rw [←hWa];exact hrow.alloc _
 have hba:Below w0.heap.size w0 Wa:=by rw [←hWa];exact h.below.alloc h.below.size _
 have hka:KeepsWalks W Wa:=by rw [←hWa];exact KeepsWalks.alloc _ _
 have hl:l <Wa.heap.size:=(Array.getElem?_eq_some_iff.1 hLa).1
 have hne:l≠W.heap.size:=by have:=(Array.getElem?_eq_some_iff.1 h.L).1;omega
 have hbr:=run_beginRound (P:=Tryz.prog) hLa rfl
 obtain ⟨W3,hW3⟩: ∃W3,Wa.putObj l (.loop {apRegRec fn sv Bs D .ready none with state:= .busy})=W3:=⟨_,rfl⟩
 rw [hW3] at hbr
 have hg3:Wa.grownBy W3 (some l):=by rw [←hW3];exact gB_putObj _ _ _
 have hk3:KeepsWalks W W3:=hka.trans (by rw [←hW3];exact KeepsWalks.putObj _ hLa rfl)
 have hv3:W3.heap[Bs]? =some (.cells #[v] 25 (0,0)):=by rw [←hW3];exact (World.putObj_heap_other hBl).trans hva
 have hK3:W3.heap[D]? =some (.deferred (some [])):=by rw [←hW3];exact (World.putObj_heap_other hDl).trans hKa
 have hL3:W3.heap[l]? =some (.loop {apRegRec fn sv Bs D .ready none with state:= .busy}):=by rw [←hW3];exact World.putObj_heap_same hl
 have hrow3:W3.ownsRow w0.heap.size 75 5 v ss.length (ss.flatMap Reg.cells):=hrowa.kept hg3 (oR_ne hrowa hLa (fun cur e=>by first |cases e |exact absurd (Obj.cells.inj e).2.1 (by decide)))
 have hb3:Below w0.heap.size w0 W3:=hba.grown hg3 hba.size (fun k e=>by cases e;exact h0l)
 have hbx:Blk W3 W.heap.size 75 #[.int .u64 x.base, .int .u64 x.size, .int .u16 x.part, .int .u8 x.rights, .bool x.shared]:=(hg3.block W.heap.size hbxa.lt (fun e=>hne (by cases e;rfl))).trans hbxa
 clear hW3
 unfold apRegAssign
 gi_wp2_with ((rw [Oper.semAt_eq _ _ _ (fun c h=>by cases h)];go_simp;try go_bits))
 clear hv hrow hva hKa hLa hrowa hba hka hl hne hbr hg3 hbxa old hWa
 generalize W.heap.size=bx at hbx ⊢
 have x0:=hbx.cell 0
 have x1:=hbx.cell 1
 have x2:=hbx.cell 2
 have x3:=hbx.cell 3
 have x4:=hbx.cell 4
 simp at x0 x1 x2 x3 x4
 have hbl:=hbx.lt
 obtain ⟨hc2,hf2⟩:=c_of_box hv3
 have hBlt:Bs <W3.heap.size:=(Array.getElem?_eq_some_iff.1 hv3).1
 have hl2:l <W3.heap.size:=(Array.getElem?_eq_some_iff.1 hL3).1
 have hDlt:D <W3.heap.size:=(Array.getElem?_eq_some_iff.1 hK3).1
 have ne_of: ∀ {j:Nat} {o:Obj},W3.heap[j]? =some o→(∀cur,o≠ .cells cur 75 (0,0))→some j≠v.ownBlock:=fun hj hno=>by
  rcases oR_ne hrow3 hj hno with e |e
  ·rw [e];simp
  ·exact fun e'=>e e'.symm
 clear hbx
 unfold apRegBody
 gi_wp2_with (first
  |(gi_at_builtin;refine wpListIn_append_own _ rfl _ _ 25 rfl w0.heap.size 75 i0 (.agg #[.int .u64 0, .int .u64 0, .int .u16 0, .int .u8 0, .bool false]) 5 24 Tryz.underlying25 hi hz0 hz1 hz2 rfl (by decide) _ _ _ rfl (hrow3.alloc _) ⟨W3.heap.size,0,none⟩ 1 1 [.int .u64 x.base, .int .u64 x.size, .int .u16 x.part, .int .u8 x.rights, .bool x.shared] rfl rfl (World.news_of_block (heap_alloc_new W3 _)) (by simp [Value.oneCell']) (by unfold maxLen;omega) (by omega) (by have:=hb3.size;simp;omega) ?_;intro v' w3 hown' hg3 hnil3
    have hv4:w3.heap[Bs]? =some (.cells #[v] 25 (0,0)):=(hg3.block Bs (by simp;omega) (ne_of hv3 (fun cur e=>by first |cases e |exact absurd (Obj.cells.inj e).2.1 (by decide)))).trans ((Below.heap_alloc _ _ Bs hBlt).trans hv3)
    obtain ⟨hc3,hf3⟩:=c_of_box hv4
    obtain ⟨g',cap',cur',rfl,hbase',hgb',hr1,hr2,hr3,hr4⟩: ∃g' cap' cur',v'= .slice (some ⟨g',0,none⟩) (ss.length+1) cap'∧w0.heap.size≤g'∧w3.heap[g']? =some (.cells cur' 75 (0,0))∧ss.length+1≤cap'∧cap'≤maxLen∧cur'.size=cap'*5∧cur'.toList.take ((ss.length+1)*5)=ss.flatMap Reg.cells++ [.int .u64 x.base, .int .u64 x.size, .int .u16 x.part, .int .u8 x.rights, .bool x.shared]:=by
     rcases hown'.2 with ⟨_,h0⟩ |h'
     ·exact absurd h0 (by omega)
     ·exact h'
    go_frame)
  |((rw [Oper.semAt_eq _ _ _ (fun c h=>by cases h)];go_simp;try go_bits)))
 have hg3':(W3.alloc (.cells #[.int .u64 x.base, .int .u64 x.size, .int .u16 x.part, .int .u8 x.rights, .bool x.shared] 75)).grownBy w3 v.ownBlock:=hg3
 have hL4:w3.heap[l]? =some (.loop {apRegRec fn sv Bs D .ready none with state:= .busy}):=(hg3'.block l (by simp;omega) (ne_of hL3 (fun cur e=>by first |cases e |exact absurd (Obj.cells.inj e).2.1 (by decide)))).trans ((Below.heap_alloc _ _ l hl2).trans hL3)
 have hK4:w3.heap[D]? =some (.deferred (some [])):=(hg3'.block D (by simp;omega) (ne_of hK3 (fun cur e=>by first |cases e |exact absurd (Obj.cells.inj e).2.1 (by decide)))).trans ((Below.heap_alloc _ _ D hDlt).trans hK3)
 obtain ⟨w4,hw4⟩: ∃w4,w3.setCell ⟨Bs,0,none⟩ (.slice (some ⟨g',0,none⟩) (ss.length+1) cap')=w4:=⟨_,rfl⟩
 rw [hw4]
 have hg4:w3.grownBy w4 (some Bs):=by rw [←hw4];exact gB_setCell0 _ _ _
 have hv5:w4.heap[Bs]? =some (.cells #[.slice (some ⟨g',0,none⟩) (ss.length+1) cap'] 25 (0,0)):=by rw [←hw4];exact h_setCell_box _ hv4
 have hL5:w4.heap[l]? =some (.loop {apRegRec fn sv Bs D .ready none with state:= .busy}):=(hg4.block l (Array.getElem?_eq_some_iff.1 hL4).1 (fun e=>hBl (by cases e;rfl))).trans hL4
 have hK5:w4.heap[D]? =some (.deferred (some [])):=(hg4.block D (Array.getElem?_eq_some_iff.1 hK4).1 (fun e=>hDB (by cases e;rfl))).trans hK4
 have hrow5:=hown'.kept hg4 (oR_ne hown' hv4 (fun cur e=>by first |cases e |exact absurd (Obj.cells.inj e).2.1 (by decide)))
 have hl5:l <w4.heap.size:=(Array.getElem?_eq_some_iff.1 hL5).1
 have hb4:Below w0.heap.size w0 w3:=(hb3.alloc hb3.size _).grown hg3' (by have:=hb3.size;simp;omega) (fun k e=>(hrow3.lt k e).1)
 have hb5:Below w0.heap.size w0 w4:=hb4.grown hg4 hb4.size (fun k e=>by cases e;exact h0B)
 have hk5:KeepsWalks W w4:=((hk3.trans (KeepsWalks.alloc _ _)).trans (KeepsWalks.of_grownBy hg3' (oR_not_walk (hrow3.alloc _)))).trans (by rw [←hw4];exact KeepsWalks.setCell _ _ _)
 clear hw4
 refine ⟨_,_,run_endRound none hL5,rfl,⟨⟨_,(World.putObj_heap_other hBl).trans hv5, ?_⟩,World.putObj_heap_same hl5,(World.putObj_heap_other hDl).trans hK5,hb5.grown (gB_putObj _ _ _) hb5.size (fun k e=>by cases e;exact h0l)⟩,hk5.trans (KeepsWalks.putObj _ hL5 rfl)⟩
 have:=hrow5.kept (gB_putObj w4 l (.loop {{apRegRec fn sv Bs D .ready none with state:= .busy} with state:=if (none:Option Code).isNone then .ready else .done,pending:=none})) (oR_ne hrow5 hL5 (fun cur e=>by first |cases e |exact absurd (Obj.cells.inj e).2.1 (by decide)))
 rw [List.flatMap_append,List.length_append]
 simpa [Reg.cells] using this
set_option maxRecDepth 100000 in
set_option maxHeartbeats 2000000 in
theorem apReg_in (F:Fence) (n:Nat) (h11:F.fn 180) (hro:F.round=none) (hn:2≤n) (g:Nat) (lb:Array Value) (hFg:F.fn g) (eg: ∀args w,(callFunc g args).run Tryz.prog w= .ok (.enter g args) w)
  (xs:List Reg) (hN:xs.length≤4194304) (w:World) (hseq:SeqB F (n -1) Tryz.prog g lb (fun x:Reg=>Value.agg #[.int .u64 x.base, .int .u64 x.size, .int .u16 x.part, .int .u8 x.rights, .bool x.shared]) xs w):
  CallsIn F n Tryz.prog 180 #[.slice none 0 0, .func (.func g) #[] lb] w fun e w'=> ∃(v:Value),e= .returned v∧w'.ownsRow w.heap.size 75 5 v xs.length (xs.flatMap Reg.cells)∧Below w.heap.size w w':=by
 have h1:1≤n:=by omega
 refine callsIn_of_wp_marks Tryz.func180 rfl h11 ?_ hro
 simp only [Tryz.ntmps180,List.size_toArray,List.length_cons,List.length_nil,Nat.reduceAdd,Nat.reduceSub,Array.replicate_succ,Array.replicate_zero,List.push_toArray,List.append_toArray,List.nil_append,List.cons_append]
 gi_wp2
 refine wpIn_rangeFunc ?_
 intro fn hfn
 rw [hro]
 obtain ⟨W0,hW0⟩: ∃W0,w.alloc (.cells #[.slice none 0 0] 25)=W0:=⟨_,rfl⟩
 have hs0:W0.heap.size=w.heap.size+1:=by rw [←hW0];simp
 have hv0:W0.heap[w.heap.size]? =some (.cells #[.slice none 0 0] 25 (0,0)):=by rw [←hW0];exact World.alloc_heap_new w _
 have hb0:Below w.heap.size w W0:=by rw [←hW0];exact (Below.refl _ w).alloc (Nat.le_refl _) _
 rw [hW0]
 obtain ⟨W1,hW1⟩: ∃W1,(W0.alloc (.deferred (some []))).alloc (.loop (apRegRec fn (.func (.func g) #[] lb) w.heap.size W0.heap.size .ready none))=W1:=⟨_,rfl⟩
 have hold: ∀k,k <W0.heap.size→W1.heap[k]? =W0.heap[k]? :=fun k hk=>by
  rw [←hW1];exact (Below.heap_alloc _ _ k (by simp;omega)).trans (Below.heap_alloc _ _ k hk)
 have hb1:Below w.heap.size w W1:=by rw [←hW1];exact (hb0.alloc hb0.size _).alloc (by have:=hb0.size;simp;omega) _
 have hs1:W1.heap.size=W0.heap.size+2:=by rw [←hW1];simp
 have hM:ApReg w fn (.func (.func g) #[] lb) w.heap.size (W0.heap.size+1) W0.heap.size [] W1:=
  ⟨⟨_,(hold w.heap.size (by omega)).trans hv0,⟨rfl, .inl ⟨rfl,rfl⟩⟩⟩,
   by rw [←hW1];have:=World.alloc_heap_new (W0.alloc (.deferred (some []))) (.loop (apRegRec fn (.func (.func g) #[] lb) w.heap.size W0.heap.size .ready none));rwa [World.size_alloc] at this,
   by rw [←hW1];exact (Below.heap_alloc _ _ _ (by simp)).trans (World.alloc_heap_new W0 _),hb1⟩
 refine ⟨W0.heap.size+1,[{target:= .collected W0.heap.size,args:= #[]}],W1,{target:= .fn (.func g) lb,args:= #[.func (.yield (W0.heap.size+1)) #[] #[]]},W1,g,
  #[.func (.yield (W0.heap.size+1)) #[] #[]]++lb,W1, ?_, ?_, ?_, ?_,fun _=>h1, ?_⟩
 ·rw [←hW1];exact run_enterLoop_outer _ _ _ _ _
 ·simp [resolve,go_sem]
 ·intro f' hf';simp [Target.leads] at hf';subst hf';exact hFg
 ·simp [invoke,go_sem,eg]
 ·refine (hseq (W0.heap.size+1) (ApReg w fn (.func (.func g) #[] lb) w.heap.size (W0.heap.size+1) W0.heap.size) W1 hb1 (apReg_abides _ _ _ _ _ _ _ hb1.size) (fun pre W1 h=>h.below)
   (fun pre x W hJ hl=>apReg_yield F (n -1 -1) w fn hfn _ w.heap.size (W0.heap.size+1) W0.heap.size (by omega) (by omega) (by omega) (Nat.le_refl _) (by omega) xs.length hN pre x W hJ hl) hM).mono ?_
  rintro e W2 ⟨⟨v0,rfl⟩,h2⟩
  obtain ⟨v,hv,hrow⟩:=h2.box
  have hend:=run_endLoop (P:=Tryz.prog) h2.L (by simp [apRegRec])
  obtain ⟨W3,hW3⟩: ∃W3,W2.putObj (W0.heap.size+1) (.loop {apRegRec fn (.func (.func g) #[] lb) w.heap.size W0.heap.size .ready none with state:= .exhausted})=W3:=⟨_,rfl⟩
  rw [hW3] at hend
  have hg3:W2.grownBy W3 (some (W0.heap.size+1)):=by rw [←hW3];exact gB_putObj _ _ _
  have hv3:W3.heap[w.heap.size]? =some (.cells #[v] 25 (0,0)):=by rw [←hW3];exact (World.putObj_heap_other (by omega)).trans hv
  have hK3:W3.heap[W0.heap.size]? =some (.deferred (some [])):=by rw [←hW3];exact (World.putObj_heap_other (by omega)).trans h2.K
  have hrow3:=hrow.kept hg3 (oR_ne hrow h2.L (fun cur e=>by first |cases e |exact absurd (Obj.cells.inj e).2.1 (by decide)))
  have hb3:Below w.heap.size w W3:=h2.below.grown hg3 h2.below.size (fun k e=>by cases e;omega)
  obtain ⟨hc3,hf3⟩:=c_of_box hv3
  clear hW3
  refine ⟨none,W3,hend, ?_⟩
  gi_wp2
  rw [←hs0]
  refine ⟨by simp, .inl ⟨_,_,rfl,run_takeDeferred hK3, ?_⟩⟩
  exact ⟨_,results_tmp rfl _ _ _,v,rfl,hrow3.kept (gB_putObj _ _ _) (oR_ne hrow3 hK3 (fun cur e=>by first |cases e |exact absurd (Obj.cells.inj e).2.1 (by decide))),hb3.grown (gB_putObj _ _ _) hb3.size (fun k e=>by cases e;omega)⟩
set_option maxRecDepth 100000 in
set_option maxHeartbeats 1000000 in
theorem collReg_in (F:Fence) (n:Nat) (h8:F.fn 156) (h11:F.fn 180) (hro:F.round=none) (hn:3≤n) (g:Nat) (lb:Array Value) (hFg:F.fn g) (eg: ∀args w,(callFunc g args).run Tryz.prog w= .ok (.enter g args) w)
  (xs:List Reg) (hN:xs.length≤4194304) (w:World) (hseq:SeqB F (n -1 -1) Tryz.prog g lb (fun x:Reg=>Value.agg #[.int .u64 x.base, .int .u64 x.size, .int .u16 x.part, .int .u8 x.rights, .bool x.shared]) xs w):
  CallsIn F n Tryz.prog 156 #[.func (.func g) #[] lb] w fun e w'=> ∃(v:Value),e= .returned v∧w'.ownsRow w.heap.size 75 5 v xs.length (xs.flatMap Reg.cells)∧Below w.heap.size w w':=by
 have h1:1≤n:=by omega
 refine callsIn_of_wp Tryz.func156 rfl h8 ?_ hro
 simp only [Tryz.ntmps156,List.size_toArray,List.length_cons,List.length_nil,Nat.reduceAdd,Nat.reduceSub,Array.replicate_succ,Array.replicate_zero,List.push_toArray,List.append_toArray,List.nil_append,List.cons_append]
 gi_wp2_with (gi_at_call 180;refine (apReg_in F (n -1) h11 hro (by omega) g lb hFg eg xs hN _ hseq).mono ?_;rintro e w' ⟨v,rfl,hrow,hb⟩)
 go_ret
 exact ⟨v,rfl,hrow,hb⟩
set_option maxRecDepth 100000 in
set_option maxHeartbeats 1000000 in
theorem valsReg_ok (A:Option Addr) (k c:Nat) (w:World):Calls Tryz.prog 113 #[.slice A k c] w fun e w'=>e= .returned (.func (.func 158) #[] #[.pointer (some ⟨w.heap.size,0,none⟩)])∧w'=w.alloc (.cells #[.slice A k c] 25):=by
 go_enter Tryz.func113,Tryz.ntmps113
 go_wp2
 go_ret
 exact ⟨rfl,rfl⟩
theorem collReg_ok (Bm:Nat) (xs:List Reg) (A:Option Addr) (c:Nat) (w:World) (hl:xs.length≤4194304) (hBm:Bm <w.heap.size) (hm:w.cell? ⟨Bm,0,none⟩=some (.slice A xs.length c)) (hR:Rd w w.heap.size 5 A xs.length (xs.flatMap Reg.cells)):
  Calls Tryz.prog 156 #[.func (.func 158) #[] #[.pointer (some ⟨Bm,0,none⟩)]] w fun e w'=> ∃(v:Value),e= .returned v∧w'.ownsRow w.heap.size 75 5 v xs.length (xs.flatMap Reg.cells)∧Below w.heap.size w w':=by
 have hseq:=valsReg_in Fence.wide 1 trivial rfl (Nat.le_refl _) Bm xs A c w hl hBm hm hR
 exact callsIn_wide.1 (collReg_in Fence.wide 3 trivial trivial rfl (Nat.le_refl _) 158 _ trivial (enters_of Tryz.func158 (by kernel_rfl) rfl) xs hl w hseq)
end Go.Proofs.YteelncofiodflaaGreat
namespace Go.Proofs.YteelncofiodflaaGreat
open Go.RowKit Go.Maps Go.Shelf
set_option maxRecDepth 100000 in
set_option maxHeartbeats 2000000 in
theorem valsPrt_in (F:Fence) (n:Nat) (h10:F.fn 162) (hro:F.round=none) (hn:1≤n) (Bm:Nat) (xs:List Prt) (A:Option Addr) (c:Nat) (w:World) (hl:xs.length≤4194304) (hBm:Bm <w.heap.size) (hm:w.cell? ⟨Bm,0,none⟩=some (.slice A xs.length c)) (hR:Rd w w.heap.size 6 A xs.length (xs.flatMap Prt.cells)):
  SeqB F n Tryz.prog 162 #[.pointer (some ⟨Bm,0,none⟩)] (fun x:Prt=>Value.agg #[.int .u16 x.id, .int .u16 x.part, .string x.name, .bool x.output, .bool x.queuing, .int .u32 x.size]) xs w:=fun l J W hW hJ hJB hY h0=>by
 have hm':=(hW.cell (p:=⟨Bm,0,none⟩) hBm).trans hm
 refine callsIn_of_wp Tryz.func162 rfl h10 ?_ hro
 simp only [Tryz.ntmps162,List.size_toArray,List.length_cons,List.length_nil,Nat.reduceAdd,Nat.reduceSub,Array.replicate_succ,Array.replicate_zero,List.push_toArray,List.append_toArray,List.nil_append,List.cons_append]
 gi_wp2
 gi_loopw [7] (fun i wr=> ∃k:Nat,k≤xs.length∧i= .int .i64 k∧J (xs.take k) wr∧Below W.heap.size W W) (fun i _=>xs.length -(intOf i).toNat)
 case atStart=>exact ⟨0,Nat.zero_le _,rfl,by simpa using h0,Below.refl _ _⟩
 case round=>
  obtain ⟨k,hk,rfl,hJs,_⟩:=hrel
  by_cases hlt:k <xs.length
  ·obtain ⟨x,hx⟩:=get_lt hlt
   obtain ⟨b,o,rfl,hb,g0,g1,g2,g3,g4,g5⟩:=prt_at (hR.below (hJB _ _ hJs)) hx
   have k0:(0:Int)≤(k:Int):=by omega
   have k1:(k:Int) <(xs.length:Int):=by omega
   have HX:=Lib.hid (take_next hx)
   have hW1:J (xs.take k) (wr.alloc (.cells #[.int .u16 x.id, .int .u16 x.part, .string x.name, .bool x.output, .bool x.queuing, .int .u32 x.size] 52)):=hJ _ wr _ none hJs (gB_alloc _ _) (fun r e=>by cases e)
   have hlk:(xs.take k).length <xs.length:=by rw [List.length_take];omega
   obtain ⟨fn,tmps,assign,body,hy,hRd⟩:=hY (xs.take k) x _ hW1 hlk
   clear hx hlk
   gi_wp2
   refine hRd.mono ?_
   rintro e W3 ⟨rfl,hJ3,hk3⟩
   gi_wp2
   go_roundw
   case rel=>exact ⟨k+1,by omega,by first |rfl |go_num |simp,by rw [HX.out];exact hJ3,Below.refl _ _⟩
   case measure=>simp [intOf];omega
  ·obtain rfl:k=xs.length:=by omega
   rw [List.take_length] at hJs
   gi_wp2
   go_end0
   exact ⟨⟨_,rfl⟩,hJs⟩
def apPrtAssign : Code := (Code.region 2 #[{ dst := some 5, op := Op.alloc 52, type := 0, pos := "iter.go:51", after := #[], guard := none }, { dst := none, op := Op.store 52 (Operand.tmp 5) (Operand.tmp 7), type := 0, pos := "iter.go:51", after := #[{ on := 0, ground := Ground.data }, { on := 0, ground := Ground.phase }], guard := none }] false)
def apPrtBody : Code := (Code.block 1 (Code.region 3 #[{ dst := some 8, op := Op.load 26 (Operand.tmp 2), type := 26, pos := "iter.go:52", after := #[], guard := none }, { dst := some 9, op := Op.load 52 (Operand.tmp 5), type := 52, pos := "iter.go:52", after := #[], guard := none }, { dst := some 10, op := Op.buildSlice 26 1 #[(0, Operand.tmp 9)], type := 26, pos := "iter.go:52", after := #[{ on := 1, ground := Ground.data }], guard := none }, { dst := some 11, op := Op.call { callee := Callee.builtin Builtin.append, args := #[Operand.tmp 8, Operand.tmp 10], argTypes := #[26, 26] }, type := 26, pos := "iter.go:52", after := #[{ on := 0, ground := Ground.data }, { on := 2, ground := Ground.data }], guard := none }, { dst := none, op := Op.store 26 (Operand.tmp 2) (Operand.tmp 11), type := 0, pos := "iter.go:52", after := #[{ on := 3, ground := Ground.data }, { on := 3, ground := Ground.chain }, { on := 0, ground := Ground.phase }, { on := 1, ground := Ground.phase }, { on := 2, ground := Ground.phase }, { on := 3, ground := Ground.phase }], guard := none }] false))
def apPrtRec (fn:FuncId) (sv:Value) (Bs D:Nat) (st:LoopState) (pend:Option Code):Loop:=
 {state:=st,pending:=pend,fn,tmps:= #[.slice none 0 0,sv, .pointer (some ⟨Bs,0,none⟩),undef, .slice none 0 0,undef,sv,undef,undef,undef,undef,undef,undef],params:= #[7],assign:=apPrtAssign,body:=apPrtBody,defers:=D}
structure ApPrt (w0:World) (fn:FuncId) (sv:Value) (Bs l D:Nat) (ss:List Prt) (W:World):Prop where
 box: ∃v,W.heap[Bs]? =some (.cells #[v] 26 (0,0))∧W.ownsRow w0.heap.size 52 6 v ss.length (ss.flatMap Prt.cells)
 L:W.heap[l]? =some (.loop (apPrtRec fn sv Bs D .ready none))
 K:W.heap[D]? =some (.deferred (some []))
 below:Below w0.heap.size w0 W
theorem apPrt_abides (w0:World) (fn:FuncId) (sv:Value) (Bs l D B:Nat) (hB:w0.heap.size≤B):AbidesFrom B (ApPrt w0 fn sv Bs l D):=fun s W W' row h hg hrow=>by
 have hrow': ∀r,row=some r→ ∃o:Obj,W.heap[r]? =some o∧o.isWalk=true:=fun r e=>(hrow r e).2
 obtain ⟨v,hv,hr⟩:=h.box
 exact ⟨⟨v,(grownBy_keeps hg hrow' hv rfl).trans hv,oR_abides hr hg hrow'⟩,(grownBy_keeps hg hrow' h.L rfl).trans h.L,(grownBy_keeps hg hrow' h.K rfl).trans h.K,
  h.below.grown hg h.below.size (fun k e=>Nat.le_trans hB (hrow k e).1)⟩
set_option maxRecDepth 100000 in
set_option maxHeartbeats 4000000 in
theorem apPrt_yield (F:Fence) (m:Nat) (w0:World) (fn:FuncId) (hfn:F.fn fn) (sv:Value) (Bs l D:Nat) (hBl:Bs≠l) (hDl:D≠l) (hDB:D≠Bs) (h0B:w0.heap.size≤Bs) (h0l:w0.heap.size≤l)
  (N:Nat) (hN:N≤4194304) (ss:List Prt) (x:Prt) (W:World) (h:ApPrt w0 fn sv Bs l D ss W) (hlen:ss.length <N):
  YieldAt F m Tryz.prog l #[.agg #[.int .u16 x.id, .int .u16 x.part, .string x.name, .bool x.output, .bool x.queuing, .int .u32 x.size]] W fun e W'=>e= .returned (.bool true)∧ApPrt w0 fn sv Bs l D (ss++ [x]) W'∧KeepsWalks W W':=by
 obtain ⟨i0,hi,hz0,hz1,hz2⟩:=info_parts infoPort
 obtain ⟨v,hv,hrow⟩:=h.box
 refine ⟨fn,#[.slice none 0 0,sv, .pointer (some ⟨Bs,0,none⟩),undef, .slice none 0 0,undef,sv,(.agg #[.int .u16 x.id, .int .u16 x.part, .string x.name, .bool x.output, .bool x.queuing, .int .u32 x.size]),undef,undef,undef,undef,undef],apPrtAssign,apPrtBody,by simpa [apPrtRec] using run_yield (P:=Tryz.prog) (args:= #[(.agg #[.int .u16 x.id, .int .u16 x.part, .string x.name, .bool x.output, .bool x.queuing, .int .u32 x.size])]) h.L rfl,roundIn_of_wpIn hfn ?_⟩
 obtain ⟨Wa,hWa⟩: ∃Wa,W.alloc (.cells #[.int .u16 x.id, .int .u16 x.part, .string x.name, .bool x.output, .bool x.queuing, .int .u32 x.size] 52)=Wa:=⟨_,rfl⟩
 have hbxa:Blk Wa W.heap.size 52 #[.int .u16 x.id, .int .u16 x.part, .string x.name, .bool x.output, .bool x.queuing, .int .u32 x.size]:=by rw [←hWa];exact Blk.new W 52 #[.int .u16 x.id, .int .u16 x.part, .string x.name, .bool x.output, .bool x.queuing, .int .u32 x.size]
 have old: ∀k,k <W.heap.size→Wa.heap[k]? =W.heap[k]? :=fun k hk=>by rw [←hWa];exact Below.heap_alloc _ _ k hk
 have hva:=(old Bs (Array.getElem?_eq_some_iff.1 hv).1).trans hv
 have hKa:=(old D (Array.getElem?_eq_some_iff.1 h.K).1).trans h.K
 have hLa:=(old l (Array.getElem?_eq_some_iff.1 h.L).1).trans h.L
 have hrowa:Wa.ownsRow w0.heap.size 52 6 v ss.length (ss.flatMap Prt.cells):=by rw [←hWa];exact hrow.alloc _
 have hba:Below w0.heap.size w0 Wa:=by rw [←hWa];exact h.below.alloc h.below.size _
 have hka:KeepsWalks W Wa:=by rw [←hWa];exact KeepsWalks.alloc _ _
 have hl:l <Wa.heap.size:=(Array.getElem?_eq_some_iff.1 hLa).1
 have hne:l≠W.heap.size:=by have:=(Array.getElem?_eq_some_iff.1 h.L).1;omega
 have hbr:=run_beginRound (P:=Tryz.prog) hLa rfl
 obtain ⟨W3,hW3⟩: ∃W3,Wa.putObj l (.loop {apPrtRec fn sv Bs D .ready none with state:= .busy})=W3:=⟨_,rfl⟩
 rw [hW3] at hbr
 have hg3:Wa.grownBy W3 (some l):=by rw [←hW3];exact gB_putObj _ _ _
 have hk3:KeepsWalks W W3:=hka.trans (by rw [←hW3];exact KeepsWalks.putObj _ hLa rfl)
 have hv3:W3.heap[Bs]? =some (.cells #[v] 26 (0,0)):=by rw [←hW3];exact (World.putObj_heap_other hBl).trans hva
 have hK3:W3.heap[D]? =some (.deferred (some [])):=by rw [←hW3];exact (World.putObj_heap_other hDl).trans hKa
 have hL3:W3.heap[l]? =some (.loop {apPrtRec fn sv Bs D .ready none with state:= .busy}):=by rw [←hW3];exact World.putObj_heap_same hl
 have hrow3:W3.ownsRow w0.heap.size 52 6 v ss.length (ss.flatMap Prt.cells):=hrowa.kept hg3 (oR_ne hrowa hLa (fun cur e=>by first |cases e |exact absurd (Obj.cells.inj e).2.1 (by decide)))
 have hb3:Below w0.heap.size w0 W3:=hba.grown hg3 hba.size (fun k e=>by cases e;exact h0l)
 have hbx:Blk W3 W.heap.size 52 #[.int .u16 x.id, .int .u16 x.part, .string x.name, .bool x.output, .bool x.queuing, .int .u32 x.size]:=(hg3.block W.heap.size hbxa.lt (fun e=>hne (by cases e;rfl))).trans hbxa
 clear hW3
 unfold apPrtAssign
 gi_wp2_with ((rw [Oper.semAt_eq _ _ _ (fun c h=>by cases h)];go_simp;try go_bits))
 clear hv hrow hva hKa hLa hrowa hba hka hl hne hbr hg3 hbxa old hWa
 generalize W.heap.size=bx at hbx ⊢
 have x0:=hbx.cell 0
 have x1:=hbx.cell 1
 have x2:=hbx.cell 2
 have x3:=hbx.cell 3
 have x4:=hbx.cell 4
 have x5:=hbx.cell 5
 simp at x0 x1 x2 x3 x4 x5
 have hbl:=hbx.lt
 obtain ⟨hc2,hf2⟩:=c_of_box hv3
 have hBlt:Bs <W3.heap.size:=(Array.getElem?_eq_some_iff.1 hv3).1
 have hl2:l <W3.heap.size:=(Array.getElem?_eq_some_iff.1 hL3).1
 have hDlt:D <W3.heap.size:=(Array.getElem?_eq_some_iff.1 hK3).1
 have ne_of: ∀ {j:Nat} {o:Obj},W3.heap[j]? =some o→(∀cur,o≠ .cells cur 52 (0,0))→some j≠v.ownBlock:=fun hj hno=>by
  rcases oR_ne hrow3 hj hno with e |e
  ·rw [e];simp
  ·exact fun e'=>e e'.symm
 clear hbx
 unfold apPrtBody
 gi_wp2_with (first
  |(gi_at_builtin;refine wpListIn_append_own _ rfl _ _ 26 rfl w0.heap.size 52 i0 (.agg #[.int .u16 0, .int .u16 0, .string .empty, .bool false, .bool false, .int .u32 0]) 6 32 Tryz.underlying26 hi hz0 hz1 hz2 rfl (by decide) _ _ _ rfl (hrow3.alloc _) ⟨W3.heap.size,0,none⟩ 1 1 [.int .u16 x.id, .int .u16 x.part, .string x.name, .bool x.output, .bool x.queuing, .int .u32 x.size] rfl rfl (World.news_of_block (heap_alloc_new W3 _)) (by simp [Value.oneCell']) (by unfold maxLen;omega) (by omega) (by have:=hb3.size;simp;omega) ?_;intro v' w3 hown' hg3 hnil3
    have hv4:w3.heap[Bs]? =some (.cells #[v] 26 (0,0)):=(hg3.block Bs (by simp;omega) (ne_of hv3 (fun cur e=>by first |cases e |exact absurd (Obj.cells.inj e).2.1 (by decide)))).trans ((Below.heap_alloc _ _ Bs hBlt).trans hv3)
    obtain ⟨hc3,hf3⟩:=c_of_box hv4
    obtain ⟨g',cap',cur',rfl,hbase',hgb',hr1,hr2,hr3,hr4⟩: ∃g' cap' cur',v'= .slice (some ⟨g',0,none⟩) (ss.length+1) cap'∧w0.heap.size≤g'∧w3.heap[g']? =some (.cells cur' 52 (0,0))∧ss.length+1≤cap'∧cap'≤maxLen∧cur'.size=cap'*6∧cur'.toList.take ((ss.length+1)*6)=ss.flatMap Prt.cells++ [.int .u16 x.id, .int .u16 x.part, .string x.name, .bool x.output, .bool x.queuing, .int .u32 x.size]:=by
     rcases hown'.2 with ⟨_,h0⟩ |h'
     ·exact absurd h0 (by omega)
     ·exact h'
    go_frame)
  |((rw [Oper.semAt_eq _ _ _ (fun c h=>by cases h)];go_simp;try go_bits)))
 have hg3':(W3.alloc (.cells #[.int .u16 x.id, .int .u16 x.part, .string x.name, .bool x.output, .bool x.queuing, .int .u32 x.size] 52)).grownBy w3 v.ownBlock:=hg3
 have hL4:w3.heap[l]? =some (.loop {apPrtRec fn sv Bs D .ready none with state:= .busy}):=(hg3'.block l (by simp;omega) (ne_of hL3 (fun cur e=>by first |cases e |exact absurd (Obj.cells.inj e).2.1 (by decide)))).trans ((Below.heap_alloc _ _ l hl2).trans hL3)
 have hK4:w3.heap[D]? =some (.deferred (some [])):=(hg3'.block D (by simp;omega) (ne_of hK3 (fun cur e=>by first |cases e |exact absurd (Obj.cells.inj e).2.1 (by decide)))).trans ((Below.heap_alloc _ _ D hDlt).trans hK3)
 obtain ⟨w4,hw4⟩: ∃w4,w3.setCell ⟨Bs,0,none⟩ (.slice (some ⟨g',0,none⟩) (ss.length+1) cap')=w4:=⟨_,rfl⟩
 rw [hw4]
 have hg4:w3.grownBy w4 (some Bs):=by rw [←hw4];exact gB_setCell0 _ _ _
 have hv5:w4.heap[Bs]? =some (.cells #[.slice (some ⟨g',0,none⟩) (ss.length+1) cap'] 26 (0,0)):=by rw [←hw4];exact h_setCell_box _ hv4
 have hL5:w4.heap[l]? =some (.loop {apPrtRec fn sv Bs D .ready none with state:= .busy}):=(hg4.block l (Array.getElem?_eq_some_iff.1 hL4).1 (fun e=>hBl (by cases e;rfl))).trans hL4
 have hK5:w4.heap[D]? =some (.deferred (some [])):=(hg4.block D (Array.getElem?_eq_some_iff.1 hK4).1 (fun e=>hDB (by cases e;rfl))).trans hK4
 have hrow5:=hown'.kept hg4 (oR_ne hown' hv4 (fun cur e=>by first |cases e |exact absurd (Obj.cells.inj e).2.1 (by decide)))
 have hl5:l <w4.heap.size:=(Array.getElem?_eq_some_iff.1 hL5).1
 have hb4:Below w0.heap.size w0 w3:=(hb3.alloc hb3.size _).grown hg3' (by have:=hb3.size;simp;omega) (fun k e=>(hrow3.lt k e).1)
 have hb5:Below w0.heap.size w0 w4:=hb4.grown hg4 hb4.size (fun k e=>by cases e;exact h0B)
 have hk5:KeepsWalks W w4:=((hk3.trans (KeepsWalks.alloc _ _)).trans (KeepsWalks.of_grownBy hg3' (oR_not_walk (hrow3.alloc _)))).trans (by rw [←hw4];exact KeepsWalks.setCell _ _ _)
 clear hw4
 refine ⟨_,_,run_endRound none hL5,rfl,⟨⟨_,(World.putObj_heap_other hBl).trans hv5, ?_⟩,World.putObj_heap_same hl5,(World.putObj_heap_other hDl).trans hK5,hb5.grown (gB_putObj _ _ _) hb5.size (fun k e=>by cases e;exact h0l)⟩,hk5.trans (KeepsWalks.putObj _ hL5 rfl)⟩
 have:=hrow5.kept (gB_putObj w4 l (.loop {{apPrtRec fn sv Bs D .ready none with state:= .busy} with state:=if (none:Option Code).isNone then .ready else .done,pending:=none})) (oR_ne hrow5 hL5 (fun cur e=>by first |cases e |exact absurd (Obj.cells.inj e).2.1 (by decide)))
 rw [List.flatMap_append,List.length_append]
 simpa [Prt.cells] using this
set_option maxRecDepth 100000 in
set_option maxHeartbeats 2000000 in
theorem apPrt_in (F:Fence) (n:Nat) (h11:F.fn 182) (hro:F.round=none) (hn:2≤n) (g:Nat) (lb:Array Value) (hFg:F.fn g) (eg: ∀args w,(callFunc g args).run Tryz.prog w= .ok (.enter g args) w)
  (xs:List Prt) (hN:xs.length≤4194304) (w:World) (hseq:SeqB F (n -1) Tryz.prog g lb (fun x:Prt=>Value.agg #[.int .u16 x.id, .int .u16 x.part, .string x.name, .bool x.output, .bool x.queuing, .int .u32 x.size]) xs w):
  CallsIn F n Tryz.prog 182 #[.slice none 0 0, .func (.func g) #[] lb] w fun e w'=> ∃(v:Value),e= .returned v∧w'.ownsRow w.heap.size 52 6 v xs.length (xs.flatMap Prt.cells)∧Below w.heap.size w w':=by
 have h1:1≤n:=by omega
 refine callsIn_of_wp_marks Tryz.func182 rfl h11 ?_ hro
 simp only [Tryz.ntmps182,List.size_toArray,List.length_cons,List.length_nil,Nat.reduceAdd,Nat.reduceSub,Array.replicate_succ,Array.replicate_zero,List.push_toArray,List.append_toArray,List.nil_append,List.cons_append]
 gi_wp2
 refine wpIn_rangeFunc ?_
 intro fn hfn
 rw [hro]
 obtain ⟨W0,hW0⟩: ∃W0,w.alloc (.cells #[.slice none 0 0] 26)=W0:=⟨_,rfl⟩
 have hs0:W0.heap.size=w.heap.size+1:=by rw [←hW0];simp
 have hv0:W0.heap[w.heap.size]? =some (.cells #[.slice none 0 0] 26 (0,0)):=by rw [←hW0];exact World.alloc_heap_new w _
 have hb0:Below w.heap.size w W0:=by rw [←hW0];exact (Below.refl _ w).alloc (Nat.le_refl _) _
 rw [hW0]
 obtain ⟨W1,hW1⟩: ∃W1,(W0.alloc (.deferred (some []))).alloc (.loop (apPrtRec fn (.func (.func g) #[] lb) w.heap.size W0.heap.size .ready none))=W1:=⟨_,rfl⟩
 have hold: ∀k,k <W0.heap.size→W1.heap[k]? =W0.heap[k]? :=fun k hk=>by
  rw [←hW1];exact (Below.heap_alloc _ _ k (by simp;omega)).trans (Below.heap_alloc _ _ k hk)
 have hb1:Below w.heap.size w W1:=by rw [←hW1];exact (hb0.alloc hb0.size _).alloc (by have:=hb0.size;simp;omega) _
 have hs1:W1.heap.size=W0.heap.size+2:=by rw [←hW1];simp
 have hM:ApPrt w fn (.func (.func g) #[] lb) w.heap.size (W0.heap.size+1) W0.heap.size [] W1:=
  ⟨⟨_,(hold w.heap.size (by omega)).trans hv0,⟨rfl, .inl ⟨rfl,rfl⟩⟩⟩,
   by rw [←hW1];have:=World.alloc_heap_new (W0.alloc (.deferred (some []))) (.loop (apPrtRec fn (.func (.func g) #[] lb) w.heap.size W0.heap.size .ready none));rwa [World.size_alloc] at this,
   by rw [←hW1];exact (Below.heap_alloc _ _ _ (by simp)).trans (World.alloc_heap_new W0 _),hb1⟩
 refine ⟨W0.heap.size+1,[{target:= .collected W0.heap.size,args:= #[]}],W1,{target:= .fn (.func g) lb,args:= #[.func (.yield (W0.heap.size+1)) #[] #[]]},W1,g,
  #[.func (.yield (W0.heap.size+1)) #[] #[]]++lb,W1, ?_, ?_, ?_, ?_,fun _=>h1, ?_⟩
 ·rw [←hW1];exact run_enterLoop_outer _ _ _ _ _
 ·simp [resolve,go_sem]
 ·intro f' hf';simp [Target.leads] at hf';subst hf';exact hFg
 ·simp [invoke,go_sem,eg]
 ·refine (hseq (W0.heap.size+1) (ApPrt w fn (.func (.func g) #[] lb) w.heap.size (W0.heap.size+1) W0.heap.size) W1 hb1 (apPrt_abides _ _ _ _ _ _ _ hb1.size) (fun pre W1 h=>h.below)
   (fun pre x W hJ hl=>apPrt_yield F (n -1 -1) w fn hfn _ w.heap.size (W0.heap.size+1) W0.heap.size (by omega) (by omega) (by omega) (Nat.le_refl _) (by omega) xs.length hN pre x W hJ hl) hM).mono ?_
  rintro e W2 ⟨⟨v0,rfl⟩,h2⟩
  obtain ⟨v,hv,hrow⟩:=h2.box
  have hend:=run_endLoop (P:=Tryz.prog) h2.L (by simp [apPrtRec])
  obtain ⟨W3,hW3⟩: ∃W3,W2.putObj (W0.heap.size+1) (.loop {apPrtRec fn (.func (.func g) #[] lb) w.heap.size W0.heap.size .ready none with state:= .exhausted})=W3:=⟨_,rfl⟩
  rw [hW3] at hend
  have hg3:W2.grownBy W3 (some (W0.heap.size+1)):=by rw [←hW3];exact gB_putObj _ _ _
  have hv3:W3.heap[w.heap.size]? =some (.cells #[v] 26 (0,0)):=by rw [←hW3];exact (World.putObj_heap_other (by omega)).trans hv
  have hK3:W3.heap[W0.heap.size]? =some (.deferred (some [])):=by rw [←hW3];exact (World.putObj_heap_other (by omega)).trans h2.K
  have hrow3:=hrow.kept hg3 (oR_ne hrow h2.L (fun cur e=>by first |cases e |exact absurd (Obj.cells.inj e).2.1 (by decide)))
  have hb3:Below w.heap.size w W3:=h2.below.grown hg3 h2.below.size (fun k e=>by cases e;omega)
  obtain ⟨hc3,hf3⟩:=c_of_box hv3
  clear hW3
  refine ⟨none,W3,hend, ?_⟩
  gi_wp2
  rw [←hs0]
  refine ⟨by simp, .inl ⟨_,_,rfl,run_takeDeferred hK3, ?_⟩⟩
  exact ⟨_,results_tmp rfl _ _ _,v,rfl,hrow3.kept (gB_putObj _ _ _) (oR_ne hrow3 hK3 (fun cur e=>by first |cases e |exact absurd (Obj.cells.inj e).2.1 (by decide))),hb3.grown (gB_putObj _ _ _) hb3.size (fun k e=>by cases e;omega)⟩
set_option maxRecDepth 100000 in
set_option maxHeartbeats 1000000 in
theorem collPrt_in (F:Fence) (n:Nat) (h8:F.fn 160) (h11:F.fn 182) (hro:F.round=none) (hn:3≤n) (g:Nat) (lb:Array Value) (hFg:F.fn g) (eg: ∀args w,(callFunc g args).run Tryz.prog w= .ok (.enter g args) w)
  (xs:List Prt) (hN:xs.length≤4194304) (w:World) (hseq:SeqB F (n -1 -1) Tryz.prog g lb (fun x:Prt=>Value.agg #[.int .u16 x.id, .int .u16 x.part, .string x.name, .bool x.output, .bool x.queuing, .int .u32 x.size]) xs w):
  CallsIn F n Tryz.prog 160 #[.func (.func g) #[] lb] w fun e w'=> ∃(v:Value),e= .returned v∧w'.ownsRow w.heap.size 52 6 v xs.length (xs.flatMap Prt.cells)∧Below w.heap.size w w':=by
 have h1:1≤n:=by omega
 refine callsIn_of_wp Tryz.func160 rfl h8 ?_ hro
 simp only [Tryz.ntmps160,List.size_toArray,List.length_cons,List.length_nil,Nat.reduceAdd,Nat.reduceSub,Array.replicate_succ,Array.replicate_zero,List.push_toArray,List.append_toArray,List.nil_append,List.cons_append]
 gi_wp2_with (gi_at_call 182;refine (apPrt_in F (n -1) h11 hro (by omega) g lb hFg eg xs hN _ hseq).mono ?_;rintro e w' ⟨v,rfl,hrow,hb⟩)
 go_ret
 exact ⟨v,rfl,hrow,hb⟩
set_option maxRecDepth 100000 in
set_option maxHeartbeats 1000000 in
theorem valsPrt_ok (A:Option Addr) (k c:Nat) (w:World):Calls Tryz.prog 118 #[.slice A k c] w fun e w'=>e= .returned (.func (.func 162) #[] #[.pointer (some ⟨w.heap.size,0,none⟩)])∧w'=w.alloc (.cells #[.slice A k c] 26):=by
 go_enter Tryz.func118,Tryz.ntmps118
 go_wp2
 go_ret
 exact ⟨rfl,rfl⟩
theorem collPrt_ok (Bm:Nat) (xs:List Prt) (A:Option Addr) (c:Nat) (w:World) (hl:xs.length≤4194304) (hBm:Bm <w.heap.size) (hm:w.cell? ⟨Bm,0,none⟩=some (.slice A xs.length c)) (hR:Rd w w.heap.size 6 A xs.length (xs.flatMap Prt.cells)):
  Calls Tryz.prog 160 #[.func (.func 162) #[] #[.pointer (some ⟨Bm,0,none⟩)]] w fun e w'=> ∃(v:Value),e= .returned v∧w'.ownsRow w.heap.size 52 6 v xs.length (xs.flatMap Prt.cells)∧Below w.heap.size w w':=by
 have hseq:=valsPrt_in Fence.wide 1 trivial rfl (Nat.le_refl _) Bm xs A c w hl hBm hm hR
 exact callsIn_wide.1 (collPrt_in Fence.wide 3 trivial trivial rfl (Nat.le_refl _) 162 _ trivial (enters_of Tryz.func162 (by kernel_rfl) rfl) xs hl w hseq)
end Go.Proofs.YteelncofiodflaaGreat
namespace Go.Proofs.YteelncofiodflaaGreat
open Go.RowKit Go.Maps Go.Shelf
set_option maxRecDepth 100000 in
set_option maxHeartbeats 2000000 in
theorem valsChn_in (F:Fence) (n:Nat) (h10:F.fn 166) (hro:F.round=none) (hn:1≤n) (Bm:Nat) (xs:List CE) (A:Option Addr) (c:Nat) (w:World) (hl:xs.length≤4194304) (hBm:Bm <w.heap.size) (hm:w.cell? ⟨Bm,0,none⟩=some (.slice A xs.length c)) (hR:Rd w w.heap.size 3 A xs.length (xs.flatMap CE.cells)):
  SeqB F n Tryz.prog 166 #[.pointer (some ⟨Bm,0,none⟩)] (fun x:CE=>Value.agg #[.int .u16 x.x.id, .int .u16 x.x.source, .slice x.A x.x.dests.length x.c]) xs w:=fun l J W hW hJ hJB hY h0=>by
 have hm':=(hW.cell (p:=⟨Bm,0,none⟩) hBm).trans hm
 refine callsIn_of_wp Tryz.func166 rfl h10 ?_ hro
 simp only [Tryz.ntmps166,List.size_toArray,List.length_cons,List.length_nil,Nat.reduceAdd,Nat.reduceSub,Array.replicate_succ,Array.replicate_zero,List.push_toArray,List.append_toArray,List.nil_append,List.cons_append]
 gi_wp2
 gi_loopw [7] (fun i wr=> ∃k:Nat,k≤xs.length∧i= .int .i64 k∧J (xs.take k) wr∧Below W.heap.size W W) (fun i _=>xs.length -(intOf i).toNat)
 case atStart=>exact ⟨0,Nat.zero_le _,rfl,by simpa using h0,Below.refl _ _⟩
 case round=>
  obtain ⟨k,hk,rfl,hJs,_⟩:=hrel
  by_cases hlt:k <xs.length
  ·obtain ⟨x,hx⟩:=get_lt hlt
   obtain ⟨b,o,rfl,hb,g0,g1,g2⟩:=ce_at (hR.below (hJB _ _ hJs)) hx
   have k0:(0:Int)≤(k:Int):=by omega
   have k1:(k:Int) <(xs.length:Int):=by omega
   have HX:=Lib.hid (take_next hx)
   have hW1:J (xs.take k) (wr.alloc (.cells #[.int .u16 x.x.id, .int .u16 x.x.source, .slice x.A x.x.dests.length x.c] 57)):=hJ _ wr _ none hJs (gB_alloc _ _) (fun r e=>by cases e)
   have hlk:(xs.take k).length <xs.length:=by rw [List.length_take];omega
   obtain ⟨fn,tmps,assign,body,hy,hRd⟩:=hY (xs.take k) x _ hW1 hlk
   clear hx hlk
   gi_wp2
   refine hRd.mono ?_
   rintro e W3 ⟨rfl,hJ3,hk3⟩
   gi_wp2
   go_roundw
   case rel=>exact ⟨k+1,by omega,by first |rfl |go_num |simp,by rw [HX.out];exact hJ3,Below.refl _ _⟩
   case measure=>simp [intOf];omega
  ·obtain rfl:k=xs.length:=by omega
   rw [List.take_length] at hJs
   gi_wp2
   go_end0
   exact ⟨⟨_,rfl⟩,hJs⟩
def apChnAssign : Code := (Code.region 2 #[{ dst := some 5, op := Op.alloc 57, type := 0, pos := "iter.go:51", after := #[], guard := none }, { dst := none, op := Op.store 57 (Operand.tmp 5) (Operand.tmp 7), type := 0, pos := "iter.go:51", after := #[{ on := 0, ground := Ground.data }, { on := 0, ground := Ground.phase }], guard := none }] false)
def apChnBody : Code := (Code.block 1 (Code.region 3 #[{ dst := some 8, op := Op.load 27 (Operand.tmp 2), type := 27, pos := "iter.go:52", after := #[], guard := none }, { dst := some 9, op := Op.load 57 (Operand.tmp 5), type := 57, pos := "iter.go:52", after := #[], guard := none }, { dst := some 10, op := Op.buildSlice 27 1 #[(0, Operand.tmp 9)], type := 27, pos := "iter.go:52", after := #[{ on := 1, ground := Ground.data }], guard := none }, { dst := some 11, op := Op.call { callee := Callee.builtin Builtin.append, args := #[Operand.tmp 8, Operand.tmp 10], argTypes := #[27, 27] }, type := 27, pos := "iter.go:52", after := #[{ on := 0, ground := Ground.data }, { on := 2, ground := Ground.data }], guard := none }, { dst := none, op := Op.store 27 (Operand.tmp 2) (Operand.tmp 11), type := 0, pos := "iter.go:52", after := #[{ on := 3, ground := Ground.data }, { on := 3, ground := Ground.chain }, { on := 0, ground := Ground.phase }, { on := 1, ground := Ground.phase }, { on := 2, ground := Ground.phase }, { on := 3, ground := Ground.phase }], guard := none }] false))
def apChnRec (fn:FuncId) (sv:Value) (Bs D:Nat) (st:LoopState) (pend:Option Code):Loop:=
 {state:=st,pending:=pend,fn,tmps:= #[.slice none 0 0,sv, .pointer (some ⟨Bs,0,none⟩),undef, .slice none 0 0,undef,sv,undef,undef,undef,undef,undef,undef],params:= #[7],assign:=apChnAssign,body:=apChnBody,defers:=D}
structure ApChn (w0:World) (fn:FuncId) (sv:Value) (Bs l D:Nat) (ss:List CE) (W:World):Prop where
 box: ∃v,W.heap[Bs]? =some (.cells #[v] 27 (0,0))∧W.ownsRow w0.heap.size 57 3 v ss.length (ss.flatMap CE.cells)
 L:W.heap[l]? =some (.loop (apChnRec fn sv Bs D .ready none))
 K:W.heap[D]? =some (.deferred (some []))
 below:Below w0.heap.size w0 W
theorem apChn_abides (w0:World) (fn:FuncId) (sv:Value) (Bs l D B:Nat) (hB:w0.heap.size≤B):AbidesFrom B (ApChn w0 fn sv Bs l D):=fun s W W' row h hg hrow=>by
 have hrow': ∀r,row=some r→ ∃o:Obj,W.heap[r]? =some o∧o.isWalk=true:=fun r e=>(hrow r e).2
 obtain ⟨v,hv,hr⟩:=h.box
 exact ⟨⟨v,(grownBy_keeps hg hrow' hv rfl).trans hv,oR_abides hr hg hrow'⟩,(grownBy_keeps hg hrow' h.L rfl).trans h.L,(grownBy_keeps hg hrow' h.K rfl).trans h.K,
  h.below.grown hg h.below.size (fun k e=>Nat.le_trans hB (hrow k e).1)⟩
set_option maxRecDepth 100000 in
set_option maxHeartbeats 4000000 in
theorem apChn_yield (F:Fence) (m:Nat) (w0:World) (fn:FuncId) (hfn:F.fn fn) (sv:Value) (Bs l D:Nat) (hBl:Bs≠l) (hDl:D≠l) (hDB:D≠Bs) (h0B:w0.heap.size≤Bs) (h0l:w0.heap.size≤l)
  (N:Nat) (hN:N≤4194304) (ss:List CE) (x:CE) (W:World) (h:ApChn w0 fn sv Bs l D ss W) (hlen:ss.length <N):
  YieldAt F m Tryz.prog l #[.agg #[.int .u16 x.x.id, .int .u16 x.x.source, .slice x.A x.x.dests.length x.c]] W fun e W'=>e= .returned (.bool true)∧ApChn w0 fn sv Bs l D (ss++ [x]) W'∧KeepsWalks W W':=by
 obtain ⟨i0,hi,hz0,hz1,hz2⟩:=info_parts infoChannel
 obtain ⟨v,hv,hrow⟩:=h.box
 refine ⟨fn,#[.slice none 0 0,sv, .pointer (some ⟨Bs,0,none⟩),undef, .slice none 0 0,undef,sv,(.agg #[.int .u16 x.x.id, .int .u16 x.x.source, .slice x.A x.x.dests.length x.c]),undef,undef,undef,undef,undef],apChnAssign,apChnBody,by simpa [apChnRec] using run_yield (P:=Tryz.prog) (args:= #[(.agg #[.int .u16 x.x.id, .int .u16 x.x.source, .slice x.A x.x.dests.length x.c])]) h.L rfl,roundIn_of_wpIn hfn ?_⟩
 obtain ⟨Wa,hWa⟩: ∃Wa,W.alloc (.cells #[.int .u16 x.x.id, .int .u16 x.x.source, .slice x.A x.x.dests.length x.c] 57)=Wa:=⟨_,rfl⟩
 have hbxa:Blk Wa W.heap.size 57 #[.int .u16 x.x.id, .int .u16 x.x.source, .slice x.A x.x.dests.length x.c]:=by rw [←hWa];exact Blk.new W 57 #[.int .u16 x.x.id, .int .u16 x.x.source, .slice x.A x.x.dests.length x.c]
 have old: ∀k,k <W.heap.size→Wa.heap[k]? =W.heap[k]? :=fun k hk=>by rw [←hWa];exact Below.heap_alloc _ _ k hk
 have hva:=(old Bs (Array.getElem?_eq_some_iff.1 hv).1).trans hv
 have hKa:=(old D (Array.getElem?_eq_some_iff.1 h.K).1).trans h.K
 have hLa:=(old l (Array.getElem?_eq_some_iff.1 h.L).1).trans h.L
 have hrowa:Wa.ownsRow w0.heap.size 57 3 v ss.length (ss.flatMap CE.cells):=by rw [←hWa];exact hrow.alloc _
 have hba:Below w0.heap.size w0 Wa:=by rw [←hWa];exact h.below.alloc h.below.size _
 have hka:KeepsWalks W Wa:=by rw [←hWa];exact KeepsWalks.alloc _ _
 have hl:l <Wa.heap.size:=(Array.getElem?_eq_some_iff.1 hLa).1
 have hne:l≠W.heap.size:=by have:=(Array.getElem?_eq_some_iff.1 h.L).1;omega
 have hbr:=run_beginRound (P:=Tryz.prog) hLa rfl
 obtain ⟨W3,hW3⟩: ∃W3,Wa.putObj l (.loop {apChnRec fn sv Bs D .ready none with state:= .busy})=W3:=⟨_,rfl⟩
 rw [hW3] at hbr
 have hg3:Wa.grownBy W3 (some l):=by rw [←hW3];exact gB_putObj _ _ _
 have hk3:KeepsWalks W W3:=hka.trans (by rw [←hW3];exact KeepsWalks.putObj _ hLa rfl)
 have hv3:W3.heap[Bs]? =some (.cells #[v] 27 (0,0)):=by rw [←hW3];exact (World.putObj_heap_other hBl).trans hva
 have hK3:W3.heap[D]? =some (.deferred (some [])):=by rw [←hW3];exact (World.putObj_heap_other hDl).trans hKa
 have hL3:W3.heap[l]? =some (.loop {apChnRec fn sv Bs D .ready none with state:= .busy}):=by rw [←hW3];exact World.putObj_heap_same hl
 have hrow3:W3.ownsRow w0.heap.size 57 3 v ss.length (ss.flatMap CE.cells):=hrowa.kept hg3 (oR_ne hrowa hLa (fun cur e=>by first |cases e |exact absurd (Obj.cells.inj e).2.1 (by decide)))
 have hb3:Below w0.heap.size w0 W3:=hba.grown hg3 hba.size (fun k e=>by cases e;exact h0l)
 have hbx:Blk W3 W.heap.size 57 #[.int .u16 x.x.id, .int .u16 x.x.source, .slice x.A x.x.dests.length x.c]:=(hg3.block W.heap.size hbxa.lt (fun e=>hne (by cases e;rfl))).trans hbxa
 clear hW3
 unfold apChnAssign
 gi_wp2_with ((rw [Oper.semAt_eq _ _ _ (fun c h=>by cases h)];go_simp;try go_bits))
 clear hv hrow hva hKa hLa hrowa hba hka hl hne hbr hg3 hbxa old hWa
 generalize W.heap.size=bx at hbx ⊢
 have x0:=hbx.cell 0
 have x1:=hbx.cell 1
 have x2:=hbx.cell 2
 simp at x0 x1 x2
 have hbl:=hbx.lt
 obtain ⟨hc2,hf2⟩:=c_of_box hv3
 have hBlt:Bs <W3.heap.size:=(Array.getElem?_eq_some_iff.1 hv3).1
 have hl2:l <W3.heap.size:=(Array.getElem?_eq_some_iff.1 hL3).1
 have hDlt:D <W3.heap.size:=(Array.getElem?_eq_some_iff.1 hK3).1
 have ne_of: ∀ {j:Nat} {o:Obj},W3.heap[j]? =some o→(∀cur,o≠ .cells cur 57 (0,0))→some j≠v.ownBlock:=fun hj hno=>by
  rcases oR_ne hrow3 hj hno with e |e
  ·rw [e];simp
  ·exact fun e'=>e e'.symm
 clear hbx
 unfold apChnBody
 gi_wp2_with (first
  |(gi_at_builtin;refine wpListIn_append_own _ rfl _ _ 27 rfl w0.heap.size 57 i0 (.agg #[.int .u16 0, .int .u16 0, .slice none 0 0]) 3 32 Tryz.underlying27 hi hz0 hz1 hz2 rfl (by decide) _ _ _ rfl (hrow3.alloc _) ⟨W3.heap.size,0,none⟩ 1 1 [.int .u16 x.x.id, .int .u16 x.x.source, .slice x.A x.x.dests.length x.c] rfl rfl (World.news_of_block (heap_alloc_new W3 _)) (by simp [Value.oneCell']) (by unfold maxLen;omega) (by omega) (by have:=hb3.size;simp;omega) ?_;intro v' w3 hown' hg3 hnil3
    have hv4:w3.heap[Bs]? =some (.cells #[v] 27 (0,0)):=(hg3.block Bs (by simp;omega) (ne_of hv3 (fun cur e=>by first |cases e |exact absurd (Obj.cells.inj e).2.1 (by decide)))).trans ((Below.heap_alloc _ _ Bs hBlt).trans hv3)
    obtain ⟨hc3,hf3⟩:=c_of_box hv4
    obtain ⟨g',cap',cur',rfl,hbase',hgb',hr1,hr2,hr3,hr4⟩: ∃g' cap' cur',v'= .slice (some ⟨g',0,none⟩) (ss.length+1) cap'∧w0.heap.size≤g'∧w3.heap[g']? =some (.cells cur' 57 (0,0))∧ss.length+1≤cap'∧cap'≤maxLen∧cur'.size=cap'*3∧cur'.toList.take ((ss.length+1)*3)=ss.flatMap CE.cells++ [.int .u16 x.x.id, .int .u16 x.x.source, .slice x.A x.x.dests.length x.c]:=by
     rcases hown'.2 with ⟨_,h0⟩ |h'
     ·exact absurd h0 (by omega)
     ·exact h'
    go_frame)
  |((rw [Oper.semAt_eq _ _ _ (fun c h=>by cases h)];go_simp;try go_bits)))
 have hg3':(W3.alloc (.cells #[.int .u16 x.x.id, .int .u16 x.x.source, .slice x.A x.x.dests.length x.c] 57)).grownBy w3 v.ownBlock:=hg3
 have hL4:w3.heap[l]? =some (.loop {apChnRec fn sv Bs D .ready none with state:= .busy}):=(hg3'.block l (by simp;omega) (ne_of hL3 (fun cur e=>by first |cases e |exact absurd (Obj.cells.inj e).2.1 (by decide)))).trans ((Below.heap_alloc _ _ l hl2).trans hL3)
 have hK4:w3.heap[D]? =some (.deferred (some [])):=(hg3'.block D (by simp;omega) (ne_of hK3 (fun cur e=>by first |cases e |exact absurd (Obj.cells.inj e).2.1 (by decide)))).trans ((Below.heap_alloc _ _ D hDlt).trans hK3)
 obtain ⟨w4,hw4⟩: ∃w4,w3.setCell ⟨Bs,0,none⟩ (.slice (some ⟨g',0,none⟩) (ss.length+1) cap')=w4:=⟨_,rfl⟩
 rw [hw4]
 have hg4:w3.grownBy w4 (some Bs):=by rw [←hw4];exact gB_setCell0 _ _ _
 have hv5:w4.heap[Bs]? =some (.cells #[.slice (some ⟨g',0,none⟩) (ss.length+1) cap'] 27 (0,0)):=by rw [←hw4];exact h_setCell_box _ hv4
 have hL5:w4.heap[l]? =some (.loop {apChnRec fn sv Bs D .ready none with state:= .busy}):=(hg4.block l (Array.getElem?_eq_some_iff.1 hL4).1 (fun e=>hBl (by cases e;rfl))).trans hL4
 have hK5:w4.heap[D]? =some (.deferred (some [])):=(hg4.block D (Array.getElem?_eq_some_iff.1 hK4).1 (fun e=>hDB (by cases e;rfl))).trans hK4
 have hrow5:=hown'.kept hg4 (oR_ne hown' hv4 (fun cur e=>by first |cases e |exact absurd (Obj.cells.inj e).2.1 (by decide)))
 have hl5:l <w4.heap.size:=(Array.getElem?_eq_some_iff.1 hL5).1
 have hb4:Below w0.heap.size w0 w3:=(hb3.alloc hb3.size _).grown hg3' (by have:=hb3.size;simp;omega) (fun k e=>(hrow3.lt k e).1)
 have hb5:Below w0.heap.size w0 w4:=hb4.grown hg4 hb4.size (fun k e=>by cases e;exact h0B)
 have hk5:KeepsWalks W w4:=((hk3.trans (KeepsWalks.alloc _ _)).trans (KeepsWalks.of_grownBy hg3' (oR_not_walk (hrow3.alloc _)))).trans (by rw [←hw4];exact KeepsWalks.setCell _ _ _)
 clear hw4
 refine ⟨_,_,run_endRound none hL5,rfl,⟨⟨_,(World.putObj_heap_other hBl).trans hv5, ?_⟩,World.putObj_heap_same hl5,(World.putObj_heap_other hDl).trans hK5,hb5.grown (gB_putObj _ _ _) hb5.size (fun k e=>by cases e;exact h0l)⟩,hk5.trans (KeepsWalks.putObj _ hL5 rfl)⟩
 have:=hrow5.kept (gB_putObj w4 l (.loop {{apChnRec fn sv Bs D .ready none with state:= .busy} with state:=if (none:Option Code).isNone then .ready else .done,pending:=none})) (oR_ne hrow5 hL5 (fun cur e=>by first |cases e |exact absurd (Obj.cells.inj e).2.1 (by decide)))
 rw [List.flatMap_append,List.length_append]
 simpa [CE.cells] using this
set_option maxRecDepth 100000 in
set_option maxHeartbeats 2000000 in
theorem apChn_in (F:Fence) (n:Nat) (h11:F.fn 184) (hro:F.round=none) (hn:2≤n) (g:Nat) (lb:Array Value) (hFg:F.fn g) (eg: ∀args w,(callFunc g args).run Tryz.prog w= .ok (.enter g args) w)
  (xs:List CE) (hN:xs.length≤4194304) (w:World) (hseq:SeqB F (n -1) Tryz.prog g lb (fun x:CE=>Value.agg #[.int .u16 x.x.id, .int .u16 x.x.source, .slice x.A x.x.dests.length x.c]) xs w):
  CallsIn F n Tryz.prog 184 #[.slice none 0 0, .func (.func g) #[] lb] w fun e w'=> ∃(v:Value),e= .returned v∧w'.ownsRow w.heap.size 57 3 v xs.length (xs.flatMap CE.cells)∧Below w.heap.size w w':=by
 have h1:1≤n:=by omega
 refine callsIn_of_wp_marks Tryz.func184 rfl h11 ?_ hro
 simp only [Tryz.ntmps184,List.size_toArray,List.length_cons,List.length_nil,Nat.reduceAdd,Nat.reduceSub,Array.replicate_succ,Array.replicate_zero,List.push_toArray,List.append_toArray,List.nil_append,List.cons_append]
 gi_wp2
 refine wpIn_rangeFunc ?_
 intro fn hfn
 rw [hro]
 obtain ⟨W0,hW0⟩: ∃W0,w.alloc (.cells #[.slice none 0 0] 27)=W0:=⟨_,rfl⟩
 have hs0:W0.heap.size=w.heap.size+1:=by rw [←hW0];simp
 have hv0:W0.heap[w.heap.size]? =some (.cells #[.slice none 0 0] 27 (0,0)):=by rw [←hW0];exact World.alloc_heap_new w _
 have hb0:Below w.heap.size w W0:=by rw [←hW0];exact (Below.refl _ w).alloc (Nat.le_refl _) _
 rw [hW0]
 obtain ⟨W1,hW1⟩: ∃W1,(W0.alloc (.deferred (some []))).alloc (.loop (apChnRec fn (.func (.func g) #[] lb) w.heap.size W0.heap.size .ready none))=W1:=⟨_,rfl⟩
 have hold: ∀k,k <W0.heap.size→W1.heap[k]? =W0.heap[k]? :=fun k hk=>by
  rw [←hW1];exact (Below.heap_alloc _ _ k (by simp;omega)).trans (Below.heap_alloc _ _ k hk)
 have hb1:Below w.heap.size w W1:=by rw [←hW1];exact (hb0.alloc hb0.size _).alloc (by have:=hb0.size;simp;omega) _
 have hs1:W1.heap.size=W0.heap.size+2:=by rw [←hW1];simp
 have hM:ApChn w fn (.func (.func g) #[] lb) w.heap.size (W0.heap.size+1) W0.heap.size [] W1:=
  ⟨⟨_,(hold w.heap.size (by omega)).trans hv0,⟨rfl, .inl ⟨rfl,rfl⟩⟩⟩,
   by rw [←hW1];have:=World.alloc_heap_new (W0.alloc (.deferred (some []))) (.loop (apChnRec fn (.func (.func g) #[] lb) w.heap.size W0.heap.size .ready none));rwa [World.size_alloc] at this,
   by rw [←hW1];exact (Below.heap_alloc _ _ _ (by simp)).trans (World.alloc_heap_new W0 _),hb1⟩
 refine ⟨W0.heap.size+1,[{target:= .collected W0.heap.size,args:= #[]}],W1,{target:= .fn (.func g) lb,args:= #[.func (.yield (W0.heap.size+1)) #[] #[]]},W1,g,
  #[.func (.yield (W0.heap.size+1)) #[] #[]]++lb,W1, ?_, ?_, ?_, ?_,fun _=>h1, ?_⟩
 ·rw [←hW1];exact run_enterLoop_outer _ _ _ _ _
 ·simp [resolve,go_sem]
 ·intro f' hf';simp [Target.leads] at hf';subst hf';exact hFg
 ·simp [invoke,go_sem,eg]
 ·refine (hseq (W0.heap.size+1) (ApChn w fn (.func (.func g) #[] lb) w.heap.size (W0.heap.size+1) W0.heap.size) W1 hb1 (apChn_abides _ _ _ _ _ _ _ hb1.size) (fun pre W1 h=>h.below)
   (fun pre x W hJ hl=>apChn_yield F (n -1 -1) w fn hfn _ w.heap.size (W0.heap.size+1) W0.heap.size (by omega) (by omega) (by omega) (Nat.le_refl _) (by omega) xs.length hN pre x W hJ hl) hM).mono ?_
  rintro e W2 ⟨⟨v0,rfl⟩,h2⟩
  obtain ⟨v,hv,hrow⟩:=h2.box
  have hend:=run_endLoop (P:=Tryz.prog) h2.L (by simp [apChnRec])
  obtain ⟨W3,hW3⟩: ∃W3,W2.putObj (W0.heap.size+1) (.loop {apChnRec fn (.func (.func g) #[] lb) w.heap.size W0.heap.size .ready none with state:= .exhausted})=W3:=⟨_,rfl⟩
  rw [hW3] at hend
  have hg3:W2.grownBy W3 (some (W0.heap.size+1)):=by rw [←hW3];exact gB_putObj _ _ _
  have hv3:W3.heap[w.heap.size]? =some (.cells #[v] 27 (0,0)):=by rw [←hW3];exact (World.putObj_heap_other (by omega)).trans hv
  have hK3:W3.heap[W0.heap.size]? =some (.deferred (some [])):=by rw [←hW3];exact (World.putObj_heap_other (by omega)).trans h2.K
  have hrow3:=hrow.kept hg3 (oR_ne hrow h2.L (fun cur e=>by first |cases e |exact absurd (Obj.cells.inj e).2.1 (by decide)))
  have hb3:Below w.heap.size w W3:=h2.below.grown hg3 h2.below.size (fun k e=>by cases e;omega)
  obtain ⟨hc3,hf3⟩:=c_of_box hv3
  clear hW3
  refine ⟨none,W3,hend, ?_⟩
  gi_wp2
  rw [←hs0]
  refine ⟨by simp, .inl ⟨_,_,rfl,run_takeDeferred hK3, ?_⟩⟩
  exact ⟨_,results_tmp rfl _ _ _,v,rfl,hrow3.kept (gB_putObj _ _ _) (oR_ne hrow3 hK3 (fun cur e=>by first |cases e |exact absurd (Obj.cells.inj e).2.1 (by decide))),hb3.grown (gB_putObj _ _ _) hb3.size (fun k e=>by cases e;omega)⟩
set_option maxRecDepth 100000 in
set_option maxHeartbeats 1000000 in
theorem collChn_in (F:Fence) (n:Nat) (h8:F.fn 164) (h11:F.fn 184) (hro:F.round=none) (hn:3≤n) (g:Nat) (lb:Array Value) (hFg:F.fn g) (eg: ∀args w,(callFunc g args).run Tryz.prog w= .ok (.enter g args) w)
  (xs:List CE) (hN:xs.length≤4194304) (w:World) (hseq:SeqB F (n -1 -1) Tryz.prog g lb (fun x:CE=>Value.agg #[.int .u16 x.x.id, .int .u16 x.x.source, .slice x.A x.x.dests.length x.c]) xs w):
  CallsIn F n Tryz.prog 164 #[.func (.func g) #[] lb] w fun e w'=> ∃(v:Value),e= .returned v∧w'.ownsRow w.heap.size 57 3 v xs.length (xs.flatMap CE.cells)∧Below w.heap.size w w':=by
 have h1:1≤n:=by omega
 refine callsIn_of_wp Tryz.func164 rfl h8 ?_ hro
 simp only [Tryz.ntmps164,List.size_toArray,List.length_cons,List.length_nil,Nat.reduceAdd,Nat.reduceSub,Array.replicate_succ,Array.replicate_zero,List.push_toArray,List.append_toArray,List.nil_append,List.cons_append]
 gi_wp2_with (gi_at_call 184;refine (apChn_in F (n -1) h11 hro (by omega) g lb hFg eg xs hN _ hseq).mono ?_;rintro e w' ⟨v,rfl,hrow,hb⟩)
 go_ret
 exact ⟨v,rfl,hrow,hb⟩
set_option maxRecDepth 100000 in
set_option maxHeartbeats 1000000 in
theorem valsChn_ok (A:Option Addr) (k c:Nat) (w:World):Calls Tryz.prog 122 #[.slice A k c] w fun e w'=>e= .returned (.func (.func 166) #[] #[.pointer (some ⟨w.heap.size,0,none⟩)])∧w'=w.alloc (.cells #[.slice A k c] 27):=by
 go_enter Tryz.func122,Tryz.ntmps122
 go_wp2
 go_ret
 exact ⟨rfl,rfl⟩
theorem collChn_ok (Bm:Nat) (xs:List CE) (A:Option Addr) (c:Nat) (w:World) (hl:xs.length≤4194304) (hBm:Bm <w.heap.size) (hm:w.cell? ⟨Bm,0,none⟩=some (.slice A xs.length c)) (hR:Rd w w.heap.size 3 A xs.length (xs.flatMap CE.cells)):
  Calls Tryz.prog 164 #[.func (.func 166) #[] #[.pointer (some ⟨Bm,0,none⟩)]] w fun e w'=> ∃(v:Value),e= .returned v∧w'.ownsRow w.heap.size 57 3 v xs.length (xs.flatMap CE.cells)∧Below w.heap.size w w':=by
 have hseq:=valsChn_in Fence.wide 1 trivial rfl (Nat.le_refl _) Bm xs A c w hl hBm hm hR
 exact callsIn_wide.1 (collChn_in Fence.wide 3 trivial trivial rfl (Nat.le_refl _) 166 _ trivial (enters_of Tryz.func166 (by kernel_rfl) rfl) xs hl w hseq)
end Go.Proofs.YteelncofiodflaaGreat
