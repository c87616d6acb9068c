/-
  Owners of package memory and of its reference, walked.
-/
import Derived.BigQuiet
import Derived.Test.YtdmgpdanlfmadaaGreatMemA
import Derived.Test.YtdmgpdanlfmadaaGreatCore
import Derived.Test.YtdmgpdanlfmadaaGreatRegRow
namespace Go.Proofs.YtdmgpdanlfmadaaGreat
open Go.RowKit
attribute [local go_sem] ext_cell
theorem infoIntM:(Tryz.prog.info? 3).map (fun i=>(i.zero,i.size,i.bytes))=some (some (.int .i64 0),1,8):=by kernel_rfl
def ownsB (r:Reg) (a:Int):Bool:=decide (r.base≤a)&&decide (a -r.base <r.size)
theorem ownsB_has {r:Reg} {a:Int}:hasS (spnOf r) a=ownsB r a:=by
 unfold hasS ownsB spnOf
 congr 1
 rw [decide_eq_decide]
 simp only
 omega
def ownTo (c:Cfg) (a:Int) (m:Nat):List Int:=((List.range m).filter (fun k:Nat=>match c.regs[k]? with |some r=>ownsB r a |none=>false)).map (fun k:Nat=>(k:Int))
def ownL (c:Cfg) (a:Int):List Int:=ownTo c a c.regs.length
theorem ownTo_yes {c:Cfg} {a:Int} {m:Nat} {r:Reg} (hr:c.regs[m]? =some r) (h:ownsB r a=true):ownTo c a (m+1)=ownTo c a m++ [(m:Int)]:=by
 unfold ownTo;rw [List.range_succ,List.filter_append];simp [hr,h]
theorem ownTo_no {c:Cfg} {a:Int} {m:Nat} {r:Reg} (hr:c.regs[m]? =some r) (h:ownsB r a=false):ownTo c a (m+1)=ownTo c a m:=by
 unfold ownTo;rw [List.range_succ,List.filter_append];simp [hr,h]
theorem ownTo_len (c:Cfg) (a:Int) (m:Nat):(ownTo c a m).length≤m:=by
 unfold ownTo;rw [List.length_map];exact Nat.le_trans (List.length_filter_le _ _) (by simp)
theorem ownL_mem {c:Cfg} {a x:Int}:x ∈ ownL c a↔ ∃(k:Nat) (r:Reg),x=(k:Int)∧c.regs[k]? =some r∧ownsB r a=true:=by
 unfold ownL ownTo
 rw [List.mem_map]
 constructor
 ·rintro ⟨k,hk,rfl⟩
  rw [List.mem_filter] at hk
  rcases hr:c.regs[k]? with _ |r
  ·rw [hr] at hk;exact absurd hk.2 (by simp)
  ·rw [hr] at hk;exact ⟨k,r,rfl,hr,hk.2⟩
 ·rintro ⟨k,r,rfl,hr,h⟩
  exact ⟨k,List.mem_filter.2 ⟨List.mem_range.2 (List.getElem?_eq_some_iff.1 hr).1,by rw [hr];exact h⟩,rfl⟩
theorem one_newI (w:World) (a:Int) (t:TypeId):Rd (w.alloc (.cells #[.int .i64 a] t)) (w.alloc (.cells #[.int .i64 a] t)).heap.size 1 (some ⟨w.heap.size,0,none⟩) 1 [.int .i64 a]:=by
 refine ⟨rfl,fun _=>⟨_,_,rfl,by simp,fun j u hu=> ?_⟩⟩
 have:=World.news_of_block (heap_alloc_new w (.cells #[.int .i64 a] t)) j u (by simpa using hu)
 rwa [addr_add] at this
theorem rHas_val (x:Reg) (a:Int) (w:World) (h:okSp x.base x.size) (v:Bool) (hv:Hid (ownsB x a=v)):Calls Tryz.prog 41 #[.agg #[.int .u64 x.base, .int .u64 x.size], .int .u64 a] w fun e w'=>e= .returned (.bool v)∧Below w.heap.size w w':=by
 have h2:=rHas_ok (spnOf x) a w h
 rw [ownsB_has,hv.out] at h2
 exact h2
end Go.Proofs.YtdmgpdanlfmadaaGreat
namespace Go.Proofs.YtdmgpdanlfmadaaGreat
open Go.RowKit
def keepR (p m:Int) (r:Reg):Bool:=decide (r.part=p)&&decide (bits .and .u8 r.rights m=m)
structure PmBox (w:World) (bp bm:Nat) (p m:Int):Prop where
 hp:w.cell? ⟨bp,0,none⟩=some (.int .u16 p)
 hm:w.cell? ⟨bm,0,none⟩=some (.int .u8 m)
 lp:bp <w.heap.size
 lm:bm <w.heap.size
theorem PmBox.below {w w':World} {bp bm B:Nat} {p m:Int} (h:PmBox w bp bm p m) (hb:Below B w w') (h1:bp <B) (h2:bm <B):PmBox w' bp bm p m:=
 ⟨(hb.cell (p:=⟨bp,0,none⟩) h1).trans h.hp,(hb.cell (p:=⟨bm,0,none⟩) h2).trans h.hm,Nat.lt_of_lt_of_le h.lp hb.size,Nat.lt_of_lt_of_le h.lm hb.size⟩
theorem PmBox.up {w w':World} {bp bm:Nat} {p m:Int} (h:PmBox w bp bm p m) (hb:Below w.heap.size w w'):PmBox w' bp bm p m:=h.below hb h.lp h.lm
end Go.Proofs.YtdmgpdanlfmadaaGreat
namespace Go.Proofs.YtdmgpdanlfmadaaGreat
open Go.RowKit Go.Shelf
theorem run_clear_reg (w:World) (ty:TypeId) (b o n c:Nat) (hn:0 <n) (hc: ∀j,j <n*5→(w.cell? ⟨b,o+j,none⟩).isSome=true) (hf: ∀j,j <n*5→w.frozen? ⟨b,o+j,none⟩=false):
  ∃vs,(Builtin.clear_ #[25] ty #[.slice (some ⟨b,o,none⟩) n c]).run Tryz.prog w= .ok (.tuple #[]) (w.setCells b o vs):=by
 have hv: ∀w,(zeroValue 41).run Tryz.prog w= .ok (.agg #[.int .u64 0, .int .u64 0, .int .u16 0, .int .u8 0, .bool false]) w:=fun w=>by kernel_rfl
 have hlen:(Builtin.zeroCells (Value.agg #[.int .u64 0, .int .u64 0, .int .u16 0, .int .u8 0, .bool false]).cells n).toList.length=n*5:=by simp [Builtin.zeroCells,Value.cells]
 have h1: ∀v ∈ (Builtin.zeroCells (Value.agg #[.int .u64 0, .int .u64 0, .int .u16 0, .int .u8 0, .bool false]).cells n).toList,v.oneCell'=true:=by
  intro v hv
  simp only [Builtin.zeroCells,Value.cells,Array.toList_map,List.mem_map] at hv
  obtain ⟨i,_,rfl⟩:=hv
  have hm:i%5 <5:=Nat.mod_lt _ (by decide)
  have:i%5=0∨i%5=1∨i%5=2∨i%5=3∨i%5=4:=by omega
  show (#[Value.int .u64 0, .int .u64 0, .int .u16 0, .int .u8 0, .bool false][i%5]!).oneCell'=true
  rcases this with h |h |h |h |h<;>rw [h]<;>rfl
 have hst:=run_storeCells_cells (P:=Tryz.prog) b o _ 0 w (by rw [hlen];simpa using hc) (by rw [hlen];simpa using hf) h1
 simp only [Nat.add_zero] at hst
 obtain ⟨m,rfl⟩: ∃m,n=m+1:=⟨n -1,by omega⟩
 exact ⟨(Builtin.zeroCells (Value.agg #[.int .u64 0, .int .u64 0, .int .u16 0, .int .u8 0, .bool false]).cells (m+1)).toList,by simp [Builtin.clear_,run_underlying Tryz.underlying25,hv,hst]⟩
structure DSt (base B:Nat) (w W:World) (g n c:Nat) (l:List Reg) (p m:Int) (i j:Nat) (J:List Reg):Prop where
 own:W.ownsRow base 41 5 (.slice (some ⟨g,0,none⟩) n c) l.length (((l.take j).filter (keepR p m)++J++l.drop j).flatMap Reg.cells)
 il:i=((l.take j).filter (keepR p m)).length
 jl:i+J.length=j
 jle:j≤l.length
 jp:0 <J.length
 bel:Below B w W
theorem DSt.len {base B:Nat} {w W:World} {g n c:Nat} {l:List Reg} {p m:Int} {i j:Nat} {J:List Reg} (h:DSt base B w W g n c l p m i j J):((l.take j).filter (keepR p m)++J++l.drop j).length=l.length:=by
 have:=h.jl;have:=h.jle;have:=h.il
 rw [List.length_append,List.length_append,List.length_drop]
 omega
section
variable {base B:Nat} {w W V:World} {g n c:Nat} {l:List Reg} {p m:Int} {i j:Nat} {J:List Reg} {x:Reg}
theorem DSt.rd (h:DSt base B w W g n c l p m i j J) (hn:n=l.length):Rd W W.heap.size 5 (some ⟨g,0,none⟩) ((l.take j).filter (keepR p m)++J++l.drop j).length (((l.take j).filter (keepR p m)++J++l.drop j).flatMap Reg.cells):=by
 have:=h.own
 rw [hn] at this
 have h2:=(own_slice this).2
 rwa [h.len]
theorem DSt.at_j (h:DSt base B w W g n c l p m i j J) (hx:l[j]? =some x):((l.take j).filter (keepR p m)++J++l.drop j)[j]? =some x:=by
 have h1:=h.il
 have h2:=h.jl
 rw [List.getElem?_append_right (by rw [List.length_append];omega),List.length_append,List.getElem?_drop]
 rw [show j+(j -(((l.take j).filter (keepR p m)).length+J.length))=j from by omega]
 exact hx
theorem DSt.at_i (h:DSt base B w W g n c l p m i j J): ∃y,((l.take j).filter (keepR p m)++J++l.drop j)[i]? =some y:=by
 have h1:=h.len
 have h2:=h.jl
 have h3:=h.jle
 have h4:=h.jp
 exact get_lt (by rw [h1];omega)
theorem DSt.up (h:DSt base B w W g n c l p m i j J) (hb:Below W.heap.size W V) (hB:B≤W.heap.size):DSt base B w V g n c l p m i j J:=
 ⟨own_below h.own hb,h.il,h.jl,h.jle,h.jp,h.bel.trans (hb.mono hB)⟩
theorem DSt.skip (h:DSt base B w W g n c l p m i j J) (hx:l[j]? =some x) (hk:keepR p m x=false):DSt base B w W g n c l p m i (j+1) (J++ [x]):=by
 have hjl:j <l.length:=(List.getElem?_eq_some_iff.1 hx).1
 have e1:(l.take (j+1)).filter (keepR p m)=(l.take j).filter (keepR p m):=by rw [take_next hx,List.filter_append];simp [hk]
 have e2:l.drop j=x::l.drop (j+1):=drop_cons hx
 refine ⟨?_,by rw [e1];exact h.il,by have:=h.jl;simp;omega,hjl,by simp,h.bel⟩
 have:=h.own
 rw [e2] at this
 rw [e1]
 simpa using this
theorem DSt.keep (h:DSt base B w W g n c l p m i j J) (hx:l[j]? =some x) (hk:keepR p m x=true) (hB:B≤g): ∃J',DSt base B w (setReg W g i x) g n c l p m (i+1) (j+1) J':=by
 have hjl:j <l.length:=(List.getElem?_eq_some_iff.1 hx).1
 have e1:(l.take (j+1)).filter (keepR p m)=(l.take j).filter (keepR p m)++ [x]:=by rw [take_next hx,List.filter_append];simp [hk]
 have e2:l.drop j=x::l.drop (j+1):=drop_cons hx
 obtain ⟨y,J',rfl⟩: ∃y J',J=y::J':=by
  rcases J with _ |⟨y,J'⟩
  ·have:=h.jp;simp at this
  ·exact ⟨y,J',rfl⟩
 have h1:=h.il
 have h2:=h.jl
 have hlen:=h.len
 have hown:=h.own
 rw [←hlen] at hown
 have hs:=own_reg hown (by rw [hlen];omega) x (i:=i)
 refine ⟨J'++ [x], ?_,by rw [e1,List.length_append, ←h1];rfl,by simp at h2 ⊢;omega,hjl,by simp,below_setReg h.bel hB⟩
 have e3:((l.take j).filter (keepR p m)++y::J'++l.drop j).set i x=(l.take (j+1)).filter (keepR p m)++(J'++ [x])++l.drop (j+1):=by
  rw [e1,e2,h1,List.append_assoc,List.set_append_right _ _ (Nat.le_refl _)]
  simp
 rw [e3,hlen] at hs
 exact hs
end
theorem own_rows {W:World} {base g n c:Nat} {t:TypeId} {xs:List Value} {k:Nat} (h:W.ownsRow base t 5 (.slice (some ⟨g,0,none⟩) n c) k xs):(∀o,W.frozen? ⟨g,o,none⟩=false)∧g <W.heap.size∧base≤g∧n≤c∧c≤maxLen∧ ∀o,o <n*5→(W.cell? ⟨g,o,none⟩).isSome=true:=by
 rcases h.2 with ⟨e,_⟩ |⟨g',cap,cur,e,hb,hh,h1,h2,h3,h4⟩
 ·cases e
 ·injection e with e e2 e3
  injection e with e
  injection e with e _
  subst e;subst e3;subst e2
  have hbk:Blk W g t cur:=hh
  refine ⟨fun o=>hbk.frozen o,hbk.lt,hb,h1,h2,fun o ho=> ?_⟩
  have:=hbk.cell o
  rw [this]
  have hle:=Nat.mul_le_mul_right 5 h1
  rw [Array.getElem?_eq_getElem (by omega)]
  rfl
def ofL (c:Cfg) (p m:Int):List Reg:=c.regs.filter (keepR p m)
end Go.Proofs.YtdmgpdanlfmadaaGreat
namespace Go.Proofs.YtdmgpdanlfmadaaGreat
open Go.RowKit
def Cov (l:List Reg) (b s:Int):Prop:= ∀a,b≤a→a <b+s→ ∃r ∈ l,ownsB r a=true
noncomputable def covB (l:List Reg) (b s:Int):Bool:= @decide (Cov l b s) (Classical.propDecidable _)
theorem covB_yes {l:List Reg} {b s:Int} (h:Cov l b s):covB l b s=true:=by unfold covB;exact @decide_eq_true _ (Classical.propDecidable _) h
theorem covB_no {l:List Reg} {b s:Int} (h: ¬Cov l b s):covB l b s=false:=by unfold covB;exact @decide_eq_false _ (Classical.propDecidable _) h
def Far (l:List Reg) (b f:Int):Prop:=0≤f∧(f=0→ ∀r ∈ l,ownsB r b=false)∧(0 <f→ ∃r ∈ l,ownsB r b=true∧f=r.size -(b -r.base))
theorem Far.nil {b:Int}:Far [] b 0:=⟨Int.le_refl _,fun _ r hr=>by simp at hr,fun h=>absurd h (Int.lt_irrefl _)⟩
theorem Far.skip {l:List Reg} {b f:Int} {r:Reg} (h:Far l b f) (hr:ownsB r b=false):Far (l++ [r]) b f:=
 ⟨h.1,fun h0 x hx=>by rcases List.mem_append.1 hx with hx |hx;exact h.2.1 h0 x hx;rw [List.mem_singleton] at hx;rw [hx];exact hr,
  fun h0=>by obtain ⟨x,hx,h1⟩:=h.2.2 h0;exact ⟨x,by simp [hx],h1⟩⟩
theorem ownsB_iff {r:Reg} {a:Int}:ownsB r a=true↔r.base≤a∧a -r.base <r.size:=by
 unfold ownsB;simp
theorem Far.take_ {l:List Reg} {b:Int} {r:Reg} (hr:ownsB r b=true):Far (l++ [r]) b (r.size -(b -r.base)):=by
 have:=ownsB_iff.1 hr
 exact ⟨by omega,fun h0=>by omega,fun _=>⟨r,by simp,hr,rfl⟩⟩
theorem Far.keep {l:List Reg} {b f:Int} {r:Reg} (h:Far l b f) (hr:ownsB r b=true) (hf:r.size -(b -r.base)≤f):Far (l++ [r]) b f:=by
 have:=ownsB_iff.1 hr
 refine ⟨h.1,fun h0=>by omega,fun h0=> ?_⟩
 obtain ⟨x,hx,h1⟩:=h.2.2 h0
 exact ⟨x,by simp [hx],h1⟩
theorem Far.none_ {l:List Reg} {b s:Int} (h:Far l b 0) (hs:0 <s): ¬Cov l b s:=fun hc=>by
 obtain ⟨r,hr,ho⟩:=hc b (Int.le_refl _) (by omega)
 rw [h.2.1 rfl r hr] at ho
 cases ho
theorem Far.reach {l:List Reg} {b f:Int} (h:Far l b f) (hf:0 <f):Cov l b f:=by
 obtain ⟨r,hr,ho,e⟩:=h.2.2 hf
 have:=ownsB_iff.1 ho
 intro a h1 h2
 exact ⟨r,hr,ownsB_iff.2 ⟨by omega,by omega⟩⟩
theorem Cov.join {l:List Reg} {b s f:Int} (h:Cov l b f) (k:Cov l (b+f) s):Cov l b (f+s):=fun a h1 h2=>by
 rcases Int.lt_or_le a (b+f) with h3 |h3
 ·exact h a h1 h3
 ·exact k a h3 (by omega)
theorem Cov.tail {l:List Reg} {b s f:Int} (h:Cov l b s) (hf:0≤f):Cov l (b+f) (s -f):=fun a h1 h2=>h a (by omega) (by omega)
theorem Cov.less {l:List Reg} {b s f:Int} (h:Cov l b s) (hf:f≤s):Cov l b f:=fun a h1 h2=>h a h1 (by omega)
theorem Cov.empty {l:List Reg} {b s:Int} (h:s≤0):Cov l b s:=fun a h1 h2=>by omega
def allowB (b s:Int) (v:Bool):Bool:=if s=0 then true else validB b s&&v
end Go.Proofs.YtdmgpdanlfmadaaGreat
