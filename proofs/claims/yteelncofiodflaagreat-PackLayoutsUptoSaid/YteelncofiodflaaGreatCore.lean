/-
  Plain lemmas on the model that every proof of this seat uses: slices that read as lists, maps that read as association lists, worlds that have only grown. They speak of no program; no condition.
-/
import Derived.WalkKit
import Derived.WalkSpells
import Derived.WalkLawsBesides
import Derived.ProofKit
import Derived.Maps.Keyed
import Derived.Deep.AppendLies
import Derived.DeepKeys4
import Derived.Maps.AppendAt
import Derived.Lib.Hide
import Derived.Deep.Slices
import Derived.Deep.QuietTactic
import Derived.BigQuiet
import Derived.Test.YteelncofiodflaaGreatRows
import Derived.OpenShut
import Derived.JoinedCond
import Derived.Test.YteelncofiodflaaGreatProg
import Derived.Deep.RegionWith
import Derived.Deep.RegionHeld3
import Derived.Shelf.SlSortCmp.WholeK
import Derived.Shelf.SlSortCmp.NoneTotal
import Derived.Lib.OwnBridge
namespace Go.Proofs.YteelncofiodflaaGreat
open Go.RowKit
open Go.Maps (Keyed)
theorem bcell {W w1:World} (hb:Below W.heap.size W w1):(∀b o,b <W.heap.size→w1.cell? ⟨b,o,none⟩=W.cell? ⟨b,o,none⟩)∧(∀b o,b <W.heap.size→w1.frozen? ⟨b,o,none⟩=W.frozen? ⟨b,o,none⟩):=
 ⟨fun b o h=>hb.cell (p:=⟨b,o,none⟩) h,fun b o h=>hb.frozen (p:=⟨b,o,none⟩) h⟩
theorem ret_bool {a b:Bool} (h:a=b):Ending.returned (.bool a)= .returned (.bool b):=by rw [h]
theorem addr_add (b o n:Nat):(⟨b,o,none⟩:Addr).add n=⟨b,o+n,none⟩:=by
 unfold Addr.add
 split
 ·subst_vars;rfl
 ·rfl
theorem cell_spot {w:World} {a:Addr} {v:Value} (h:w.cell? a=some v):a=⟨a.block,a.off,none⟩:=by
 unfold World.cell? at h
 split at h
 ·split at h
  ·cases h
  ·rename_i hs
   obtain ⟨b,o,s⟩:=a
   simp only [Option.isSome_iff_exists] at hs
   cases s with
   |none=>rfl
   |some x=>exact absurd ⟨x,rfl⟩ hs
 ·cases h
theorem cell_lt {w:World} {a:Addr} {v:Value} (h:w.cell? a=some v):a.block <w.heap.size:=World.block_lt_of_cell? w a h
def Rd (w:World) (B sz:Nat) (A:Option Addr) (n:Nat) (xs:List Value):Prop:=
 xs.length=n*sz∧(0 <n→ ∃b o,A=some ⟨b,o,none⟩∧b <B∧ ∀j u,xs[j]? =some u→w.cell? ⟨b,o+j,none⟩=some u)
section
variable {w w':World} {B B' sz n:Nat} {A:Option Addr} {xs:List Value}
theorem Rd.nil:Rd w B sz A 0 []:=⟨by simp,fun h=>absurd h (by omega)⟩
theorem Rd.keep (h:Rd w B sz A n xs) (hk: ∀b o,b <B→w'.cell? ⟨b,o,none⟩=w.cell? ⟨b,o,none⟩):Rd w' B sz A n xs:=
 ⟨h.1,fun hn=>by
  obtain ⟨b,o,e,hb,hc⟩:=h.2 hn
  exact ⟨b,o,e,hb,fun j u hu=>(hk _ _ hb).trans (hc j u hu)⟩⟩
theorem Rd.more (h:Rd w B sz A n xs) (hB:B≤B'):Rd w B' sz A n xs:=
 ⟨h.1,fun hn=>by
  obtain ⟨b,o,e,hb,hc⟩:=h.2 hn
  exact ⟨b,o,e,by omega,hc⟩⟩
theorem Rd.below (h:Rd w B sz A n xs) (hb:Below B w w'):Rd w' B sz A n xs:=h.keep fun _ _ hp=>hb.cell hp
theorem Rd.drew (h:Rd w B sz A n xs):Rd w.drew B sz A n xs:=h
theorem Rd.alloc (h:Rd w B sz A n xs) (hB:B≤w.heap.size) (o:Obj):Rd (w.alloc o) B sz A n xs:=h.keep fun b _ hp=>World.cell?_alloc_lt w o _ (by show b <_;omega)
theorem Rd.of_own {base:Nat} {e:TypeId} {c:Nat} (h:w.ownsRow base e sz (.slice A n c) n xs):Rd w w.heap.size sz A n xs:=by
 refine ⟨h.1,fun hn=> ?_⟩
 obtain ⟨g,cap,hv,_,hlt⟩:=h.form hn
 have hA:A=some ⟨g,0,none⟩:=by injection hv
 subst hA
 refine ⟨_,_,rfl,hlt,fun j u hu=> ?_⟩
 have:=h.cells (g:=g) rfl j u hu
 rwa [addr_add] at this
end
theorem flat_at {α:Type} (f:α→List Value) (sz:Nat) (hf: ∀x,(f x).length=sz): ∀(l:List α) (k:Nat) (x:α) (j:Nat),l[k]? =some x→j <sz→(l.flatMap f)[k*sz+j]? =(f x)[j]?
 | [],k,x,j,h,_=>by simp at h
 |y::r,0,x,j,h,hj=>by
  simp at h;subst h
  rw [List.flatMap_cons,Nat.zero_mul,Nat.zero_add,List.getElem?_append_left (by rw [hf];exact hj)]
 |y::r,k+1,x,j,h,hj=>by
  have h':r[k]? =some x:=by simpa using h
  rw [List.flatMap_cons,List.getElem?_append_right (by rw [hf,Nat.succ_mul];omega),hf,Nat.succ_mul,show k*sz+sz+j -sz=k*sz+j from by omega]
  exact flat_at f sz hf r k x j h' hj
theorem Rd.get {α:Type} {w:World} {B sz:Nat} {A:Option Addr} {l:List α} {f:α→List Value} (hf: ∀x,(f x).length=sz) (h:Rd w B sz A l.length (l.flatMap f)) {k:Nat} {x:α} (hk:l[k]? =some x):
  ∃b o,A=some ⟨b,o,none⟩∧b <B∧ ∀j u,(f x)[j]? =some u→w.cell? ⟨b,o+k*sz+j,none⟩=some u:=by
 have hlt:k <l.length:=(List.getElem?_eq_some_iff.1 hk).1
 obtain ⟨b,o,e,hb,hc⟩:=h.2 (by omega)
 refine ⟨b,o,e,hb,fun j u hu=> ?_⟩
 have hj:j <sz:=by rw [←hf x];exact (List.getElem?_eq_some_iff.1 hu).1
 have:=hc (k*sz+j) u (by rw [flat_at f sz hf l k x j hk hj];exact hu)
 rwa [←Nat.add_assoc] at this
def MapIs {α β:Type} (w:World) (P:Program) (K:TypeId) (key:α→Value) (val:β→Value) (b:Nat) (es:List (α × β)):Prop:=
 ∃en clock,w.heap[b]? =some (.map en clock)∧en.toList.map (fun e=>(e.key,e.val))=es.map (fun p=>(key p.1,val p.2))∧(∀p ∈ es, ∃l,keyOf P K (key p.1)=some l)
def getv {α β:Type} [DecidableEq α]:List (α × β)→α→Option β
 | [],_=>none
 |(a,v)::r,x=>if a=x then some v else getv r x
theorem getv_none {α β:Type} [DecidableEq α] {es:List (α × β)} {x:α}:getv es x=none↔ ∀p ∈ es,p.1≠x:=by
 induction es with
 |nil=>simp [getv]
 |cons p r ih=>
  obtain ⟨a,v⟩:=p
  unfold getv
  by_cases h:a=x
  ·simp [h]
  ·simp [h,ih]
section
variable {α β:Type} {w:World} {P:Program} {T K E:TypeId} {key:α→Value} {val:β→Value} {b:Nat} {es:List (α × β)}
theorem MapIs.lt (h:MapIs w P K key val b es):b <w.heap.size:=by
 obtain ⟨en,clock,hh,_⟩:=h
 exact (Array.getElem?_eq_some_iff.1 hh).1
theorem MapIs.block {w':World} (h:MapIs w P K key val b es) (hb:w'.heap[b]? =w.heap[b]?):MapIs w' P K key val b es:=by
 obtain ⟨en,clock,hh,r⟩:=h
 exact ⟨en,clock,hb.trans hh,r⟩
theorem MapIs.below {w':World} {B:Nat} (h:MapIs w P K key val b es) (hb:Below B w w') (hB:b <B):MapIs w' P K key val b es:=h.block (hb.block b hB)
theorem MapIs.alloc (h:MapIs w P K key val b es) (o:Obj):MapIs (w.alloc o) P K key val b es:=h.block (Below.heap_alloc w o b h.lt)
theorem MapIs.put [DecidableEq α] (h:MapIs w P K key val b es) (law:Keyed P K) (hT:P.underlying T=some (.map K E)) {x:α} {l:Lit} (hx:keyOf P K (key x)=some l) (hinj: ∀x y,key x=key y→x=y) (hnew:getv es x=none) (v:β):
  ∃w',(Instr.mapUpdate T (.map (some b)) (key x) (val v)).run P w= .ok () w'∧MapIs w' P K key val b (es++ [(x,v)])∧w.grownBy w' (some b)∧w'.heap.size=w.heap.size:=by
 obtain ⟨en,clock,hh,hes,hk⟩:=h
 have hkeys: ∀e ∈ en.toList, ∃l,keyOf P K e.key=some l:=fun e he=>by
  have:(e.key,e.val) ∈ en.toList.map (fun e=>(e.key,e.val)):=List.mem_map.2 ⟨e,he,rfl⟩
  rw [hes] at this
  obtain ⟨p,hp,hpe⟩:=List.mem_map.1 this
  obtain ⟨l,hl⟩:=hk p hp
  injection hpe with h1 _
  exact ⟨l,by rw [←h1];exact hl⟩
 rcases law.find w hx en.toList hkeys with ⟨h1,h2⟩ |⟨j,e0,h1,h2,h3⟩
 ·refine ⟨ChangeMaps.setBlock w b (.map (en.push ⟨key x,val v,clock⟩) (clock+1)), ?_,⟨_,_,ChangeMaps.heap_setBlock_same hh _, ?_, ?_⟩,⟨rfl,rfl,rfl,by simp [ChangeMaps.setBlock],fun k _ hne=>ChangeMaps.heap_setBlock_other hh _ (fun e=>hne (by rw [e]))⟩,by simp [ChangeMaps.setBlock]⟩
  ·simp [Instr.mapUpdate,run_underlying hT,MapKept.run_getObj_map hh,law.check w false hx,h1,MapKept.run_setObj_map _ hh,Result.andThen,ChangeMaps.setBlock]
  ·simp [hes]
  ·intro p hp
   rcases List.mem_append.1 hp with hp |hp
   ·exact hk p hp
   ·simp at hp;subst hp;exact ⟨l,hx⟩
 ·exfalso
  have hm0:e0 ∈ en.toList:=List.mem_of_getElem? h2
  have:(e0.key,e0.val) ∈ en.toList.map (fun e=>(e.key,e.val)):=List.mem_map.2 ⟨e0,hm0,rfl⟩
  rw [hes] at this
  obtain ⟨p,hp,hpe⟩:=List.mem_map.1 this
  injection hpe with h4 _
  exact getv_none.1 hnew p hp (hinj _ _ (by rw [h4,h3]))
end
def Ext (w:World):Type:= {w':World//Below w.heap.size w w'}
def ext (w:World) (x:Ext w):World:=x.1
instance (w:World):Nonempty (Ext w):=⟨⟨w,Below.refl _ _⟩⟩
theorem ext_below (w:World) (x:Ext w):Below w.heap.size w (ext w x):=x.2
theorem ext_cell (w:World) (x:Ext w) (b o:Nat) (h:b <w.heap.size):(ext w x).cell? ⟨b,o,none⟩=w.cell? ⟨b,o,none⟩:=x.2.cell (p:=⟨b,o,none⟩) h
theorem wp_region_ext {P:Program} {id:Nat} {Q:Exit→Act→World→Prop} {a:Act} {w:World} {l:List Oper} (hm:P.follows .mixedOrders=true) (hB:Region.lexB .any l.toArray=true)
  (h:wpQuiet P l.toArray (fun w'=> ∃x:Ext w,w'=ext w x) (fun a'=> ∀x:Ext w,Q .normal a' (ext w x)) l a):(Code.region id l.toArray true).wp P Q a w:=by
 refine wp_region_quiet (C:=fun w'=> ∃x:Ext w,w'=ext w x) hm hB ⟨⟨{w with drawn:=w.drawn+1},⟨rfl,rfl,rfl,Nat.le_refl _,fun _ _=>rfl⟩⟩,rfl⟩ ?_
 have e:(fun a'=> ∀w',(∃x:Ext w,w'=ext w x)→Q .normal a' w')=(fun a'=> ∀x:Ext w,Q .normal a' (ext w x)):=by
  funext a'
  apply propext
  exact ⟨fun h x=>h _ ⟨x,rfl⟩,fun h w' ⟨x,hx⟩=>hx▸h x⟩
 rw [e]
 simpa using h
theorem Calls.quiet_ext {P:Program} {f:FuncId} {args:Array Value} {w:World} {x:Ext w} {v:Value}
  (h:Calls P f args (ext w x) fun e w'=>e= .returned v∧Below (ext w x).heap.size (ext w x) w'):Calls P f args (ext w x) fun e w'=>e= .returned v∧ ∃y,w'=ext w y:=
 h.mono fun _ w' ⟨he,hb⟩=>⟨he,⟨w',x.2.trans (hb.mono x.2.size)⟩,rfl⟩
end Go.Proofs.YteelncofiodflaaGreat
namespace Go.Proofs.YteelncofiodflaaGreat
open Go.RowKit
structure Par where
 id:Int
 name:ByteArray
 period:Int
 duration:Int
structure Win where
 start:Int
 len:Int
 part:Int
structure Reg where
 base:Int
 size:Int
 part:Int
 rights:Int
 shared:Bool
structure Prt where
 id:Int
 part:Int
 name:ByteArray
 output:Bool
 queuing:Bool
 size:Int
structure Chn where
 id:Int
 source:Int
 dests:List Int
structure Cfg where
 frame:Int
 parts:List Par
 wins:List Win
 regs:List Reg
 ports:List Prt
 chans:List Chn
def Par.cells (p:Par):List Value:= [.int .u16 p.id, .string p.name, .int .u64 p.period, .int .u64 p.duration]
def Win.cells (p:Win):List Value:= [.int .u64 p.start, .int .u64 p.len, .int .u16 p.part]
def Reg.cells (p:Reg):List Value:= [.int .u64 p.base, .int .u64 p.size, .int .u16 p.part, .int .u8 p.rights, .bool p.shared]
def Prt.cells (p:Prt):List Value:= [.int .u16 p.id, .int .u16 p.part, .string p.name, .bool p.output, .bool p.queuing, .int .u32 p.size]
def wU16 (n:Int):Prop:=(Lit.int .u16 n).wf=true
def wU8 (n:Int):Prop:=(Lit.int .u8 n).wf=true
def wU32 (n:Int):Prop:=(Lit.int .u32 n).wf=true
def wU64 (n:Int):Prop:=(Lit.int .u64 n).wf=true
structure Par.ok (p:Par):Prop where
 id:wU16 p.id
 name:p.name.size≤maxLen
 period:wU64 p.period
 duration:wU64 p.duration
structure Win.ok (p:Win):Prop where
 start:wU64 p.start
 len:wU64 p.len
 part:wU16 p.part
structure Reg.ok (p:Reg):Prop where
 base:wU64 p.base
 size:wU64 p.size
 part:wU16 p.part
 rights:wU8 p.rights
structure Prt.ok (p:Prt):Prop where
 id:wU16 p.id
 part:wU16 p.part
 name:p.name.size≤maxLen
 size:wU32 p.size
structure Chn.ok (p:Chn):Prop where
 id:wU16 p.id
 source:wU16 p.source
 dests: ∀d ∈ p.dests,wU16 d
def ChnC (w:World) (B:Nat) (x:Chn) (cs:List Value):Prop:= ∃A c,cs= [.int .u16 x.id, .int .u16 x.source, .slice A x.dests.length c]∧x.dests.length≤c∧c≤maxLen∧Rd w B 1 A x.dests.length (x.dests.map (Value.int .u16))
def ChnsC (w:World) (B:Nat):List Chn→List Value→Prop
 | [],cs=>cs= []
 |x::r,cs=> ∃c0 c1,cs=c0++c1∧ChnC w B x c0∧ChnsC w B r c1
structure CfgR (w:World) (B:Nat) (c:Cfg) (A1 A2 A3 A4 A5:Option Addr) (c1 c2 c3 c4 c5:Nat):Prop where
 parts:Rd w B 4 A1 c.parts.length (c.parts.flatMap Par.cells)
 wins:Rd w B 3 A2 c.wins.length (c.wins.flatMap Win.cells)
 regs:Rd w B 5 A3 c.regs.length (c.regs.flatMap Reg.cells)
 ports:Rd w B 6 A4 c.ports.length (c.ports.flatMap Prt.cells)
 chans: ∃cs,ChnsC w B c.chans cs∧Rd w B 3 A5 c.chans.length cs
 cap1:c.parts.length≤c1∧c1≤maxLen
 cap2:c.wins.length≤c2∧c2≤maxLen
 cap3:c.regs.length≤c3∧c3≤maxLen
 cap4:c.ports.length≤c4∧c4≤maxLen
 cap5:c.chans.length≤c5∧c5≤maxLen
structure Cfg.ok (c:Cfg):Prop where
 frame:wU64 c.frame
 parts: ∀p ∈ c.parts,p.ok
 wins: ∀p ∈ c.wins,p.ok
 regs: ∀p ∈ c.regs,p.ok
 ports: ∀p ∈ c.ports,p.ok
 chans: ∀p ∈ c.chans,p.ok
@[reducible] def cfgV (frame:Int) (A1 A2 A3 A4 A5:Option Addr) (n1 n2 n3 n4 n5 c1 c2 c3 c4 c5:Nat):Value:=
 .agg #[.int .u64 frame, .slice A1 n1 c1, .slice A2 n2 c2, .slice A3 n3 c3, .slice A4 n4 c4, .slice A5 n5 c5]
def sumDests (l:List Chn):Nat:=(l.map (·.dests.length)).sum
def Cfg.total (c:Cfg):Nat:=c.parts.length+c.wins.length+c.regs.length+c.ports.length+c.chans.length+sumDests c.chans
def BIG:Nat:=1048576
structure Cfg.small (c:Cfg):Prop where
 total:c.total≤BIG
 pnames: ∀p ∈ c.parts,p.name.size≤BIG
 tnames: ∀p ∈ c.ports,p.name.size≤BIG
theorem ChnC.len {w:World} {B:Nat} {x:Chn} {cs:List Value} (h:ChnC w B x cs):cs.length=3:=by
 obtain ⟨A,c,rfl,_⟩:=h
 rfl
theorem ChnC.keep {w w':World} {B:Nat} {x:Chn} {cs:List Value} (h:ChnC w B x cs) (hk: ∀b o,b <B→w'.cell? ⟨b,o,none⟩=w.cell? ⟨b,o,none⟩):ChnC w' B x cs:=by
 obtain ⟨A,c,e,h1,h2,h3⟩:=h
 exact ⟨A,c,e,h1,h2,h3.keep hk⟩
theorem ChnC.more {w:World} {B B':Nat} {x:Chn} {cs:List Value} (h:ChnC w B x cs) (hB:B≤B'):ChnC w B' x cs:=by
 obtain ⟨A,c,e,h1,h2,h3⟩:=h
 exact ⟨A,c,e,h1,h2,h3.more hB⟩
theorem ChnsC.keep {w w':World} {B:Nat} (hk: ∀b o,b <B→w'.cell? ⟨b,o,none⟩=w.cell? ⟨b,o,none⟩): ∀ {l:List Chn} {cs:List Value},ChnsC w B l cs→ChnsC w' B l cs
 | [],_,h=>h
 |_::_,_,⟨c0,c1,e,h1,h2⟩=>⟨c0,c1,e,h1.keep hk,ChnsC.keep hk h2⟩
theorem ChnsC.more {w:World} {B B':Nat} (hB:B≤B'): ∀ {l:List Chn} {cs:List Value},ChnsC w B l cs→ChnsC w B' l cs
 | [],_,h=>h
 |_::_,_,⟨c0,c1,e,h1,h2⟩=>⟨c0,c1,e,h1.more hB,ChnsC.more hB h2⟩
theorem ChnsC.len {w:World} {B:Nat}: ∀ {l:List Chn} {cs:List Value},ChnsC w B l cs→cs.length=l.length*3
 | [],_,h=>by subst h;rfl
 |_::_,_,⟨c0,c1,e,h1,h2⟩=>by subst e;rw [List.length_append,h1.len,ChnsC.len h2,List.length_cons];omega
theorem ChnsC.at_ {w:World} {B:Nat}: ∀ {l:List Chn} {cs:List Value},ChnsC w B l cs→ ∀ {k:Nat} {x:Chn},l[k]? =some x→ ∃c0,ChnC w B x c0∧ ∀j,j <3→cs[k*3+j]? =c0[j]?
 | [],_,_,k,x,hk=>by simp at hk
 |y::r,_,⟨c0,c1,e,h1,h2⟩,0,x,hk=>by
  simp at hk;subst hk;subst e
  exact ⟨c0,h1,fun j hj=>by rw [Nat.zero_mul,Nat.zero_add,List.getElem?_append_left (by rw [h1.len];exact hj)]⟩
 |y::r,_,⟨c0,c1,e,h1,h2⟩,k+1,x,hk=>by
  subst e
  obtain ⟨d,hd,hj⟩:=ChnsC.at_ h2 (k:=k) (x:=x) (by simpa using hk)
  exact ⟨d,hd,fun j hlt=>by rw [List.getElem?_append_right (by rw [h1.len];omega),h1.len,show (k+1)*3+j -3=k*3+j from by omega];exact hj j hlt⟩
theorem ChnsC.app {w:World} {B:Nat}: ∀ {l l':List Chn} {cs cs':List Value},ChnsC w B l cs→ChnsC w B l' cs'→ChnsC w B (l++l') (cs++cs')
 | [],_,_,_,h,h'=>by subst h;simpa using h'
 |_::_,_,_,_,⟨c0,c1,e,h1,h2⟩,h'=>⟨c0,_,by rw [e,List.append_assoc],h1,ChnsC.app h2 h'⟩
section
variable {w w':World} {B B':Nat} {A:Option Addr} {k:Nat}
theorem par_at {l:List Par} {x:Par} (h:Rd w B 4 A l.length (l.flatMap Par.cells)) (hk:l[k]? =some x):
  ∃b o,A=some ⟨b,o,none⟩∧b <B∧w.cell? ⟨b,o+k*4,none⟩=some (.int .u16 x.id)∧w.cell? ⟨b,o+k*4+1,none⟩=some (.string x.name)∧w.cell? ⟨b,o+k*4+2,none⟩=some (.int .u64 x.period)∧w.cell? ⟨b,o+k*4+3,none⟩=some (.int .u64 x.duration):=by
 obtain ⟨b,o,e,hb,hc⟩:=Rd.get (f:=Par.cells) (sz:=4) (fun _=>rfl) h hk
 exact ⟨b,o,e,hb,hc 0 _ rfl,hc 1 _ rfl,hc 2 _ rfl,hc 3 _ rfl⟩
theorem win_at {l:List Win} {x:Win} (h:Rd w B 3 A l.length (l.flatMap Win.cells)) (hk:l[k]? =some x):
  ∃b o,A=some ⟨b,o,none⟩∧b <B∧w.cell? ⟨b,o+k*3,none⟩=some (.int .u64 x.start)∧w.cell? ⟨b,o+k*3+1,none⟩=some (.int .u64 x.len)∧w.cell? ⟨b,o+k*3+2,none⟩=some (.int .u16 x.part):=by
 obtain ⟨b,o,e,hb,hc⟩:=Rd.get (f:=Win.cells) (sz:=3) (fun _=>rfl) h hk
 exact ⟨b,o,e,hb,hc 0 _ rfl,hc 1 _ rfl,hc 2 _ rfl⟩
theorem reg_at {l:List Reg} {x:Reg} (h:Rd w B 5 A l.length (l.flatMap Reg.cells)) (hk:l[k]? =some x):
  ∃b o,A=some ⟨b,o,none⟩∧b <B∧w.cell? ⟨b,o+k*5,none⟩=some (.int .u64 x.base)∧w.cell? ⟨b,o+k*5+1,none⟩=some (.int .u64 x.size)∧w.cell? ⟨b,o+k*5+2,none⟩=some (.int .u16 x.part)∧
   w.cell? ⟨b,o+k*5+3,none⟩=some (.int .u8 x.rights)∧w.cell? ⟨b,o+k*5+4,none⟩=some (.bool x.shared):=by
 obtain ⟨b,o,e,hb,hc⟩:=Rd.get (f:=Reg.cells) (sz:=5) (fun _=>rfl) h hk
 exact ⟨b,o,e,hb,hc 0 _ rfl,hc 1 _ rfl,hc 2 _ rfl,hc 3 _ rfl,hc 4 _ rfl⟩
theorem prt_at {l:List Prt} {x:Prt} (h:Rd w B 6 A l.length (l.flatMap Prt.cells)) (hk:l[k]? =some x):
  ∃b o,A=some ⟨b,o,none⟩∧b <B∧w.cell? ⟨b,o+k*6,none⟩=some (.int .u16 x.id)∧w.cell? ⟨b,o+k*6+1,none⟩=some (.int .u16 x.part)∧w.cell? ⟨b,o+k*6+2,none⟩=some (.string x.name)∧
   w.cell? ⟨b,o+k*6+3,none⟩=some (.bool x.output)∧w.cell? ⟨b,o+k*6+4,none⟩=some (.bool x.queuing)∧w.cell? ⟨b,o+k*6+5,none⟩=some (.int .u32 x.size):=by
 obtain ⟨b,o,e,hb,hc⟩:=Rd.get (f:=Prt.cells) (sz:=6) (fun _=>rfl) h hk
 exact ⟨b,o,e,hb,hc 0 _ rfl,hc 1 _ rfl,hc 2 _ rfl,hc 3 _ rfl,hc 4 _ rfl,hc 5 _ rfl⟩
theorem chn_at {l:List Chn} {x:Chn} {cs:List Value} (h:ChnsC w B l cs) (hr:Rd w B 3 A l.length cs) (hk:l[k]? =some x):
  ∃b o,A=some ⟨b,o,none⟩∧b <B∧w.cell? ⟨b,o+k*3,none⟩=some (.int .u16 x.id)∧w.cell? ⟨b,o+k*3+1,none⟩=some (.int .u16 x.source)∧
   ∃D d,w.cell? ⟨b,o+k*3+2,none⟩=some (.slice D x.dests.length d)∧x.dests.length≤d∧d≤maxLen∧Rd w B 1 D x.dests.length (x.dests.map (Value.int .u16)):=by
 obtain ⟨c0,⟨D,d,rfl,h1,h2,h3⟩,hj⟩:=h.at_ hk
 have hlt:k <l.length:=(List.getElem?_eq_some_iff.1 hk).1
 obtain ⟨b,o,e,hb,hc⟩:=hr.2 (by omega)
 refine ⟨b,o,e,hb, ?_, ?_,D,d, ?_,h1,h2,h3⟩
 ·have:=hc (k*3) _ (hj 0 (by omega));exact this
 ·have:=hc (k*3+1) _ (hj 1 (by omega));rwa [←Nat.add_assoc] at this
 ·have:=hc (k*3+2) _ (hj 2 (by omega));rwa [←Nat.add_assoc] at this
theorem chn_at0 {w0:World} {l:List Chn} {x:Chn} {cs:List Value} (h:ChnsC w0 B' l cs) (hr:Rd w B 3 A l.length cs) (hk:l[k]? =some x):
  ∃b o,A=some ⟨b,o,none⟩∧b <B∧w.cell? ⟨b,o+k*3,none⟩=some (.int .u16 x.id)∧w.cell? ⟨b,o+k*3+1,none⟩=some (.int .u16 x.source)∧
   ∃D d,w.cell? ⟨b,o+k*3+2,none⟩=some (.slice D x.dests.length d)∧x.dests.length≤d∧d≤maxLen∧Rd w0 B' 1 D x.dests.length (x.dests.map (Value.int .u16)):=by
 obtain ⟨c0,⟨D,d,rfl,h1,h2,h3⟩,hj⟩:=h.at_ hk
 have hlt:k <l.length:=(List.getElem?_eq_some_iff.1 hk).1
 obtain ⟨b,o,e,hb,hc⟩:=hr.2 (by omega)
 refine ⟨b,o,e,hb, ?_, ?_,D,d, ?_,h1,h2,h3⟩
 ·have:=hc (k*3) _ (hj 0 (by omega));exact this
 ·have:=hc (k*3+1) _ (hj 1 (by omega));rwa [←Nat.add_assoc] at this
 ·have:=hc (k*3+2) _ (hj 2 (by omega));rwa [←Nat.add_assoc] at this
theorem int_at {l:List Int} {q:IntKind} {x:Int} (h:Rd w B 1 A l.length (l.map (Value.int q))) (hk:l[k]? =some x): ∃b o,A=some ⟨b,o,none⟩∧b <B∧w.cell? ⟨b,o+k,none⟩=some (.int q x):=by
 have hlt:k <l.length:=(List.getElem?_eq_some_iff.1 hk).1
 obtain ⟨b,o,e,hb,hc⟩:=h.2 (by omega)
 exact ⟨b,o,e,hb,hc k _ (by simp [hk])⟩
end
theorem CfgR.keep {w w':World} {B:Nat} {c:Cfg} {A1 A2 A3 A4 A5:Option Addr} {c1 c2 c3 c4 c5:Nat} (h:CfgR w B c A1 A2 A3 A4 A5 c1 c2 c3 c4 c5) (hk: ∀b o,b <B→w'.cell? ⟨b,o,none⟩=w.cell? ⟨b,o,none⟩):CfgR w' B c A1 A2 A3 A4 A5 c1 c2 c3 c4 c5:=by
 obtain ⟨h1,h2,h3,h4,⟨cs,h5,h6⟩,r1,r2,r3,r4,r5⟩:=h
 exact ⟨h1.keep hk,h2.keep hk,h3.keep hk,h4.keep hk,⟨cs,h5.keep hk,h6.keep hk⟩,r1,r2,r3,r4,r5⟩
theorem CfgR.more {w:World} {B B':Nat} {c:Cfg} {A1 A2 A3 A4 A5:Option Addr} {c1 c2 c3 c4 c5:Nat} (h:CfgR w B c A1 A2 A3 A4 A5 c1 c2 c3 c4 c5) (hB:B≤B'):CfgR w B' c A1 A2 A3 A4 A5 c1 c2 c3 c4 c5:=by
 obtain ⟨h1,h2,h3,h4,⟨cs,h5,h6⟩,r1,r2,r3,r4,r5⟩:=h
 exact ⟨h1.more hB,h2.more hB,h3.more hB,h4.more hB,⟨cs,h5.more hB,h6.more hB⟩,r1,r2,r3,r4,r5⟩
theorem CfgR.below {w w':World} {B:Nat} {c:Cfg} {A1 A2 A3 A4 A5:Option Addr} {c1 c2 c3 c4 c5:Nat} (h:CfgR w B c A1 A2 A3 A4 A5 c1 c2 c3 c4 c5) (hb:Below B w w'):CfgR w' B c A1 A2 A3 A4 A5 c1 c2 c3 c4 c5:=h.keep fun _ _ hp=>hb.cell hp
theorem CfgR.alloc {w:World} {B:Nat} {c:Cfg} {A1 A2 A3 A4 A5:Option Addr} {c1 c2 c3 c4 c5:Nat} (h:CfgR w B c A1 A2 A3 A4 A5 c1 c2 c3 c4 c5) (hB:B≤w.heap.size) (o:Obj):CfgR (w.alloc o) B c A1 A2 A3 A4 A5 c1 c2 c3 c4 c5:=
 h.keep fun b _ hp=>World.cell?_alloc_lt w o _ (by show b <_;omega)
theorem CfgR.up {w w':World} {c:Cfg} {A1 A2 A3 A4 A5:Option Addr} {c1 c2 c3 c4 c5:Nat} (h:CfgR w w.heap.size c A1 A2 A3 A4 A5 c1 c2 c3 c4 c5) (hb:Below w.heap.size w w'):CfgR w' w'.heap.size c A1 A2 A3 A4 A5 c1 c2 c3 c4 c5:=(h.below hb).more hb.size
theorem take_next {α:Type} {l:List α} {k:Nat} {x:α} (h:l[k]? =some x):l.take (k+1)=l.take k++ [x]:=by
 obtain ⟨hlt,e⟩:=List.getElem?_eq_some_iff.1 h
 rw [List.take_succ_eq_append_getElem hlt,e]
theorem sumDests_take (l:List Chn) (k:Nat):sumDests (l.take k)≤sumDests l:=by
 have:sumDests l=sumDests (l.take k)+sumDests (l.drop k):=by
  unfold sumDests
  rw [←List.sum_append, ←List.map_append,List.take_append_drop]
 omega
theorem sumDests_next {l:List Chn} {k:Nat} {x:Chn} (h:l[k]? =some x):sumDests (l.take (k+1))=sumDests (l.take k)+x.dests.length:=by
 rw [take_next h]
 simp [sumDests]
theorem drop_cons {α:Type} {l:List α} {k:Nat} {x:α} (h:l[k]? =some x):l.drop k=x::l.drop (k+1):=by
 obtain ⟨hlt,e⟩:=List.getElem?_eq_some_iff.1 h
 rw [List.drop_eq_getElem_cons hlt,e]
theorem get_lt {α:Type} {l:List α} {k:Nat} (h:k <l.length): ∃x,l[k]? =some x:=⟨_,List.getElem?_eq_getElem h⟩
end Go.Proofs.YteelncofiodflaaGreat
namespace Go.Proofs.YteelncofiodflaaGreat
open Go.RowKit Go.ChangeShapes Go.WideShapes Go.ChangeAt Go.Deep
instance:Inhabited Par:=⟨⟨0, .empty,0,0⟩⟩
instance:Inhabited Win:=⟨⟨0,0,0⟩⟩
instance:Inhabited Reg:=⟨⟨0,0,0,0,false⟩⟩
instance:Inhabited Prt:=⟨⟨0,0, .empty,false,false,0⟩⟩
instance:Inhabited Chn:=⟨⟨0,0,[]⟩⟩
theorem len3 {α:Type} {l:List α} (h:l.length=3): ∃a b c,l= [a,b,c]:=by
 match l,h with
 | [a,b,c],_=>exact ⟨a,b,c,rfl⟩
theorem len4 {α:Type} {l:List α} (h:l.length=4): ∃a b c d,l= [a,b,c,d]:=by
 match l,h with
 | [a,b,c,d],_=>exact ⟨a,b,c,d,rfl⟩
theorem len5 {α:Type} {l:List α} (h:l.length=5): ∃a b c d e,l= [a,b,c,d,e]:=by
 match l,h with
 | [a,b,c,d,e],_=>exact ⟨a,b,c,d,e,rfl⟩
theorem len6 {α:Type} {l:List α} (h:l.length=6): ∃a b c d e f,l= [a,b,c,d,e,f]:=by
 match l,h with
 | [a,b,c,d,e,f],_=>exact ⟨a,b,c,d,e,f,rfl⟩
def sumBy {α:Type} (g:α→Nat) (l:List α):Nat:=(l.map g).sum
def RowsOf {α:Type} (rel:α→List Value→Prop):List α→List Value→Prop
 | [],cs=>cs= []
 |x::r,cs=> ∃c0 c1,cs=c0++c1∧rel x c0∧RowsOf rel r c1
theorem rowsOf_flat {α:Type} {f:α→List Value}: ∀ {l:List α} {cs:List Value},RowsOf (fun x c=>c=f x) l cs→cs=l.flatMap f
 | [],_,h=>h
 |x::r,_,⟨c0,c1,e,h1,h2⟩=>by rw [e,h1,rowsOf_flat h2,List.flatMap_cons]
theorem rowsOf_chns {w:World} {B:Nat}: ∀ {l:List Chn} {cs:List Value},RowsOf (ChnC w B) l cs→ChnsC w B l cs
 | [],_,h=>h
 |_::_,_,⟨c0,c1,e,h1,h2⟩=>⟨c0,c1,e,h1,rowsOf_chns h2⟩
section
variable {H:Type} {enc:TypeId × Value→H} {P:Program} {w:World} {base:Nat} {spare:Nat→Bool} {held:Bool}
theorem open_elems {α:Type} [Inhabited α] {rel:α→List Value→Prop} {ok:α→Prop} {g:α→Nat} {sz n:Nat} {e:TypeId} {a:Addr}
  (hC:P.cellsOf e=sz) (hel: ∀n cs (y:DataW H × List MemPlace),DataW.trod enc P w base spare held n e cs=some y→ ∃x:α,rel x cs∧ok x∧g x+1≤Rows.uptoBulk y.1):
  ∀(elems:List (DataW H × List MemPlace)) (k:Nat),(∀i,i <elems.length→(w.cells? base (a.add ((k+i)*sz)) sz).bind (DataW.trod enc P w base spare held n e)=elems[i]?)→
   ∃(l:List α) (cs:List Value),l.length=elems.length∧RowsOf rel l cs∧cs.length=elems.length*sz∧(∀x ∈ l,ok x)∧sumBy g l+l.length≤Rows.uptoBulkAll (elems.map (·.1))∧
    ∀j u,cs[j]? =some u→w.cell? (a.add (k*sz+j))=some u
 | [],k,_=>⟨[],[],rfl,rfl,by simp,by simp,by simp [sumBy,Rows.uptoBulkAll],by simp⟩
 |y::r,k,h=>by
  have h0:=h 0 (by simp)
  rw [Nat.add_zero] at h0
  obtain ⟨c0,hc0,ht0⟩:=Option.bind_eq_some_iff.1 (h0.trans (by simp:(y::r)[0]? =some y))
  obtain ⟨x,hrel,hok,hg⟩:=hel n c0 y ht0
  obtain ⟨_,hl0,hat⟩:=World.cells?_some hc0
  obtain ⟨l,cs,h1,h2,h3,h4,h5,h6⟩:=open_elems (a:=a) hC hel r (k+1) (fun i hi=>by
   have:=h (i+1) (by simpa using hi)
   rw [show k+1+i=k+(i+1) from by omega,this]
   simp)
  refine ⟨x::l,c0++cs,by simp [h1],⟨c0,cs,rfl,hrel,h2⟩,by simp [hl0,h3,Nat.succ_mul];omega, ?_, ?_, ?_⟩
  ·intro z hz
   rcases List.mem_cons.1 hz with rfl |hz
   ·exact hok
   ·exact h4 z hz
  ·simp only [sumBy,List.map_cons,List.sum_cons,List.length_cons,Rows.uptoBulkAll] at h5 ⊢
   omega
  ·intro j u hu
   rcases Nat.lt_or_ge j sz with hj |hj
   ·rw [List.getElem?_append_left (by omega)] at hu
    have:=hat j hj
    rw [Go.Deep.add_add] at this
    rw [this];exact hu
   ·rw [List.getElem?_append_right (by omega),hl0] at hu
    have:=h6 (j -sz) u hu
    rwa [show (k+1)*sz+(j -sz)=k*sz+j from by rw [Nat.succ_mul];omega] at this
theorem open_list {α:Type} [Inhabited α] {rel:α→List Value→Prop} {ok:α→Prop} {g:α→Nat} {sz:Nat} {t e:TypeId} {fuel:Nat} {cs:List Value} {x:DataW H × List MemPlace}
  (ht:P.underlying t=some (.slice e)) (hC:P.cellsOf e=sz) (hsz:0 <sz)
  (hel: ∀n cs (y:DataW H × List MemPlace),DataW.trod enc P w base spare held n e cs=some y→ ∃x:α,rel x cs∧ok x∧g x+1≤Rows.uptoBulk y.1) (h:DataW.trod enc P w base spare held fuel t cs=some x):
  ∃(A:Option Addr) (c:Nat) (l:List α) (rows:List Value),cs= [.slice A l.length c]∧l.length≤c∧c≤maxLen∧RowsOf rel l rows∧Rd w w.heap.size sz A l.length rows∧(∀x ∈ l,ok x)∧sumBy g l+l.length+1≤Rows.uptoBulk x.1:=by
 rcases DataW.trod_slice ht h with ⟨rfl,rfl⟩ |⟨a,len,cap,elems,rest,n,_,rfl,rfl,_,hl,hm,hlen,hel',_,_⟩
 ·exact ⟨none,0,[],[],rfl,Nat.le_refl _,Nat.zero_le _,rfl,Rd.nil,by simp,by simp [sumBy,Rows.uptoBulk]⟩
 ·rw [hC] at hel'
  obtain ⟨l,rows,h1,h2,h3,h4,h5,h6⟩:=open_elems (a:=a) hC hel elems 0 (fun i hi=>by rw [Nat.zero_add];exact hel' i (by omega))
  refine ⟨some a,cap,l,rows,by rw [h1,hlen],by omega,hm,h2,⟨by rw [h3,h1],fun hn=> ?_⟩,h4, ?_⟩
  ·have hpos:0 <rows.length:=by rw [h3, ←h1];exact Nat.mul_pos hn hsz
   have hc0:=h6 0 _ (List.getElem?_eq_getElem hpos)
   rw [Nat.zero_mul,Nat.zero_add] at hc0
   have hsp:=cell_spot hc0
   have ha0:a.add 0=a:=by simp [Addr.add]
   rw [ha0] at hsp hc0
   refine ⟨a.block,a.off,by rw [←hsp],cell_lt hc0,fun j u hu=> ?_⟩
   have:=h6 j u hu
   rw [Nat.zero_mul,Nat.zero_add,hsp,addr_add] at this
   exact this
  ·simp only [Rows.uptoBulk]
   omega
end
section
variable {H:Type} {enc:TypeId × Value→H} {w:World} {base:Nat} {spare:Nat→Bool} {held:Bool}
theorem cellsU16:Tryz.prog.cellsOf 47=1:=by kernel_rfl
theorem cellsU64:Tryz.prog.cellsOf 22=1:=by kernel_rfl
theorem cellsU32:Tryz.prog.cellsOf 50=1:=by kernel_rfl
theorem cellsU8:Tryz.prog.cellsOf 5=1:=by kernel_rfl
theorem cellsStr:Tryz.prog.cellsOf 9=1:=by kernel_rfl
theorem cellsBool:Tryz.prog.cellsOf 4=1:=by kernel_rfl
theorem cellsPar:Tryz.prog.cellsOf 49=4:=by kernel_rfl
theorem open_par {n:Nat} {cs:List Value} {y:DataW H × List MemPlace} (h:DataW.trod enc Tryz.prog w base spare held n 49 cs=some y): ∃x:Par,cs=x.cells∧x.ok∧(fun x=>x.name.size) x+1≤Rows.uptoBulk y.1:=by
 obtain ⟨xs,m,_,hx,hl,hlen,hf⟩:=DataW.trod_struct Tryz.underlying49 h
 rw [cellsPar] at hl
 obtain ⟨c0,c1,c2,c3,rfl⟩:=len4 hl
 obtain ⟨y0,y1,y2,y3,rfl⟩:=len4 (hlen.trans rfl)
 have h0:=hf 0 _ rfl
 simp [cellsU16] at h0
 obtain ⟨v0,e0,d0,w0⟩:=DataW.trod_int Tryz.underlying47 h0
 simp at e0
 subst e0 d0
 have h1:=hf 1 _ rfl
 simp [cellsStr] at h1
 obtain ⟨v1,e1,d1,w1⟩:=DataW.trod_string Tryz.underlying9 h1
 simp at e1
 subst e1 d1
 have h2:=hf 2 _ rfl
 simp [cellsU64] at h2
 obtain ⟨v2,e2,d2,w2⟩:=DataW.trod_int Tryz.underlying22 h2
 simp at e2
 subst e2 d2
 have h3:=hf 3 _ rfl
 simp [cellsU64] at h3
 obtain ⟨v3,e3,d3,w3⟩:=DataW.trod_int Tryz.underlying22 h3
 simp at e3
 subst e3 d3
 subst hx
 refine ⟨⟨v0,v1,v2,v3⟩,rfl,⟨w0,w1,w2,w3⟩, ?_⟩
 simp [Rows.uptoBulk,Rows.uptoBulkAll]
 omega
theorem cellsWin:Tryz.prog.cellsOf 71=3:=by kernel_rfl
theorem open_win {n:Nat} {cs:List Value} {y:DataW H × List MemPlace} (h:DataW.trod enc Tryz.prog w base spare held n 71 cs=some y): ∃x:Win,cs=x.cells∧x.ok∧(fun _=>0) x+1≤Rows.uptoBulk y.1:=by
 obtain ⟨xs,m,_,hx,hl,hlen,hf⟩:=DataW.trod_struct Tryz.underlying71 h
 rw [cellsWin] at hl
 obtain ⟨c0,c1,c2,rfl⟩:=len3 hl
 obtain ⟨y0,y1,y2,rfl⟩:=len3 (hlen.trans rfl)
 have h0:=hf 0 _ rfl
 simp [cellsU64] at h0
 obtain ⟨v0,e0,d0,w0⟩:=DataW.trod_int Tryz.underlying22 h0
 simp at e0
 subst e0 d0
 have h1:=hf 1 _ rfl
 simp [cellsU64] at h1
 obtain ⟨v1,e1,d1,w1⟩:=DataW.trod_int Tryz.underlying22 h1
 simp at e1
 subst e1 d1
 have h2:=hf 2 _ rfl
 simp [cellsU16] at h2
 obtain ⟨v2,e2,d2,w2⟩:=DataW.trod_int Tryz.underlying47 h2
 simp at e2
 subst e2 d2
 subst hx
 refine ⟨⟨v0,v1,v2⟩,rfl,⟨w0,w1,w2⟩, ?_⟩
 simp [Rows.uptoBulk,Rows.uptoBulkAll]
theorem cellsReg:Tryz.prog.cellsOf 75=5:=by kernel_rfl
theorem open_reg {n:Nat} {cs:List Value} {y:DataW H × List MemPlace} (h:DataW.trod enc Tryz.prog w base spare held n 75 cs=some y): ∃x:Reg,cs=x.cells∧x.ok∧(fun _=>0) x+1≤Rows.uptoBulk y.1:=by
 obtain ⟨xs,m,_,hx,hl,hlen,hf⟩:=DataW.trod_struct Tryz.underlying75 h
 rw [cellsReg] at hl
 obtain ⟨c0,c1,c2,c3,c4,rfl⟩:=len5 hl
 obtain ⟨y0,y1,y2,y3,y4,rfl⟩:=len5 (hlen.trans rfl)
 have h0:=hf 0 _ rfl
 simp [cellsU64] at h0
 obtain ⟨v0,e0,d0,w0⟩:=DataW.trod_int Tryz.underlying22 h0
 simp at e0
 subst e0 d0
 have h1:=hf 1 _ rfl
 simp [cellsU64] at h1
 obtain ⟨v1,e1,d1,w1⟩:=DataW.trod_int Tryz.underlying22 h1
 simp at e1
 subst e1 d1
 have h2:=hf 2 _ rfl
 simp [cellsU16] at h2
 obtain ⟨v2,e2,d2,w2⟩:=DataW.trod_int Tryz.underlying47 h2
 simp at e2
 subst e2 d2
 have h3:=hf 3 _ rfl
 simp [cellsU8] at h3
 obtain ⟨v3,e3,d3,w3⟩:=DataW.trod_int Tryz.underlying5 h3
 simp at e3
 subst e3 d3
 have h4:=hf 4 _ rfl
 simp [cellsBool] at h4
 obtain ⟨v4,e4,d4⟩:=DataW.trod_bool Tryz.underlying4 h4
 simp at e4
 subst e4 d4
 subst hx
 refine ⟨⟨v0,v1,v2,v3,v4⟩,rfl,⟨w0,w1,w2,w3⟩, ?_⟩
 simp [Rows.uptoBulk,Rows.uptoBulkAll]
theorem cellsPrt:Tryz.prog.cellsOf 52=6:=by kernel_rfl
theorem open_prt {n:Nat} {cs:List Value} {y:DataW H × List MemPlace} (h:DataW.trod enc Tryz.prog w base spare held n 52 cs=some y): ∃x:Prt,cs=x.cells∧x.ok∧(fun x=>x.name.size) x+1≤Rows.uptoBulk y.1:=by
 obtain ⟨xs,m,_,hx,hl,hlen,hf⟩:=DataW.trod_struct Tryz.underlying52 h
 rw [cellsPrt] at hl
 obtain ⟨c0,c1,c2,c3,c4,c5,rfl⟩:=len6 hl
 obtain ⟨y0,y1,y2,y3,y4,y5,rfl⟩:=len6 (hlen.trans rfl)
 have h0:=hf 0 _ rfl
 simp [cellsU16] at h0
 obtain ⟨v0,e0,d0,w0⟩:=DataW.trod_int Tryz.underlying47 h0
 simp at e0
 subst e0 d0
 have h1:=hf 1 _ rfl
 simp [cellsU16] at h1
 obtain ⟨v1,e1,d1,w1⟩:=DataW.trod_int Tryz.underlying47 h1
 simp at e1
 subst e1 d1
 have h2:=hf 2 _ rfl
 simp [cellsStr] at h2
 obtain ⟨v2,e2,d2,w2⟩:=DataW.trod_string Tryz.underlying9 h2
 simp at e2
 subst e2 d2
 have h3:=hf 3 _ rfl
 simp [cellsBool] at h3
 obtain ⟨v3,e3,d3⟩:=DataW.trod_bool Tryz.underlying4 h3
 simp at e3
 subst e3 d3
 have h4:=hf 4 _ rfl
 simp [cellsBool] at h4
 obtain ⟨v4,e4,d4⟩:=DataW.trod_bool Tryz.underlying4 h4
 simp at e4
 subst e4 d4
 have h5:=hf 5 _ rfl
 simp [cellsU32] at h5
 obtain ⟨v5,e5,d5,w5⟩:=DataW.trod_int Tryz.underlying50 h5
 simp at e5
 subst e5 d5
 subst hx
 refine ⟨⟨v0,v1,v2,v3,v4,v5⟩,rfl,⟨w0,w1,w2,w5⟩, ?_⟩
 simp [Rows.uptoBulk,Rows.uptoBulkAll]
 omega
theorem open_u16s {n:Nat} {cs:List Value} {y:DataW H × List MemPlace} (h:DataW.trod enc Tryz.prog w base spare held n 55 cs=some y):
  ∃(A:Option Addr) (c:Nat) (l:List Int),cs= [.slice A l.length c]∧l.length≤c∧c≤maxLen∧Rd w w.heap.size 1 A l.length (l.map (Value.int .u16))∧(∀x ∈ l,wU16 x)∧l.length+1≤Rows.uptoBulk y.1:=by
 obtain ⟨A,c,l,rows,h1,h2,h3,h4,h5,h6,h7⟩:=open_list (α:=Int) (rel:=fun x c=>c= [Value.int .u16 x]) (ok:=wU16) (g:=fun _=>0) Tryz.underlying55 cellsU16 (by omega) (fun n cs y hy=>by
  obtain ⟨v,e,d,hw⟩:=DataW.trod_int Tryz.underlying47 hy
  exact ⟨v,e,hw,by subst d;simp [Rows.uptoBulk]⟩) h
 have hr:=rowsOf_flat h4
 rw [←List.map_eq_flatMap] at hr
 refine ⟨A,c,l,h1,h2,h3,by rw [hr] at h5;simpa using h5,h6,by omega⟩
theorem cellsSl:Tryz.prog.cellsOf 55=1:=by kernel_rfl
theorem cellsChn:Tryz.prog.cellsOf 57=3:=by kernel_rfl
theorem open_chn {n:Nat} {cs:List Value} {y:DataW H × List MemPlace} (h:DataW.trod enc Tryz.prog w base spare held n 57 cs=some y): ∃x:Chn,ChnC w w.heap.size x cs∧x.ok∧x.dests.length+1≤Rows.uptoBulk y.1:=by
 obtain ⟨xs,m,_,hx,hl,hlen,hf⟩:=DataW.trod_struct Tryz.underlying57 h
 rw [cellsChn] at hl
 obtain ⟨c0,c1,c2,rfl⟩:=len3 hl
 obtain ⟨y0,y1,y2,rfl⟩:=len3 (hlen.trans rfl)
 have h0:=hf 0 _ rfl
 simp [cellsU16] at h0
 obtain ⟨v0,e0,d0,w0⟩:=DataW.trod_int Tryz.underlying47 h0
 have h1:=hf 1 _ rfl
 simp [cellsU16] at h1
 obtain ⟨v1,e1,d1,w1⟩:=DataW.trod_int Tryz.underlying47 h1
 have h2:=hf 2 _ rfl
 simp [cellsSl] at h2
 obtain ⟨A,c,l,e2,q1,q2,q3,q4,q5⟩:=open_u16s h2
 simp at e0 e1 e2
 subst e0 e1 e2 d0 d1 hx
 refine ⟨⟨v0,v1,l⟩,⟨A,c,rfl,q1,q2,q3⟩,⟨w0,w1,q4⟩, ?_⟩
 simp [Rows.uptoBulk,Rows.uptoBulkAll]
 omega
theorem sumBy_mem {α:Type} (g:α→Nat): ∀ {l:List α} {x:α},x ∈ l→g x≤sumBy g l
 |y::r,x,h=>by
  simp only [sumBy,List.map_cons,List.sum_cons]
  rcases List.mem_cons.1 h with rfl |h
  ·omega
  ·have:=sumBy_mem g h
   simp only [sumBy] at this
   omega
theorem cellsSPartition:Tryz.prog.cellsOf 23=1:=by kernel_rfl
theorem cellsSWindow:Tryz.prog.cellsOf 24=1:=by kernel_rfl
theorem cellsSRegion:Tryz.prog.cellsOf 25=1:=by kernel_rfl
theorem cellsSPort:Tryz.prog.cellsOf 26=1:=by kernel_rfl
theorem cellsSChannel:Tryz.prog.cellsOf 27=1:=by kernel_rfl
theorem cellsCfg:Tryz.prog.cellsOf 29=6:=by kernel_rfl
theorem open_cfg {n:Nat} {cs:List Value} {y:DataW H × List MemPlace} (h:DataW.trod enc Tryz.prog w base spare held n 29 cs=some y):
  ∃(c:Cfg) (A1 A2 A3 A4 A5:Option Addr) (c1 c2 c3 c4 c5:Nat),cs= [.int .u64 c.frame, .slice A1 c.parts.length c1, .slice A2 c.wins.length c2, .slice A3 c.regs.length c3, .slice A4 c.ports.length c4, .slice A5 c.chans.length c5]∧
   CfgR w w.heap.size c A1 A2 A3 A4 A5 c1 c2 c3 c4 c5∧c.ok∧c.total≤Rows.uptoBulk y.1∧(∀p ∈ c.parts,p.name.size≤Rows.uptoBulk y.1)∧(∀p ∈ c.ports,p.name.size≤Rows.uptoBulk y.1):=by
 obtain ⟨xs,m,_,hx,hl,hlen,hf⟩:=DataW.trod_struct Tryz.underlying29 h
 rw [cellsCfg] at hl
 obtain ⟨c0,c1,c2,c3,c4,c5,rfl⟩:=len6 hl
 obtain ⟨y0,y1,y2,y3,y4,y5,rfl⟩:=len6 (hlen.trans rfl)
 have h0:=hf 0 _ rfl
 simp [cellsU64] at h0
 obtain ⟨v0,e0,d0,w0⟩:=DataW.trod_int Tryz.underlying22 h0
 have h1:=hf 1 _ rfl
 simp [cellsSPartition] at h1
 obtain ⟨A1,p1,l1,r1,e1,a1,b1,k1,rd1,o1,g1⟩:=open_list (rel:=fun (x:Par) c=>c=x.cells) (ok:=Par.ok) Tryz.underlying23 cellsPar (by omega) (fun n cs y hy=>open_par hy) h1
 have h2:=hf 2 _ rfl
 simp [cellsSWindow] at h2
 obtain ⟨A2,p2,l2,r2,e2,a2,b2,k2,rd2,o2,g2⟩:=open_list (rel:=fun (x:Win) c=>c=x.cells) (ok:=Win.ok) Tryz.underlying24 cellsWin (by omega) (fun n cs y hy=>open_win hy) h2
 have h3:=hf 3 _ rfl
 simp [cellsSRegion] at h3
 obtain ⟨A3,p3,l3,r3,e3,a3,b3,k3,rd3,o3,g3⟩:=open_list (rel:=fun (x:Reg) c=>c=x.cells) (ok:=Reg.ok) Tryz.underlying25 cellsReg (by omega) (fun n cs y hy=>open_reg hy) h3
 have h4:=hf 4 _ rfl
 simp [cellsSPort] at h4
 obtain ⟨A4,p4,l4,r4,e4,a4,b4,k4,rd4,o4,g4⟩:=open_list (rel:=fun (x:Prt) c=>c=x.cells) (ok:=Prt.ok) Tryz.underlying26 cellsPrt (by omega) (fun n cs y hy=>open_prt hy) h4
 have h5:=hf 5 _ rfl
 simp [cellsSChannel] at h5
 obtain ⟨A5,p5,l5,r5,e5,a5,b5,k5,rd5,o5,g5⟩:=open_list (rel:=ChnC w w.heap.size) (ok:=Chn.ok) (g:=fun x=>x.dests.length) Tryz.underlying27 cellsChn (by omega) (fun n cs y hy=>open_chn hy) h5
 rw [rowsOf_flat k1] at rd1
 rw [rowsOf_flat k2] at rd2
 rw [rowsOf_flat k3] at rd3
 rw [rowsOf_flat k4] at rd4
 simp at e0 e1 e2 e3 e4 e5
 subst e0 e1 e2 e3 e4 e5 d0 hx
 have hb:Rows.uptoBulk (DataW.agg (List.map (·.1) [(DataW.lit (.int .u64 v0),([]:List MemPlace)),y1,y2,y3,y4,y5]))=1+(Rows.uptoBulk y1.1+(Rows.uptoBulk y2.1+(Rows.uptoBulk y3.1+(Rows.uptoBulk y4.1+(Rows.uptoBulk y5.1+0)))))+1:=by
  simp [Rows.uptoBulk,Rows.uptoBulkAll]
 refine ⟨⟨v0,l1,l2,l3,l4,l5⟩,A1,A2,A3,A4,A5,p1,p2,p3,p4,p5,rfl,⟨rd1,rd2,rd3,rd4,⟨r5,rowsOf_chns k5,rd5⟩,⟨a1,b1⟩,⟨a2,b2⟩,⟨a3,b3⟩,⟨a4,b4⟩,⟨a5,b5⟩⟩,⟨w0,o1,o2,o3,o4,o5⟩, ?_,fun p hp=> ?_,fun p hp=> ?_⟩
 ·rw [hb]
  have e:sumBy (fun x:Chn=>x.dests.length) l5=sumDests l5:=rfl
  simp only [Cfg.total]
  omega
 ·rw [hb]
  have:p.name.size≤sumBy (fun x:Par=>x.name.size) l1:=sumBy_mem (fun x:Par=>x.name.size) hp
  omega
 ·rw [hb]
  have:p.name.size≤sumBy (fun x:Prt=>x.name.size) l4:=sumBy_mem (fun x:Prt=>x.name.size) hp
  omega
end
end Go.Proofs.YteelncofiodflaaGreat
namespace Go.Proofs.YteelncofiodflaaGreat
open Go.RowKit
set_option maxHeartbeats 400000 in
theorem counts_ok (c:Cfg) (A1 A2 A3 A4 A5:Option Addr) (c1 c2 c3 c4 c5:Nat) (w:World) (hR:CfgR w w.heap.size c A1 A2 A3 A4 A5 c1 c2 c3 c4 c5) (hs:c.small):
  Calls Tryz.prog 8 #[cfgV c.frame A1 A2 A3 A4 A5 c.parts.length c.wins.length c.regs.length c.ports.length c.chans.length c1 c2 c3 c4 c5] w fun e w'=>
   e= .returned (.agg #[.int .i64 0, .int .i64 c.parts.length, .int .i64 c.wins.length, .int .i64 c.regs.length, .int .i64 c.ports.length, .int .i64 c.chans.length, .int .i64 (sumDests c.chans)])∧Below w.heap.size w w':=by
 obtain ⟨cs,hC,hr⟩:=hR.chans
 have ht:c.total≤1048576:=hs.total
 have h5:c.chans.length≤1048576:=by unfold Cfg.total at ht;omega
 have hsum: ∀k,sumDests (c.chans.take k)≤1048576:=fun k=>by have:=sumDests_take c.chans k;unfold Cfg.total at ht;omega
 obtain ⟨fr,ps,ws,rs,ts,xs⟩:=c
 simp only [] at*
 clear hs ht hR
 go_enter Tryz.func8,Tryz.ntmps8
 go_wp2
 go_loop [3,4] (fun t i=> ∃k:Nat,k≤xs.length∧i= .int .i64 k∧t= .int .i64 (sumDests (xs.take k))) (fun _ i=>xs.length -(intOf i).toNat)
 case atStart=>exact ⟨0,Nat.zero_le _,rfl,rfl⟩
 case round=>
  obtain ⟨k,hk,rfl,rfl⟩:=hrel
  have h1:=hsum k
  by_cases hlt:k <xs.length
  ·obtain ⟨x,hx⟩:=get_lt hlt
   have h2:=hsum (k+1)
   have HN:=Lib.hid (sumDests_next hx)
   rw [sumDests_next hx] at h2
   obtain ⟨b,o,rfl,hb,_,_,D,d,g2,_,_,_⟩:=chn_at hC hr hx
   clear hsum hx hC hr
   go_wp2
   go_round
   case rel=>exact ⟨k+1,by omega,by go_num,by rw [HN.out];go_num⟩
   case measure=>simp [intOf];omega
  ·obtain rfl:k=xs.length:=by omega
   clear hsum hC hr
   go_wp2
   refine bodyPost_ret (v:= .agg #[.int .i64 0, .int .i64 ps.length, .int .i64 ws.length, .int .i64 rs.length, .int .i64 ts.length, .int .i64 xs.length, .int .i64 (sumDests (xs.take xs.length))]) (by simp [results,Tryz.results8,go_sem]) rfl ⟨by rw [List.take_length], ?_⟩
   exact ((Below.refl _ _).alloc (Nat.le_refl _) _).alloc (by simp) _
def few (c:Cfg):Bool:=c.parts.all (fun p=>decide (p.name.size≤100))&&c.ports.all (fun p=>decide (p.name.size≤100))&&decide (c.total≤120)
theorem few_parts {c:Cfg} {k:Nat} {x:Par} (hx:c.parts[k]? =some x) (h: ¬x.name.size≤100):few c=false:=by
 have:c.parts.all (fun p=>decide (p.name.size≤100))=false:=by
  rw [List.all_eq_false]
  exact ⟨x,List.mem_of_getElem? hx,by simpa using h⟩
 simp [few,this]
theorem few_ports {c:Cfg} {k:Nat} {x:Prt} (hx:c.ports[k]? =some x) (h: ¬x.name.size≤100):few c=false:=by
 have:c.ports.all (fun p=>decide (p.name.size≤100))=false:=by
  rw [List.all_eq_false]
  exact ⟨x,List.mem_of_getElem? hx,by simpa using h⟩
 simp [few,this]
theorem few_total {c:Cfg} (h1: ∀i x,i <c.parts.length→c.parts[i]? =some x→x.name.size≤100) (h2: ∀i x,i <c.ports.length→c.ports[i]? =some x→x.name.size≤100):few c=decide (c.total≤120):=by
 have e1:c.parts.all (fun p=>decide (p.name.size≤100))=true:=by
  rw [List.all_eq_true]
  intro x hx
  obtain ⟨i,hi,e⟩:=List.getElem_of_mem hx
  simpa using h1 i x hi (by rw [List.getElem?_eq_getElem hi,e])
 have e2:c.ports.all (fun p=>decide (p.name.size≤100))=true:=by
  rw [List.all_eq_true]
  intro x hx
  obtain ⟨i,hi,e⟩:=List.getElem_of_mem hx
  simpa using h2 i x hi (by rw [List.getElem?_eq_getElem hi,e])
 simp [few,e1,e2]
set_option maxHeartbeats 1000000 in
theorem few_ok (c:Cfg) (A1 A2 A3 A4 A5:Option Addr) (c1 c2 c3 c4 c5:Nat) (w:World) (hR:CfgR w w.heap.size c A1 A2 A3 A4 A5 c1 c2 c3 c4 c5) (hs:c.small):
  Calls Tryz.prog 4 #[cfgV c.frame A1 A2 A3 A4 A5 c.parts.length c.wins.length c.regs.length c.ports.length c.chans.length c1 c2 c3 c4 c5] w fun e w'=>
   e= .returned (.bool (few c))∧Below w.heap.size w w':=by
 have hP:=hR.parts
 have hT:=hR.ports
 have ht:c.total≤1048576:=hs.total
 have HC:=Lib.hid (counts_ok c A1 A2 A3 A4 A5 c1 c2 c3 c4 c5 (w.alloc (.cells #[.int .u64 c.frame, .slice A1 c.parts.length c1, .slice A2 c.wins.length c2, .slice A3 c.regs.length c3, .slice A4 c.ports.length c4, .slice A5 c.chans.length c5] 29)) ((hR.alloc (Nat.le_refl _) _).more (by simp)) hs)
 have hn: ∀p ∈ c.parts,p.name.size≤1048576:=hs.pnames
 have hm: ∀p ∈ c.ports,p.name.size≤1048576:=hs.tnames
 have b1:c.parts.length≤1048576:=by unfold Cfg.total at ht;omega
 have b2:c.wins.length≤1048576:=by unfold Cfg.total at ht;omega
 have b3:c.regs.length≤1048576:=by unfold Cfg.total at ht;omega
 have b4:c.ports.length≤1048576:=by unfold Cfg.total at ht;omega
 have b5:c.chans.length≤1048576:=by unfold Cfg.total at ht;omega
 have b6:sumDests c.chans≤1048576:=by unfold Cfg.total at ht;omega
 have HT:=Lib.hid (show c.total=c.parts.length+c.wins.length+c.regs.length+c.ports.length+c.chans.length+sumDests c.chans from rfl)
 clear hR hs ht
 go_enter Tryz.func4,Tryz.ntmps4
 go_wp2_with (go_at_call 8;refine HC.out.mono ?_;rintro e w1 ⟨rfl,hb1⟩)
 obtain ⟨hc1,_⟩:=bcell hb1
 have hz:=hb1.size
 simp only [World.size_alloc] at hz
 have hz1:w.heap.size <w1.heap.size:=by omega
 go_loop [4] (fun i=> ∃k:Nat,k≤c.parts.length∧i= .int .i64 k∧Hid (∀i x,i <k→c.parts[i]? =some x→x.name.size≤100)) (fun i=>c.parts.length -(intOf i).toNat)
 case atStart=>exact ⟨0,Nat.zero_le _,rfl,Lib.hid fun i x h=>absurd h (by omega)⟩
 case round=>
  obtain ⟨k,hk,rfl,hall⟩:=hrel
  by_cases hlt:k <c.parts.length
  ·obtain ⟨x,hx⟩:=get_lt hlt
   obtain ⟨b,o,rfl,hb,_,g1,_,_⟩:=par_at hP hx
   have hl:=hn x (List.mem_of_getElem? hx)
   have HX:=Lib.hid hx
   have hb':b <w1.heap.size:=by omega
   clear hx hn hm
   go_wp2
   ·have h1:(100:Int) <x.name.size:=by assumption
    go_ret
    exact ⟨ret_bool (few_parts HX.out (by omega)).symm,(((Below.refl _ _).alloc (Nat.le_refl _) _).trans (hb1.mono (by simp))).alloc (by omega) _⟩
   ·have h1:(x.name.size:Int)≤100:=by assumption
    go_round
    case rel=>
     refine ⟨k+1,by omega,by go_num,Lib.hid fun i y hi hy=> ?_⟩
     rcases Nat.lt_or_ge i k with h |h
     ·exact hall.out i y h hy
     ·obtain rfl:i=k:=by omega
      rw [HX.out] at hy
      cases hy
      omega
    case measure=>simp [intOf];omega
  ·obtain rfl:k=c.parts.length:=by omega
   clear hP hn
   go_wp2
   go_loop [5] (fun i=> ∃k:Nat,k≤c.ports.length∧i= .int .i64 k∧Hid (∀i x,i <k→c.ports[i]? =some x→x.name.size≤100)) (fun i=>c.ports.length -(intOf i).toNat)
   case atStart=>exact ⟨0,Nat.zero_le _,rfl,Lib.hid fun i x h=>absurd h (by omega)⟩
   case round=>
    obtain ⟨k,hk,rfl,hall2⟩:=hrel
    by_cases hlt:k <c.ports.length
    ·obtain ⟨x,hx⟩:=get_lt hlt
     obtain ⟨b,o,rfl,hb,_,_,g1,_⟩:=prt_at hT hx
     have hl:=hm x (List.mem_of_getElem? hx)
     have HX:=Lib.hid hx
     have hb':b <w1.heap.size:=by omega
     clear hx hm
     go_wp2
     ·have h1:(100:Int) <x.name.size:=by assumption
      go_ret
      exact ⟨ret_bool (few_ports HX.out (by omega)).symm,(((Below.refl _ _).alloc (Nat.le_refl _) _).trans (hb1.mono (by simp))).alloc (by omega) _⟩
     ·have h1:(x.name.size:Int)≤100:=by assumption
      go_round
      case rel=>
       refine ⟨k+1,by omega,by go_num,Lib.hid fun i y hi hy=> ?_⟩
       rcases Nat.lt_or_ge i k with h |h
       ·exact hall2.out i y h hy
       ·obtain rfl:i=k:=by omega
        rw [HX.out] at hy
        cases hy
        omega
      case measure=>simp [intOf];omega
    ·obtain rfl:k=c.ports.length:=by omega
     clear hT hm
     go_wp2
     go_ret
     refine ⟨ret_bool ?_,(((Below.refl _ _).alloc (Nat.le_refl _) _).trans (hb1.mono (by simp))).alloc (by omega) _⟩
     rw [few_total hall.out hall2.out,HT.out]
     exact decide_eq_decide.2 (by omega)
end Go.Proofs.YteelncofiodflaaGreat
namespace Go.Proofs.YteelncofiodflaaGreat
open Go.RowKit
def idxFrom {α:Type} (p:α→Bool):Nat→List α→Int
 |_,[]=> -1
 |i,x::r=>if p x then i else idxFrom p (i+1) r
def idx {α:Type} (p:α→Bool) (l:List α):Int:=idxFrom p 0 l
theorem idx_hit {α:Type} {p:α→Bool} {l:List α} {k:Nat} {x:α} {v:Int} (h:v=idxFrom p k (l.drop k)) (hx:l[k]? =some x) (hp:p x=true):v=k:=by
 rw [h,drop_cons hx,idxFrom,if_pos hp]
theorem idx_miss {α:Type} {p:α→Bool} {l:List α} {k:Nat} {x:α} {v:Int} (h:v=idxFrom p k (l.drop k)) (hx:l[k]? =some x) (hp:p x=false):v=idxFrom p (k+1) (l.drop (k+1)):=by
 rw [h,drop_cons hx,idxFrom,if_neg (by rw [hp];decide)]
theorem idx_end {α:Type} {p:α→Bool} {l:List α} {v:Int} (h:v=idxFrom p l.length (l.drop l.length)):v= -1:=by
 rw [h,List.drop_length,idxFrom]
theorem below_drewN {B:Nat} {a w:World} (h:Below B a w) (n:Nat):Below B a (w.drewN n):=⟨h.os,h.tape,h.output,h.size,h.block⟩
end Go.Proofs.YteelncofiodflaaGreat
namespace Go.Proofs.YteelncofiodflaaGreat
open Go.RowKit
end Go.Proofs.YteelncofiodflaaGreat
namespace Go.Proofs.YteelncofiodflaaGreat
open Go.RowKit
theorem info_u16:(Tryz.prog.info? 47).map (fun i=>(i.zero,i.size,i.bytes))=some (some (.int .u16 0),1,2):=by kernel_rfl
theorem beqb_true {a b:ByteArray} (h:(a==b)=true):a=b:=by
 rw [beq_toListBytes,beq_iff_eq,ByteArray.toList_eq,ByteArray.toList_eq] at h
 cases a;cases b;simp at h;rw [h]
def Prt.key (p:Prt):Int × ByteArray:=(p.part,p.name)
theorem own_form {w:World} {base:Nat} {e:TypeId} {size:Nat} {v:Value} {n:Nat} {xs:List Value} (h:w.ownsRow base e size v n xs): ∃A c,v= .slice A n c∧n≤c∧c≤maxLen∧Rd w w.heap.size size A n xs:=by
 rcases h.2 with ⟨rfl,rfl⟩ |⟨g,cap,cur,rfl,_,_,h1,h2,_⟩
 ·have:xs= []:=List.eq_nil_of_length_eq_zero (by simpa using h.1)
  subst this
  exact ⟨none,0,rfl,Nat.le_refl _,Nat.zero_le _,Rd.nil⟩
 ·exact ⟨_,_,rfl,h1,h2,Rd.of_own h⟩
attribute [local go_sem] ext_cell
theorem below_own {B:Nat} {a w w':World} {e:TypeId} {size n:Nat} {v:Value} {xs:List Value} (h:Below B a w) (hg:w.grownBy w' v.ownBlock) (ho:w.ownsRow B e size v n xs) (hB:B≤w.heap.size):Below B a w':=
 h.grown hg hB fun k hk=>(ho.lt k hk).1
end Go.Proofs.YteelncofiodflaaGreat
namespace Go.Proofs.YteelncofiodflaaGreat
open Go.RowKit
open Go.Maps (Keyed)
theorem grown_cell {a b:World} {g:Nat} (h:a.grownBy b (some g)) {c o:Nat} (hc:c <a.heap.size) (hne:c≠g):b.cell? ⟨c,o,none⟩=a.cell? ⟨c,o,none⟩:=
 World.cell?_of_block (h.block c hc (fun e=>hne (by injection e)))
theorem Rd.grown {w w':World} {B sz n g:Nat} {A:Option Addr} {xs:List Value} (h:Rd w B sz A n xs) (hg:w.grownBy w' (some g)) (hB:B≤w.heap.size) (hne: ∀b o v,w.cell? ⟨b,o,none⟩=some v→b≠g):Rd w' B sz A n xs:=
 ⟨h.1,fun hn=>by
  obtain ⟨b,o,e,hb,hc⟩:=h.2 hn
  exact ⟨b,o,e,hb,fun j u hu=>(grown_cell hg (by omega) (hne b (o+j) u (hc j u hu))).trans (hc j u hu)⟩⟩
end Go.Proofs.YteelncofiodflaaGreat
namespace Go.Proofs.YteelncofiodflaaGreat
open Go.RowKit
end Go.Proofs.YteelncofiodflaaGreat
namespace Go.Proofs.YteelncofiodflaaGreat
open Go.RowKit
end Go.Proofs.YteelncofiodflaaGreat
namespace Go.Proofs.YteelncofiodflaaGreat
open Go.RowKit
structure Flt where
 code:Int
 part:Int
 at_:Int
@[reducible] def Flt.cells (f:Flt):Array Value:= #[.int .i64 f.code, .int .i64 f.part, .int .i64 f.at_]
@[reducible] def fltV (f:Flt):Value:= .agg f.cells
def noFlt:Flt:=⟨0,0,0⟩
theorem Rd.up {w w':World} {sz n:Nat} {A:Option Addr} {xs:List Value} (h:Rd w w.heap.size sz A n xs) (hb:Below w.heap.size w w'):Rd w' w'.heap.size sz A n xs:=(h.below hb).more hb.size
end Go.Proofs.YteelncofiodflaaGreat
namespace Go.Proofs.YteelncofiodflaaGreat
open Go.RowKit
theorem MapIs.grown {α β:Type} {w w':World} {P:Program} {K:TypeId} {key:α→Value} {val:β→Value} {b g:Nat} {es:List (α × β)} (h:MapIs w P K key val b es) (hg:w.grownBy w' (some g)) (hne:b≠g):MapIs w' P K key val b es:=
 h.block (hg.block b h.lt (fun e=>hne (by injection e)))
end Go.Proofs.YteelncofiodflaaGreat
namespace Go.Proofs.YteelncofiodflaaGreat
open Go.RowKit
structure St (w W:World) (c:Cfg) (A1 A2 A3 A4 A5:Option Addr) (c1 c2 c3 c4 c5:Nat):Prop where
 R0:CfgR w w.heap.size c A1 A2 A3 A4 A5 c1 c2 c3 c4 c5
 R:CfgR W W.heap.size c A1 A2 A3 A4 A5 c1 c2 c3 c4 c5
 bel:Below w.heap.size w W
 x0:W.cell? ⟨w.heap.size,0,none⟩=some (.int .u64 c.frame)
 x1:W.cell? ⟨w.heap.size,1,none⟩=some (.slice A1 c.parts.length c1)
 x2:W.cell? ⟨w.heap.size,2,none⟩=some (.slice A2 c.wins.length c2)
 x3:W.cell? ⟨w.heap.size,3,none⟩=some (.slice A3 c.regs.length c3)
 x4:W.cell? ⟨w.heap.size,4,none⟩=some (.slice A4 c.ports.length c4)
 x5:W.cell? ⟨w.heap.size,5,none⟩=some (.slice A5 c.chans.length c5)
 z:w.heap.size <W.heap.size
section
variable {w W V:World} {c:Cfg} {A1 A2 A3 A4 A5:Option Addr} {c1 c2 c3 c4 c5:Nat}
theorem St.start (hR:CfgR w w.heap.size c A1 A2 A3 A4 A5 c1 c2 c3 c4 c5) (t:TypeId):St w (w.alloc (.cells #[.int .u64 c.frame, .slice A1 c.parts.length c1, .slice A2 c.wins.length c2, .slice A3 c.regs.length c3, .slice A4 c.ports.length c4, .slice A5 c.chans.length c5] t)) c A1 A2 A3 A4 A5 c1 c2 c3 c4 c5:=
 ⟨hR,hR.up ((Below.refl _ _).alloc (Nat.le_refl _) _),(Below.refl _ _).alloc (Nat.le_refl _) _,by simp,by simp,by simp,by simp,by simp,by simp,by simp⟩
theorem St.up (h:St w W c A1 A2 A3 A4 A5 c1 c2 c3 c4 c5) (hb:Below W.heap.size W V):St w V c A1 A2 A3 A4 A5 c1 c2 c3 c4 c5:=by
 have q: ∀j,V.cell? ⟨w.heap.size,j,none⟩=W.cell? ⟨w.heap.size,j,none⟩:=fun j=>hb.cell (p:=⟨w.heap.size,j,none⟩) h.z
 exact ⟨h.R0,h.R.up hb,h.bel.trans (hb.mono h.bel.size),(q 0).trans h.x0,(q 1).trans h.x1,(q 2).trans h.x2,(q 3).trans h.x3,(q 4).trans h.x4,(q 5).trans h.x5,Nat.lt_of_lt_of_le h.z hb.size⟩
theorem St.keep (h:St w W c A1 A2 A3 A4 A5 c1 c2 c3 c4 c5) (hb:Below (w.heap.size+1) W V):St w V c A1 A2 A3 A4 A5 c1 c2 c3 c4 c5:=by
 have q: ∀j,V.cell? ⟨w.heap.size,j,none⟩=W.cell? ⟨w.heap.size,j,none⟩:=fun j=>hb.cell (p:=⟨w.heap.size,j,none⟩) (Nat.lt_succ_self _)
 have hbel:Below w.heap.size w V:=h.bel.trans (hb.mono (Nat.le_succ _))
 exact ⟨h.R0,h.R0.up hbel,hbel,(q 0).trans h.x0,(q 1).trans h.x1,(q 2).trans h.x2,(q 3).trans h.x3,(q 4).trans h.x4,(q 5).trans h.x5,Nat.lt_of_lt_of_le h.z hb.size⟩
theorem St.alloc (h:St w W c A1 A2 A3 A4 A5 c1 c2 c3 c4 c5) (o:Obj):St w (W.alloc o) c A1 A2 A3 A4 A5 c1 c2 c3 c4 c5:=h.up ((Below.refl _ _).alloc (Nat.le_refl _) _)
theorem St.drewN (h:St w W c A1 A2 A3 A4 A5 c1 c2 c3 c4 c5) (n:Nat):St w (W.drewN n) c A1 A2 A3 A4 A5 c1 c2 c3 c4 c5:=h.up ⟨rfl,rfl,rfl,Nat.le_refl _,fun _ _=>rfl⟩
theorem St.cells (h:St w W c A1 A2 A3 A4 A5 c1 c2 c3 c4 c5):W.cell? ⟨w.heap.size,0,none⟩=some (.int .u64 c.frame)∧W.cell? ⟨w.heap.size,1,none⟩=some (.slice A1 c.parts.length c1)∧W.cell? ⟨w.heap.size,2,none⟩=some (.slice A2 c.wins.length c2)∧
  W.cell? ⟨w.heap.size,3,none⟩=some (.slice A3 c.regs.length c3)∧W.cell? ⟨w.heap.size,4,none⟩=some (.slice A4 c.ports.length c4)∧W.cell? ⟨w.heap.size,5,none⟩=some (.slice A5 c.chans.length c5)∧w.heap.size <W.heap.size:=⟨h.x0,h.x1,h.x2,h.x3,h.x4,h.x5,h.z⟩
theorem St.start_any (hR:CfgR w w.heap.size c A1 A2 A3 A4 A5 c1 c2 c3 c4 c5) (t:TypeId): ∃W,w.alloc (.cells #[.int .u64 c.frame, .slice A1 c.parts.length c1, .slice A2 c.wins.length c2, .slice A3 c.regs.length c3, .slice A4 c.ports.length c4, .slice A5 c.chans.length c5] t)=W∧St w W c A1 A2 A3 A4 A5 c1 c2 c3 c4 c5:=
 ⟨_,rfl,St.start hR t⟩
end
theorem below_one (w:World) (o:Obj):Below w.heap.size w (w.alloc o):=(Below.refl _ _).alloc (Nat.le_refl _) _
theorem Below.then_ {w W V:World} (h:Below w.heap.size w W) (k:Below W.heap.size W V):Below w.heap.size w V:=h.trans (k.mono h.size)
def ChBox (w:World) (g:Nat) (x:Chn) (D:Option Addr) (d:Nat):Prop:=w.cell? ⟨g,0,none⟩=some (.int .u16 x.id)∧w.cell? ⟨g,1,none⟩=some (.int .u16 x.source)∧w.cell? ⟨g,2,none⟩=some (.slice D x.dests.length d)∧g <w.heap.size
def PtBox (w:World) (g:Nat) (x:Prt):Prop:=w.cell? ⟨g,0,none⟩=some (.int .u16 x.id)∧w.cell? ⟨g,1,none⟩=some (.int .u16 x.part)∧w.cell? ⟨g,2,none⟩=some (.string x.name)∧
  w.cell? ⟨g,3,none⟩=some (.bool x.output)∧w.cell? ⟨g,4,none⟩=some (.bool x.queuing)∧w.cell? ⟨g,5,none⟩=some (.int .u32 x.size)∧g <w.heap.size
theorem ChBox.up {w w':World} {g:Nat} {x:Chn} {D:Option Addr} {d:Nat} (h:ChBox w g x D d) (hb:Below w.heap.size w w'):ChBox w' g x D d:=by
 obtain ⟨h0,h1,h2,hg⟩:=h
 have q: ∀j,w'.cell? ⟨g,j,none⟩=w.cell? ⟨g,j,none⟩:=fun j=>hb.cell (p:=⟨g,j,none⟩) hg
 exact ⟨(q 0).trans h0,(q 1).trans h1,(q 2).trans h2,Nat.lt_of_lt_of_le hg hb.size⟩
theorem PtBox.up {w w':World} {g:Nat} {x:Prt} (h:PtBox w g x) (hb:Below w.heap.size w w'):PtBox w' g x:=by
 obtain ⟨h0,h1,h2,h3,h4,h5,hg⟩:=h
 have q: ∀j,w'.cell? ⟨g,j,none⟩=w.cell? ⟨g,j,none⟩:=fun j=>hb.cell (p:=⟨g,j,none⟩) hg
 exact ⟨(q 0).trans h0,(q 1).trans h1,(q 2).trans h2,(q 3).trans h3,(q 4).trans h4,(q 5).trans h5,Nat.lt_of_lt_of_le hg hb.size⟩
theorem ChBox.new (w:World) (x:Chn) (D:Option Addr) (d:Nat) (t:TypeId): ∃W,w.alloc (.cells #[.int .u16 x.id, .int .u16 x.source, .slice D x.dests.length d] t)=W∧ChBox W w.heap.size x D d∧Below w.heap.size w W:=
 ⟨_,rfl,⟨by simp,by simp,by simp,by simp⟩,below_one _ _⟩
theorem PtBox.new (w:World) (x:Prt) (t:TypeId): ∃W,w.alloc (.cells #[.int .u16 x.id, .int .u16 x.part, .string x.name, .bool x.output, .bool x.queuing, .int .u32 x.size] t)=W∧PtBox W w.heap.size x∧Below w.heap.size w W:=
 ⟨_,rfl,⟨by simp,by simp,by simp,by simp,by simp,by simp,by simp⟩,below_one _ _⟩
end Go.Proofs.YteelncofiodflaaGreat
namespace Go.Proofs.YteelncofiodflaaGreat
open Go.RowKit
section
variable {P:Program} (w:World)
theorem run_append_of_nil (base:Nat) (t ty e:TypeId) (i:TypeInfo) (size:Nat) (ht:P.underlying t=some (.slice e)) (hi:P.info? e=some i)
  (v:Value) (n:Nat) (xs:List Value) (hown:w.ownsRow base e size v n xs) (c:Nat):(Builtin.append_ #[t,t] ty #[v, .slice none 0 c]).run P w= .ok v w:=by
 rcases hown.2 with ⟨rfl,rfl⟩ |⟨g,cap,cur,rfl,_,_,hnc,_⟩
 ·simp [Builtin.append_,run_underlying ht,sizeOf,typeInfo,hi,Builtin.lenOf,Builtin.firstCells]
 ·simp [Builtin.append_,run_underlying ht,sizeOf,typeInfo,hi,Builtin.lenOf,Builtin.firstCells,hnc,storeCells]
theorem run_append_rd (base:Nat) (t ty e:TypeId) (i:TypeInfo) (z:Value) (size bytes:Nat) (ht:P.underlying t=some (.slice e)) (hi:P.info? e=some i) (hz:i.zero=some z)
  (hsize:i.size=size) (hby:i.bytes=bytes) (hzs:z.cells.size=size) (hsz:0 <size)
  (v:Value) (n:Nat) (xs:List Value) (hown:w.ownsRow base e size v n xs)
  (B:Nat) (A:Option Addr) (m c:Nat) (news:List Value) (hr:Rd w B size A m news) (h1: ∀u ∈ news,u.oneCell'=true)
  (h63:n+m≤maxLen) (hbytes:(n+m)*bytes≤140737488355328) (hbase:base≤w.heap.size):
  ∃v' w',(Builtin.append_ #[t,t] ty #[v, .slice A m c]).run P w= .ok v' w'∧w'.ownsRow base e size v' (n+m) (xs++news)∧w.grownBy w' v.ownBlock:=by
 rcases Nat.eq_zero_or_pos m with hm |hm
 ·subst hm
  have hn:news= []:=List.eq_nil_of_length_eq_zero (by simpa using hr.1)
  subst hn
  rcases A with _ |ad
  ·exact ⟨v,w,run_append_of_nil w base t ty e i size ht hi v n xs hown c,by simpa using hown,World.grownBy.refl w _⟩
  ·obtain ⟨v',w',hrun,h2,h3,_,_⟩:=run_append_own_at (P:=P) w base t ty e i z size bytes ht hi hz hsize hby hzs hsz v n xs hown ad 0 c [] (by simp) (by simp) (by simp) h63 hbytes hbase
   exact ⟨v',w',hrun,h2,h3⟩
 ·obtain ⟨b,o,rfl,_,hc⟩:=hr.2 hm
  obtain ⟨v',w',hrun,h2,h3,_,_⟩:=run_append_own_at (P:=P) w base t ty e i z size bytes ht hi hz hsize hby hzs hsz v n xs hown ⟨b,o,none⟩ m c news hr.1 (fun j u hu=>by rw [addr_add];exact hc j u hu) h1 h63 hbytes hbase
  exact ⟨v',w',hrun,h2,h3⟩
theorem wpList_append_rd {ops:Array Oper} {rest:List Oper} {o:Oper} {a:Act} {Q:Exit→Act→World→Prop} (hgd:o.guard=none) (s x:Operand) (t:TypeId)
  (ho:o.op= .call {callee:= .builtin .append,args:= #[s,x],argTypes:= #[t,t]})
  (base:Nat) (e:TypeId) (i:TypeInfo) (z:Value) (size bytes:Nat) (ht:P.underlying t=some (.slice e)) (hi:P.info? e=some i) (hz:i.zero=some z)
  (hsize:i.size=size) (hby:i.bytes=bytes) (hzs:z.cells.size=size) (hsz:0 <size)
  (v:Value) (n:Nat) (xs:List Value) (hs:a.eval s=v) (hown:w.ownsRow base e size v n xs)
  (B:Nat) (A:Option Addr) (m c:Nat) (news:List Value) (hx:a.eval x= .slice A m c) (hr:Rd w B size A m news) (h1: ∀u ∈ news,u.oneCell'=true)
  (h63:n+m≤maxLen) (hbytes:(n+m)*bytes≤140737488355328) (hbase:base≤w.heap.size)
  (h: ∀v' w',w'.ownsRow base e size v' (n+m) (xs++news)→w.grownBy w' v.ownBlock→wpList P ops Q rest (a.put o.dst v') w'):wpList P ops Q (o::rest) a w:=by
 refine wpList_plain hgd fun K hK=> ?_
 obtain ⟨v',w',hr,h2,h3⟩:=run_append_rd (P:=P) w base t o.type e i z size bytes ht hi hz hsize hby hzs hsz v n xs hown B A m c news hr h1 h63 hbytes hbase
 unfold Oper.wp execOp
 simp only [ho,resolve,invoke,builtin,Sem.run_bind,Sem.run_pure,Result.andThen_ok,List.map_toArray,List.map_cons,List.map_nil,hs,hx,hr]
 exact hK _ _ (h v' w' h2 h3)
end
structure Off (ty:TypeId) (w w':World):Prop where
 os:w'.os=w.os
 tape:w'.tape=w.tape
 output:w'.output=w.output
 size:w.heap.size≤w'.heap.size
 block: ∀k,k <w.heap.size→(∀cs fr,w.heap[k]? ≠some (.cells cs ty fr))→w'.heap[k]? =w.heap[k]?
def Blk (w:World) (g:Nat) (t:TypeId) (cs:Array Value):Prop:=w.heap[g]? =some (.cells cs t (0,0))
section
variable {w w':World} {g:Nat} {t:TypeId} {cs:Array Value}
theorem Blk.lt (h:Blk w g t cs):g <w.heap.size:=(Array.getElem?_eq_some_iff.1 h).1
theorem Blk.cell (h:Blk w g t cs) (i:Nat):w.cell? ⟨g,i,none⟩=cs[i]? :=cell_of_row w g i cs t (0,0) h
theorem Blk.frozen (h:Blk w g t cs) (i:Nat):w.frozen? ⟨g,i,none⟩=false:=by
 unfold Blk at h
 simp [World.frozen?,h]
theorem Blk.new (w:World) (t:TypeId) (cs:Array Value):Blk (w.alloc (.cells cs t)) w.heap.size t cs:=heap_alloc_new w _
theorem Blk.alloc (h:Blk w g t cs) (o:Obj):Blk (w.alloc o) g t cs:=(Below.heap_alloc w o g h.lt).trans h
theorem Blk.set_ (h:Blk w g t cs) (i:Nat) (u:Value):Blk (w.setCell ⟨g,i,none⟩ u) g t (cs.setIfInBounds i u):=by
 unfold Blk at h ⊢
 simp [World.setCell,Array.getElem?_modify,h]
theorem Blk.far (h:Blk w g t cs) {p:Addr} (hp:g≠p.block) (u:Value):Blk (w.setCell p u) g t cs:=(Below.heap_setCell w p u g hp).trans h
theorem Blk.below {B:Nat} (h:Blk w g t cs) (hb:Below B w w') (hg:g <B):Blk w' g t cs:=(hb.block g hg).trans h
theorem Blk.off {ty:TypeId} (h:Blk w g t cs) (ho:Off ty w w') (hne:t≠ty):Blk w' g t cs:=
 (ho.block g h.lt fun cs' fr e=>by unfold Blk at h;rw [h] at e;injection e with e;injection e with _ e;exact hne e).trans h
end
theorem Off.of_own {w w':World} {base:Nat} {e:TypeId} {size n:Nat} {v:Value} {xs:List Value} (h:w.ownsRow base e size v n xs) (hg:w.grownBy w' v.ownBlock):Off e w w':=
 ⟨hg.os,hg.tape,hg.output,hg.size,fun k hk hno=>hg.block k hk fun e1=>by
  rcases h.2 with ⟨rfl,_⟩ |⟨g,cap,cur,rfl,_,hh,_⟩
  ·simp [Value.ownBlock] at e1
  ·simp [Value.ownBlock] at e1
   subst e1
   exact hno _ _ hh⟩
theorem own_off {w w':World} {base:Nat} {e ty:TypeId} {size n:Nat} {v:Value} {xs:List Value} (h:w.ownsRow base e size v n xs) (ho:Off ty w w') (hne:e≠ty):w'.ownsRow base e size v n xs:=by
 refine ⟨h.1, ?_⟩
 rcases h.2 with h2 |⟨g,cap,cur,rfl,hb,hh,r⟩
 ·exact .inl h2
 ·exact .inr ⟨g,cap,cur,rfl,hb,Blk.off (t:=e) (cs:=cur) hh ho hne,r⟩
theorem own_block {w w':World} {base:Nat} {e:TypeId} {size n:Nat} {v:Value} {xs:List Value} (h:w.ownsRow base e size v n xs) (hk: ∀g,base≤g→g <w.heap.size→w'.heap[g]? =w.heap[g]?):w'.ownsRow base e size v n xs:=by
 refine ⟨h.1, ?_⟩
 rcases h.2 with h2 |⟨g,cap,cur,rfl,hb,hh,r⟩
 ·exact .inl h2
 ·exact .inr ⟨g,cap,cur,rfl,hb,(hk g hb (Array.getElem?_eq_some_iff.1 hh).1).trans hh,r⟩
theorem own_set {w:World} {base:Nat} {e:TypeId} {size n:Nat} {v:Value} {xs:List Value} (h:w.ownsRow base e size v n xs) {p:Addr} (hp:p.block <base) (u:Value):(w.setCell p u).ownsRow base e size v n xs:=
 own_block h fun g hg _=>Below.heap_setCell w p u g (by omega)
theorem own_below {w w':World} {base:Nat} {e:TypeId} {size n:Nat} {v:Value} {xs:List Value} (h:w.ownsRow base e size v n xs) (hb:Below w.heap.size w w'):w'.ownsRow base e size v n xs:=
 own_block h fun g _ hlt=>hb.block g hlt
set_option maxHeartbeats 1000000 in
theorem clone16_ok (l:List Int) (A:Option Addr) (c:Nat) (w:World) (hl:l.length≤4194304) (hP:Rd w w.heap.size 1 A l.length (l.map (Value.int .u16))) (hA:A=none→l= []):
  Calls Tryz.prog 135 #[.slice A l.length c] w fun e w'=> ∃v,e= .returned v∧w'.ownsRow w.heap.size 47 1 v l.length (l.map (Value.int .u16))∧Below w.heap.size w w':=by
 obtain ⟨i0,hi,hz0,hz1,hz2⟩:=info_parts info_u16
 have qT: ∀(w:World) (a:Option Addr) (n c n' c':Nat),(binOp .eql 55 (.slice a n c) (.slice none n' c')).run Tryz.prog w= .ok (.bool a.isNone) w:=fun w a n c n' c'=>Lib.run_eql_slice_nil w _ _ a n c n' c' Tryz.underlying55
 rcases A with _ |ad
 ·have hn:=hA rfl
  subst hn
  go_enter Tryz.func135,Tryz.ntmps135
  go_wp2
  go_ret
  exact ⟨_,rfl,by simpa using World.ownsRow_nil _ _ _ _,Below.refl _ _⟩
 ·have HO:=Lib.hid (World.ownsRow_made (e:=47) (size:=1) w #[] 0 (Nat.le_refl _) (Nat.zero_le _) rfl)
  have HR:=Lib.hid ((hP.alloc (Nat.le_refl _) (.cells #[] 47)))
  clear hP hA
  go_enter Tryz.func135,Tryz.ntmps135
  go_wp2_with (at_builtin;refine wpList_append_rd _ rfl (.tmp 5) (.tmp 6) _ rfl w.heap.size 47 i0 (.int .u16 0) 1 2 Tryz.underlying55 hi hz0 hz1 hz2 rfl (by decide) _ 0 [] rfl HO.out w.heap.size (some ad) l.length c _ rfl HR.out (ints_oneCell .u16 l) (by unfold maxLen;omega) (by omega) (by simp) ?_;intro v' w1 hown hg)
  go_ret
  refine ⟨_,rfl,by simpa using hown, ?_⟩
  exact below_own ((Below.refl w.heap.size w).alloc (Nat.le_refl _) _) hg HO.out (by simp)
end Go.Proofs.YteelncofiodflaaGreat
namespace Go.Proofs.YteelncofiodflaaGreat
open Go.RowKit Go.Sort Go.Shelf
theorem own_lessM {w:World} {b b':Nat} {e:TypeId} {size n:Nat} {v:Value} {xs:List Value} (h:w.ownsRow b e size v n xs) (hb:b'≤b):w.ownsRow b' e size v n xs:=by
 refine ⟨h.1, ?_⟩
 rcases h.2 with h2 |⟨g,cap,cur,rfl,hg,r⟩
 ·exact .inl h2
 ·exact .inr ⟨g,cap,cur,rfl,by omega,r⟩
theorem flatMap_len {α:Type} {enc:α→List Value} {k:Nat} (hk: ∀x,(enc x).length=k): ∀l:List α,(l.flatMap enc).length=l.length*k
 | []=>by simp
 |x::r=>by rw [List.flatMap_cons,List.length_append,hk,flatMap_len hk r,List.length_cons,Nat.succ_mul,Nat.add_comm]
section
variable {α:Type} [Inhabited α] {enc:α→List Value} {k:Nat}
theorem flatK_list (hk: ∀x,(enc x).length=k) (d:Array α):(flatK enc k d).toList=d.toList.flatMap enc:=by
 apply List.ext_getElem?
 intro t
 have hlen:(d.toList.flatMap enc).length=d.size*k:=by
  rw [flatMap_len hk];simp
 by_cases ht:t <d.size*k
 ·have hkp:0 <k:=Nat.pos_of_ne_zero (by intro e;rw [e] at ht;simp at ht)
  have hq:t/k <d.size:=(Nat.div_lt_iff_lt_mul hkp).2 ht
  have hm:t%k <k:=Nat.mod_lt _ hkp
  have e:t/k*k+t%k=t:=by rw [Nat.mul_comm];exact Nat.div_add_mod t k
  have h1:=flat_at enc k hk d.toList (t/k) d[t/k] (t%k) (by simp [hq]) hm
  rw [e] at h1
  rw [h1,Array.getElem?_toList]
  have h2:=get_flatK enc k d t ht
  have hs:t <(flatK enc k d).size:=by simpa using ht
  rw [Array.getElem?_eq_getElem hs]
  rw [getElem!_pos _ t hs] at h2
  rw [h2,getElem!_pos d _ hq]
  have hm':t%k <(enc d[t/k]).length:=by rw [hk];exact hm
  rw [getElem!_pos (enc d[t/k]) (t%k) hm',List.getElem?_eq_getElem hm']
 ·rw [List.getElem?_eq_none (by simp;omega),List.getElem?_eq_none (by omega)]
theorem holdsK_own (hk: ∀x,(enc x).length=k) {w:World} {base cap g n:Nat} {e:TypeId} {l:List α} (hn:n=l.length) (h:w.ownsRow base e k (.slice (some ⟨g,0,none⟩) n cap) n (l.flatMap enc)):HoldsK enc k w g 0 l.toArray:=by
 subst hn
 obtain ⟨h1,h2 |⟨g',cap',cur,e1,hb,hh,hc1,hc2,hc3,ht⟩⟩:=h
 ·obtain ⟨h2,_⟩:=h2;cases h2
 ·injection e1 with e1 _ _
  injection e1 with e1
  injection e1 with e1
  subst e1
  intro j hj
  have hj':j <l.length*k:=by simpa using hj
  refine ⟨?_,by simp [World.frozen?,hh]⟩
  have h3:(cur.toList.take (l.length*k))[j]? =(l.flatMap enc)[j]? :=by rw [ht]
  rw [List.getElem?_take_of_lt hj'] at h3
  simp only [World.cell?,hh,Nat.zero_add,Option.isSome_none,Bool.false_eq_true,if_false]
  rw [←Array.getElem?_toList,h3]
  have h4:=flatK_list hk l.toArray
  simp only at h4
  rw [←h4,Array.getElem?_toList,Array.getElem?_eq_getElem hj,getElem!_pos (flatK enc k l.toArray) j hj]
  rfl
theorem take_putId (cur F:Array Value) (h:F.size≤cur.size):(putCells id 0 F cur).toList.take F.size=F.toList:=by
 apply List.ext_getElem?
 intro j
 by_cases hj:j <F.size
 ·rw [List.getElem?_take_of_lt hj,Array.getElem?_toList,Array.getElem?_toList]
  simp [putCells,hj,show j <cur.size by omega]
 ·rw [List.getElem?_take_eq_none (by omega),List.getElem?_eq_none (by simp;omega)]
theorem ownK_sorted (hk: ∀x,(enc x).length=k) {w:World} {base cap g n m:Nat} {e:TypeId} {l:List α} {os:Array Obj} {d:Array α} (h:w.ownsRow base e k (.slice (some ⟨g,0,none⟩) n cap) n (l.flatMap enc)) (hd:d.size=n):
  (sortWorldK enc k w g 0 m d os).ownsRow base e k (.slice (some ⟨g,0,none⟩) n cap) n (d.toList.flatMap enc):=by
 obtain ⟨h1,h2 |⟨g',cap',cur,e1,hb,hh,hc1,hc2,hc3,ht⟩⟩:=h
 ·obtain ⟨h2,_⟩:=h2;cases h2
 ·injection e1 with e1 _ e2
  injection e1 with e1
  injection e1 with e1
  subst e1;subst e2
  have hlt:g <w.heap.size:=(Array.getElem?_eq_some_iff.1 hh).1
  have hle:n*k≤cap*k:=Nat.mul_le_mul_right k hc1
  have hF:(flatK enc k d).size=n*k:=by rw [size_flatK,hd]
  refine ⟨?_, .inr ⟨g,cap,putCells id 0 (flatK enc k d) cur,rfl,hb, ?_,hc1,hc2,by simp [putCells,hc3], ?_⟩⟩
  ·rw [←flatK_list hk,Array.length_toList,hF]
  ·unfold sortWorldK putRowK
   rw [heap_grow_old _ _ (by simpa using hlt)]
   simp [putRow,mapBlock,Sort.ahead,Array.getElem?_modify,hh,onCells]
  ·have:=take_putId cur (flatK enc k d) (by rw [hF,hc3];exact hle)
   rw [hF] at this
   rw [this,flatK_list hk]
theorem belowK_sorted {w0 w:World} {B g m:Nat} {os:Array Obj} {d:Array α} (h:Below B w0 w) (hB:B≤w0.heap.size) (hg:B≤g):Below B w0 (sortWorldK enc k w g 0 m d os):=by
 have h2:=Go.Lib.below_putRow (enc:=id) (q:=m) (d:=flatK enc k d) h hg
 unfold sortWorldK putRowK
 exact ⟨h2.os,h2.tape,h2.output,Nat.le_trans h2.size (by simp [grow]),fun j hj=>(heap_grow_old _ _ (Nat.lt_of_lt_of_le hj (Nat.le_trans hB h2.size))).trans (h2.block j hj)⟩
end
end Go.Proofs.YteelncofiodflaaGreat
namespace Go.Proofs.YteelncofiodflaaGreat
open Go.RowKit
def Cfg.cat (a b:Cfg):Cfg:=⟨a.frame,a.parts++b.parts,a.wins++b.wins,a.regs++b.regs,a.ports++b.ports,a.chans++b.chans⟩
def catAll (F:Int) (l:List Cfg):Cfg:=l.foldl Cfg.cat ⟨F,[],[],[],[],[]⟩
def sumTot (l:List Cfg):Nat:=(l.map Cfg.total).sum
theorem cat_total (a b:Cfg):(a.cat b).total=a.total+b.total:=by
 simp only [Cfg.total,Cfg.cat,List.length_append,sumDests,List.map_append,List.sum_append]
 omega
def ChnT (w:World) (x:Chn) (cs:List Value):Prop:= ∃v,cs= [.int .u16 x.id, .int .u16 x.source,v]∧w.ownsRow 0 47 1 v x.dests.length (x.dests.map (Value.int .u16))
theorem ChnT.toC {w:World} {x:Chn} {cs:List Value} (h:ChnT w x cs):ChnC w w.heap.size x cs:=by
 obtain ⟨v,rfl,ho⟩:=h
 obtain ⟨A,c,rfl,h1,h2,h3⟩:=own_form ho
 exact ⟨A,c,rfl,h1,h2,h3⟩
theorem rows_map {α:Type} {r r':α→List Value→Prop} (h: ∀x c,r x c→r' x c): ∀ {l:List α} {cs:List Value},RowsOf r l cs→RowsOf r' l cs
 | [],_,e=>e
 |_::_,_,⟨c0,c1,e,h1,h2⟩=>⟨c0,c1,e,h _ _ h1,rows_map h h2⟩
theorem rows_app {α:Type} {r:α→List Value→Prop}: ∀ {l l':List α} {cs cs':List Value},RowsOf r l cs→RowsOf r l' cs'→RowsOf r (l++l') (cs++cs')
 | [],_,_,_,h,h'=>by subst h;simpa using h'
 |_::_,_,_,_,⟨c0,c1,e,h1,h2⟩,h'=>⟨c0,_,by rw [e,List.append_assoc],h1,rows_app h2 h'⟩
theorem rows_one {α:Type} {r:α→List Value→Prop} {x:α} {c:List Value} (h:r x c):RowsOf r [x] c:=⟨c,[],by simp,h,rfl⟩
theorem rows_at {α:Type} {r:α→List Value→Prop} {sz:Nat} (hl: ∀x c,r x c→c.length=sz): ∀ {l:List α} {cs:List Value},RowsOf r l cs→ ∀ {k:Nat} {x:α},l[k]? =some x→ ∃c0,r x c0∧ ∀j,j <sz→cs[k*sz+j]? =c0[j]?
 | [],_,_,k,x,hk=>by simp at hk
 |y::l,_,⟨c0,c1,e,h1,h2⟩,0,x,hk=>by
  simp at hk;subst hk;subst e
  exact ⟨c0,h1,fun j hj=>by rw [Nat.zero_mul,Nat.zero_add,List.getElem?_append_left (by rw [hl _ _ h1];exact hj)]⟩
 |y::l,_,⟨c0,c1,e,h1,h2⟩,k+1,x,hk=>by
  subst e
  obtain ⟨d,hd,hj⟩:=rows_at hl h2 (k:=k) (x:=x) (by simpa using hk)
  exact ⟨d,hd,fun j hlt=>by rw [List.getElem?_append_right (by rw [hl _ _ h1,Nat.succ_mul];omega),hl _ _ h1,show (k+1)*sz+j -sz=k*sz+j from by rw [Nat.succ_mul];omega];exact hj j hlt⟩
theorem rows_chns {w:World} {B:Nat}: ∀ {l:List Chn} {cs:List Value},RowsOf (ChnC w B) l cs→ChnsC w B l cs
 | [],_,h=>h
 |_::_,_,⟨c0,c1,e,h1,h2⟩=>⟨c0,c1,e,h1,rows_chns h2⟩
theorem own_far {w:World} {base:Nat} {e t:TypeId} {size n:Nat} {v:Value} {xs:List Value} {cs:Array Value} (h:w.ownsRow base e size v n xs) {p:Addr} (hp:Blk w p.block t cs) (hne:t≠e) (u:Value):(w.setCell p u).ownsRow base e size v n xs:=
 by
 refine ⟨h.1, ?_⟩
 rcases h.2 with h2 |⟨g,cap,cur,rfl,hb,hh,r⟩
 ·exact .inl h2
 ·refine .inr ⟨g,cap,cur,rfl,hb,(Below.heap_setCell w p u g ?_).trans hh,r⟩
  rintro rfl
  unfold Blk at hp
  rw [hp] at hh
  injection hh with hh
  injection hh with _ hh
  exact hne hh
theorem ChnT.off {w w':World} {ty:TypeId} {x:Chn} {cs:List Value} (h:ChnT w x cs) (ho:Off ty w w') (hne:47≠ty):ChnT w' x cs:=by
 obtain ⟨v,e,h1⟩:=h
 exact ⟨v,e,own_off h1 ho hne⟩
theorem ChnT.far {w:World} {x:Chn} {cs:List Value} {t:TypeId} {bs:Array Value} (h:ChnT w x cs) {p:Addr} (hp:Blk w p.block t bs) (hne:t≠47) (u:Value):ChnT (w.setCell p u) x cs:=by
 obtain ⟨v,e,h1⟩:=h
 exact ⟨v,e,own_far h1 hp hne u⟩
theorem ChnT.below {w w':World} {x:Chn} {cs:List Value} (h:ChnT w x cs) (hb:Below w.heap.size w w'):ChnT w' x cs:=by
 obtain ⟨v,e,h1⟩:=h
 exact ⟨v,e,own_below h1 hb⟩
structure MrgSt (w wr:World) (F:Int) (acc:Cfg) (v1 v2 v3 v4 v5:Value) (rows:List Value):Prop where
 hz:w.heap.size+1 <wr.heap.size
 bel:Below w.heap.size w wr
 res:Blk wr w.heap.size 29 #[.int .u64 0, .slice none 0 0, .slice none 0 0, .slice none 0 0, .slice none 0 0, .slice none 0 0]
 out:Blk wr (w.heap.size+1) 29 #[.int .u64 F,v1,v2,v3,v4,v5]
 o1:wr.ownsRow (w.heap.size+2) 49 4 v1 acc.parts.length (acc.parts.flatMap Par.cells)
 o2:wr.ownsRow (w.heap.size+2) 71 3 v2 acc.wins.length (acc.wins.flatMap Win.cells)
 o3:wr.ownsRow (w.heap.size+2) 75 5 v3 acc.regs.length (acc.regs.flatMap Reg.cells)
 o4:wr.ownsRow (w.heap.size+2) 52 6 v4 acc.ports.length (acc.ports.flatMap Prt.cells)
 o5:wr.ownsRow (w.heap.size+2) 57 3 v5 acc.chans.length rows
 ch:RowsOf (ChnT wr) acc.chans rows
section
variable {w W W':World} {F:Int} {acc:Cfg} {v1 v2 v3 v4 v5:Value} {rows:List Value}
theorem MrgSt.later (h:MrgSt w W F acc v1 v2 v3 v4 v5 rows) (hb:Below W.heap.size W W'):MrgSt w W' F acc v1 v2 v3 v4 v5 rows:=by
 have hz:=h.hz
 have hs:=hb.size
 exact ⟨by omega,h.bel.trans (hb.mono h.bel.size),h.res.below hb h.res.lt,h.out.below hb h.out.lt,own_below h.o1 hb,own_below h.o2 hb,own_below h.o3 hb,own_below h.o4 hb,own_below h.o5 hb,rows_map (fun _ _ hx=>ChnT.below hx hb) h.ch⟩
theorem below_rowG {base:Nat} {e:TypeId} {size n:Nat} {v:Value} {xs:List Value} {B:Nat} {a:World} (h:Below B a W) (ho:W.ownsRow base e size v n xs) (hg:W.grownBy W' v.ownBlock) (h1:B≤base) (h2:B≤W.heap.size):Below B a W':=
 h.grown hg h2 fun k hk=>by have:=(ho.lt k hk).1;omega
theorem MrgSt.app1 (h:MrgSt w W F acc v1 v2 v3 v4 v5 rows) {v':Value} {ps:List Par} (hown:W'.ownsRow (w.heap.size+2) 49 4 v' (acc.parts.length+ps.length) (acc.parts.flatMap Par.cells++ps.flatMap Par.cells)) (hg:W.grownBy W' v1.ownBlock):
  MrgSt w (W'.setCell ⟨w.heap.size+1,1,none⟩ v') F {acc with parts:=acc.parts++ps} v' v2 v3 v4 v5 rows:=by
 have hz:=h.hz
 have hs:=hg.size
 have ho:=Off.of_own h.o1 hg
 have hout:=h.out.off ho (by decide)
 have hb:=below_rowG h.bel h.o1 hg (by omega) h.bel.size
 exact ⟨by simp [World.setCell];omega,hb.setCell (by show w.heap.size≤w.heap.size+1;omega) _,(h.res.off ho (by decide)).far (by show w.heap.size≠w.heap.size+1;omega) _,by have:=hout.set_ 1 v';simpa using this,
  (by simpa [List.flatMap_append] using own_set hown (p:=⟨w.heap.size+1,1,none⟩) (by show w.heap.size+1 <_;omega) v'),
  own_set (own_off h.o2 ho (by decide)) (p:=⟨w.heap.size+1,1,none⟩) (by show w.heap.size+1 <_;omega) _,
  own_set (own_off h.o3 ho (by decide)) (p:=⟨w.heap.size+1,1,none⟩) (by show w.heap.size+1 <_;omega) _,
  own_set (own_off h.o4 ho (by decide)) (p:=⟨w.heap.size+1,1,none⟩) (by show w.heap.size+1 <_;omega) _,
  own_set (own_off h.o5 ho (by decide)) (p:=⟨w.heap.size+1,1,none⟩) (by show w.heap.size+1 <_;omega) _,
  rows_map (fun _ _ hx=>ChnT.far (ChnT.off hx ho (by decide)) (p:=⟨w.heap.size+1,1,none⟩) hout (by decide) _) h.ch⟩
theorem MrgSt.app2 (h:MrgSt w W F acc v1 v2 v3 v4 v5 rows) {v':Value} {ps:List Win} (hown:W'.ownsRow (w.heap.size+2) 71 3 v' (acc.wins.length+ps.length) (acc.wins.flatMap Win.cells++ps.flatMap Win.cells)) (hg:W.grownBy W' v2.ownBlock):
  MrgSt w (W'.setCell ⟨w.heap.size+1,2,none⟩ v') F {acc with wins:=acc.wins++ps} v1 v' v3 v4 v5 rows:=by
 have hz:=h.hz
 have hs:=hg.size
 have ho:=Off.of_own h.o2 hg
 have hout:=h.out.off ho (by decide)
 have hb:=below_rowG h.bel h.o2 hg (by omega) h.bel.size
 exact ⟨by simp [World.setCell];omega,hb.setCell (by show w.heap.size≤w.heap.size+1;omega) _,(h.res.off ho (by decide)).far (by show w.heap.size≠w.heap.size+1;omega) _,by have:=hout.set_ 2 v';simpa using this,
  own_set (own_off h.o1 ho (by decide)) (p:=⟨w.heap.size+1,2,none⟩) (by show w.heap.size+1 <_;omega) _,
  (by simpa [List.flatMap_append] using own_set hown (p:=⟨w.heap.size+1,2,none⟩) (by show w.heap.size+1 <_;omega) v'),
  own_set (own_off h.o3 ho (by decide)) (p:=⟨w.heap.size+1,2,none⟩) (by show w.heap.size+1 <_;omega) _,
  own_set (own_off h.o4 ho (by decide)) (p:=⟨w.heap.size+1,2,none⟩) (by show w.heap.size+1 <_;omega) _,
  own_set (own_off h.o5 ho (by decide)) (p:=⟨w.heap.size+1,2,none⟩) (by show w.heap.size+1 <_;omega) _,
  rows_map (fun _ _ hx=>ChnT.far (ChnT.off hx ho (by decide)) (p:=⟨w.heap.size+1,2,none⟩) hout (by decide) _) h.ch⟩
theorem MrgSt.app3 (h:MrgSt w W F acc v1 v2 v3 v4 v5 rows) {v':Value} {ps:List Reg} (hown:W'.ownsRow (w.heap.size+2) 75 5 v' (acc.regs.length+ps.length) (acc.regs.flatMap Reg.cells++ps.flatMap Reg.cells)) (hg:W.grownBy W' v3.ownBlock):
  MrgSt w (W'.setCell ⟨w.heap.size+1,3,none⟩ v') F {acc with regs:=acc.regs++ps} v1 v2 v' v4 v5 rows:=by
 have hz:=h.hz
 have hs:=hg.size
 have ho:=Off.of_own h.o3 hg
 have hout:=h.out.off ho (by decide)
 have hb:=below_rowG h.bel h.o3 hg (by omega) h.bel.size
 exact ⟨by simp [World.setCell];omega,hb.setCell (by show w.heap.size≤w.heap.size+1;omega) _,(h.res.off ho (by decide)).far (by show w.heap.size≠w.heap.size+1;omega) _,by have:=hout.set_ 3 v';simpa using this,
  own_set (own_off h.o1 ho (by decide)) (p:=⟨w.heap.size+1,3,none⟩) (by show w.heap.size+1 <_;omega) _,
  own_set (own_off h.o2 ho (by decide)) (p:=⟨w.heap.size+1,3,none⟩) (by show w.heap.size+1 <_;omega) _,
  (by simpa [List.flatMap_append] using own_set hown (p:=⟨w.heap.size+1,3,none⟩) (by show w.heap.size+1 <_;omega) v'),
  own_set (own_off h.o4 ho (by decide)) (p:=⟨w.heap.size+1,3,none⟩) (by show w.heap.size+1 <_;omega) _,
  own_set (own_off h.o5 ho (by decide)) (p:=⟨w.heap.size+1,3,none⟩) (by show w.heap.size+1 <_;omega) _,
  rows_map (fun _ _ hx=>ChnT.far (ChnT.off hx ho (by decide)) (p:=⟨w.heap.size+1,3,none⟩) hout (by decide) _) h.ch⟩
theorem MrgSt.app4 (h:MrgSt w W F acc v1 v2 v3 v4 v5 rows) {v':Value} {ps:List Prt} (hown:W'.ownsRow (w.heap.size+2) 52 6 v' (acc.ports.length+ps.length) (acc.ports.flatMap Prt.cells++ps.flatMap Prt.cells)) (hg:W.grownBy W' v4.ownBlock):
  MrgSt w (W'.setCell ⟨w.heap.size+1,4,none⟩ v') F {acc with ports:=acc.ports++ps} v1 v2 v3 v' v5 rows:=by
 have hz:=h.hz
 have hs:=hg.size
 have ho:=Off.of_own h.o4 hg
 have hout:=h.out.off ho (by decide)
 have hb:=below_rowG h.bel h.o4 hg (by omega) h.bel.size
 exact ⟨by simp [World.setCell];omega,hb.setCell (by show w.heap.size≤w.heap.size+1;omega) _,(h.res.off ho (by decide)).far (by show w.heap.size≠w.heap.size+1;omega) _,by have:=hout.set_ 4 v';simpa using this,
  own_set (own_off h.o1 ho (by decide)) (p:=⟨w.heap.size+1,4,none⟩) (by show w.heap.size+1 <_;omega) _,
  own_set (own_off h.o2 ho (by decide)) (p:=⟨w.heap.size+1,4,none⟩) (by show w.heap.size+1 <_;omega) _,
  own_set (own_off h.o3 ho (by decide)) (p:=⟨w.heap.size+1,4,none⟩) (by show w.heap.size+1 <_;omega) _,
  (by simpa [List.flatMap_append] using own_set hown (p:=⟨w.heap.size+1,4,none⟩) (by show w.heap.size+1 <_;omega) v'),
  own_set (own_off h.o5 ho (by decide)) (p:=⟨w.heap.size+1,4,none⟩) (by show w.heap.size+1 <_;omega) _,
  rows_map (fun _ _ hx=>ChnT.far (ChnT.off hx ho (by decide)) (p:=⟨w.heap.size+1,4,none⟩) hout (by decide) _) h.ch⟩
theorem MrgSt.app5 (h:MrgSt w W F acc v1 v2 v3 v4 v5 rows) {v':Value} {x:Chn} {c0:List Value} (hx:ChnT W x c0) (hown:W'.ownsRow (w.heap.size+2) 57 3 v' (acc.chans.length+1) (rows++c0)) (hg:W.grownBy W' v5.ownBlock):
  MrgSt w (W'.setCell ⟨w.heap.size+1,5,none⟩ v') F {acc with chans:=acc.chans++ [x]} v1 v2 v3 v4 v' (rows++c0):=by
 have hz:=h.hz
 have hs:=hg.size
 have ho:=Off.of_own h.o5 hg
 have hout:=h.out.off ho (by decide)
 have hb:=below_rowG h.bel h.o5 hg (by omega) h.bel.size
 exact ⟨by simp [World.setCell];omega,hb.setCell (by show w.heap.size≤w.heap.size+1;omega) _,(h.res.off ho (by decide)).far (by show w.heap.size≠w.heap.size+1;omega) _,by have:=hout.set_ 5 v';simpa using this,
  own_set (own_off h.o1 ho (by decide)) (p:=⟨w.heap.size+1,5,none⟩) (by show w.heap.size+1 <_;omega) _,
  own_set (own_off h.o2 ho (by decide)) (p:=⟨w.heap.size+1,5,none⟩) (by show w.heap.size+1 <_;omega) _,
  own_set (own_off h.o3 ho (by decide)) (p:=⟨w.heap.size+1,5,none⟩) (by show w.heap.size+1 <_;omega) _,
  own_set (own_off h.o4 ho (by decide)) (p:=⟨w.heap.size+1,5,none⟩) (by show w.heap.size+1 <_;omega) _,
  (by simpa using own_set hown (p:=⟨w.heap.size+1,5,none⟩) (by show w.heap.size+1 <_;omega) v'),
  rows_app (rows_map (fun _ _ hx=>ChnT.far (ChnT.off hx ho (by decide)) (p:=⟨w.heap.size+1,5,none⟩) hout (by decide) _) h.ch) (rows_one (ChnT.far (ChnT.off hx ho (by decide)) (p:=⟨w.heap.size+1,5,none⟩) hout (by decide) _))⟩
end
end Go.Proofs.YteelncofiodflaaGreat
namespace Go.Proofs.YteelncofiodflaaGreat
open Go.RowKit
theorem infoPartition:(Tryz.prog.info? 49).map (fun i=>(i.zero,i.size,i.bytes))=some (some (.agg #[.int .u16 0, .string .empty, .int .u64 0, .int .u64 0]),4,40):=by kernel_rfl
theorem infoWindow:(Tryz.prog.info? 71).map (fun i=>(i.zero,i.size,i.bytes))=some (some (.agg #[.int .u64 0, .int .u64 0, .int .u16 0]),3,24):=by kernel_rfl
theorem infoRegion:(Tryz.prog.info? 75).map (fun i=>(i.zero,i.size,i.bytes))=some (some (.agg #[.int .u64 0, .int .u64 0, .int .u16 0, .int .u8 0, .bool false]),5,24):=by kernel_rfl
theorem infoPort:(Tryz.prog.info? 52).map (fun i=>(i.zero,i.size,i.bytes))=some (some (.agg #[.int .u16 0, .int .u16 0, .string .empty, .bool false, .bool false, .int .u32 0]),6,32):=by kernel_rfl
theorem infoChannel:(Tryz.prog.info? 57).map (fun i=>(i.zero,i.size,i.bytes))=some (some (.agg #[.int .u16 0, .int .u16 0, .slice none 0 0]),3,32):=by kernel_rfl
theorem onePar (l:List Par): ∀u ∈ l.flatMap Par.cells,u.oneCell'=true:=by
 intro u hu
 obtain ⟨x,_,hx⟩:=List.mem_flatMap.1 hu
 simp [Par.cells] at hx
 rcases hx with rfl |rfl |rfl |rfl<;>rfl
theorem oneWin (l:List Win): ∀u ∈ l.flatMap Win.cells,u.oneCell'=true:=by
 intro u hu
 obtain ⟨x,_,hx⟩:=List.mem_flatMap.1 hu
 simp [Win.cells] at hx
 rcases hx with rfl |rfl |rfl<;>rfl
theorem oneReg (l:List Reg): ∀u ∈ l.flatMap Reg.cells,u.oneCell'=true:=by
 intro u hu
 obtain ⟨x,_,hx⟩:=List.mem_flatMap.1 hu
 simp [Reg.cells] at hx
 rcases hx with rfl |rfl |rfl |rfl |rfl<;>rfl
theorem onePrt (l:List Prt): ∀u ∈ l.flatMap Prt.cells,u.oneCell'=true:=by
 intro u hu
 obtain ⟨x,_,hx⟩:=List.mem_flatMap.1 hu
 simp [Prt.cells] at hx
 rcases hx with rfl |rfl |rfl |rfl |rfl |rfl<;>rfl
theorem own_base {w:World} {base B:Nat} {e:TypeId} {size n:Nat} {v:Value} {xs:List Value} (h:w.ownsRow base e size v n xs) (hB:B≤base):w.ownsRow B e size v n xs:=by
 refine ⟨h.1, ?_⟩
 rcases h.2 with h2 |⟨g,cap,cur,rfl,hb,r⟩
 ·exact .inl h2
 ·exact .inr ⟨g,cap,cur,rfl,Nat.le_trans hB hb,r⟩
theorem own_but {w w':World} {base:Nat} {e t:TypeId} {size n g0:Nat} {v:Value} {xs:List Value} {cs:Array Value} (h:w.ownsRow base e size v n xs) (hB:Blk w g0 t cs) (hne:t≠e) (hk: ∀g,g≠g0→w'.heap[g]? =w.heap[g]?):w'.ownsRow base e size v n xs:=by
 refine ⟨h.1, ?_⟩
 rcases h.2 with h2 |⟨g,cap,cur,rfl,hb,hh,r⟩
 ·exact .inl h2
 ·refine .inr ⟨g,cap,cur,rfl,hb,(hk g ?_).trans hh,r⟩
  rintro rfl
  unfold Blk at hB
  rw [hB] at hh
  injection hh with hh
  injection hh with _ hh
  exact hne hh
theorem own_slice {w:World} {base:Nat} {e:TypeId} {size n c:Nat} {A:Option Addr} {xs:List Value} (h:w.ownsRow base e size (.slice A n c) n xs):(n≤c∧c≤maxLen)∧Rd w w.heap.size size A n xs:=by
 obtain ⟨A',c',e,h1,h2,h3⟩:=own_form h
 injection e with e1 _ e2
 subst e1 e2
 exact ⟨⟨h1,h2⟩,h3⟩
theorem rd_none {w:World} {B sz n:Nat} {xs:List Value} (h:Rd w B sz none n xs):n=0:=by
 rcases Nat.eq_zero_or_pos n with h0 |h0
 ·exact h0
 ·obtain ⟨b,o,e,_⟩:=h.2 h0
  cases e
end Go.Proofs.YteelncofiodflaaGreat
namespace Go.Proofs.YteelncofiodflaaGreat
open Go.RowKit
structure CE where
 x:Chn
 A:Option Addr
 c:Nat
@[reducible] def CE.v (e:CE):Value:= .slice e.A e.x.dests.length e.c
def CE.cells (e:CE):List Value:= [.int .u16 e.x.id, .int .u16 e.x.source,e.v]
structure ChnsO (W:World) (B:Nat) (L:List CE):Prop where
 own: ∀e ∈ L,W.ownsRow B 47 1 e.v e.x.dests.length (e.x.dests.map (Value.int .u16))
 sep:L.Pairwise fun a b=> ∀g,a.v.ownBlock=some g→b.v.ownBlock≠some g
section
variable {W V:World} {B B':Nat} {L:List CE}
theorem ChnsO.nil:ChnsO W B []:=⟨by simp,List.Pairwise.nil⟩
theorem ChnsO.move (h:ChnsO W B L) (hk: ∀v n xs,W.ownsRow B 47 1 v n xs→V.ownsRow B' 47 1 v n xs):ChnsO V B' L:=⟨fun e he=>hk _ _ _ (h.own e he),h.sep⟩
theorem ChnsO.below (h:ChnsO W B L) (hb:Below W.heap.size W V):ChnsO V B L:=h.move fun _ _ _ ho=>own_below ho hb
theorem ChnsO.off {ty:TypeId} (h:ChnsO W B L) (ho:Off ty W V) (hne:47≠ty):ChnsO V B L:=h.move fun _ _ _ h2=>own_off h2 ho hne
theorem ChnsO.far {t:TypeId} {bs:Array Value} (h:ChnsO W B L) {p:Addr} (hp:Blk W p.block t bs) (hne:t≠47) (u:Value):ChnsO (W.setCell p u) B L:=h.move fun _ _ _ h2=>own_far h2 hp hne u
theorem ChnsO.snoc (h:ChnsO W B L) {e:CE} (ho:W.ownsRow B 47 1 e.v e.x.dests.length (e.x.dests.map (Value.int .u16))) (hf: ∀a ∈ L, ∀g,a.v.ownBlock=some g→e.v.ownBlock≠some g):ChnsO W B (L++ [e]):=
 ⟨fun a ha=>by rcases List.mem_append.1 ha with ha |ha;exact h.own a ha;rw [List.mem_singleton] at ha;rw [ha];exact ho,
  List.pairwise_append.2 ⟨h.sep,by simp,fun a ha b hb=>by rw [List.mem_singleton] at hb;subst hb;exact hf a ha⟩⟩
theorem ChnsO.perm {L':List CE} (h:ChnsO W B L) (hp:L'.Perm L):ChnsO W B L':=
 ⟨fun e he=>h.own e (hp.mem_iff.1 he),(hp.symm.pairwise_iff (fun {_ _} hab g hb ha=>hab g ha hb)).1 h.sep⟩
theorem CE.len (e:CE):e.cells.length=3:=rfl
theorem ChnsO.rows: ∀ {L:List CE},(∀e ∈ L,W.ownsRow B 47 1 e.v e.x.dests.length (e.x.dests.map (Value.int .u16)))→RowsOf (ChnT W) (L.map (·.x)) (L.flatMap CE.cells)
 | [],_=>rfl
 |e::r,h=>⟨e.cells,r.flatMap CE.cells,by rw [List.flatMap_cons],⟨e.v,rfl,own_base (h e (by simp)) (Nat.zero_le _)⟩,ChnsO.rows fun a ha=>h a (by simp [ha])⟩
end
theorem ce_at {w:World} {B:Nat} {A:Option Addr} {k:Nat} {l:List CE} {x:CE} (h:Rd w B 3 A l.length (l.flatMap CE.cells)) (hk:l[k]? =some x):
  ∃b o,A=some ⟨b,o,none⟩∧b <B∧w.cell? ⟨b,o+k*3,none⟩=some (.int .u16 x.x.id)∧w.cell? ⟨b,o+k*3+1,none⟩=some (.int .u16 x.x.source)∧w.cell? ⟨b,o+k*3+2,none⟩=some (.slice x.A x.x.dests.length x.c):=by
 obtain ⟨b,o,e,hb,hc⟩:=Rd.get (f:=CE.cells) (sz:=3) (fun _=>rfl) h hk
 exact ⟨b,o,e,hb,hc 0 _ rfl,hc 1 _ rfl,hc 2 _ rfl⟩
end Go.Proofs.YteelncofiodflaaGreat
