/-
  The map of owners as a plain law: the sweep over the regions in order keeps, for each range of addresses, the regions that have them. It speaks of no program.
-/
import Derived.Test.YtdmgpdanlfmadaaGreatMemQ
namespace Go.Proofs.YtdmgpdanlfmadaaGreat
open Go.RowKit
def lastR (r:Reg):Int:=r.base+r.size -1
def covR (r:Reg) (x:Int):Bool:=hasS (spnOf r) x
theorem covR_iff {r:Reg} {x:Int}:covR r x=true↔r.base≤x∧x≤lastR r:=by
 unfold covR hasS spnOf lastR
 simp only [Bool.and_eq_true,decide_eq_true_eq]
def topA:Int:=18446744073709551615
structure Opn where
 r:Reg
 k:Nat
def opns (l:List Reg):List Opn:=l.zipIdx.map fun p=>⟨p.1,p.2⟩
theorem mem_opns {l:List Reg} {o:Opn}:o ∈ opns l↔l[o.k]? =some o.r:=by
 unfold opns
 rw [List.mem_map]
 constructor
 ·rintro ⟨⟨r,k⟩,h,rfl⟩
  exact List.mem_zipIdx_iff_getElem?.1 h
 ·intro h
  exact ⟨(o.r,o.k),List.mem_zipIdx_iff_getElem?.2 h,rfl⟩
theorem opns_asc (l:List Reg):(opns l).Pairwise fun a b=>a.k <b.k:=by
 have h:((opns l).map (·.k))=List.range' 0 l.length:=by
  unfold opns
  rw [List.map_map]
  exact List.zipIdx_map_snd 0 l
 have h2:((opns l).map (·.k)).Pairwise (· < ·):=by rw [h];exact List.pairwise_lt_range'
 exact List.pairwise_map.1 h2
def atK (l:List Reg) (x:Int):List Opn:=(opns l).filter fun o=>covR o.r x
theorem mem_atK {l:List Reg} {x:Int} {o:Opn}:o ∈ atK l x↔o ∈ opns l∧o.r.base≤x∧x≤lastR o.r:=by
 unfold atK
 rw [List.mem_filter,covR_iff]
theorem atK_asc (l:List Reg) (x:Int):(atK l x).Pairwise fun a b=>a.k <b.k:=(opns_asc l).filter _
theorem atK_regs (l:List Reg) (x:Int):(atK l x).map (·.r)=l.filter fun r=>covR r x:=by
 have h:(opns l).map (·.r)=l:=by
  unfold opns
  rw [List.map_map]
  exact List.zipIdx_map_fst 0 l
 conv=>rhs;rw [←h]
 rw [List.filter_map]
 rfl
theorem nodup_asc {a:List Opn} (h:a.Pairwise fun a b=>a.k <b.k):a.Nodup:=h.imp fun {x y} hxy e=>by subst e;omega
theorem asc_same {a b:List Opn} (ha:a.Pairwise fun a b=>a.k <b.k) (hb:b.Pairwise fun a b=>a.k <b.k) (h: ∀o,o ∈ a↔o ∈ b):a=b:=
 List.Perm.eq_of_pairwise (le:=fun a b=>a.k <b.k) (fun x y _ _ h1 h2=>by omega) ha hb ((List.perm_ext_iff_of_nodup (nodup_asc ha) (nodup_asc hb)).2 h)
theorem take_opns {l:List Reg} {i:Nat} {r:Reg} (h:l[i]? =some r) {o:Opn}:o ∈ opns (l.take (i+1))↔o ∈ opns (l.take i)∨o=⟨r,i⟩:=by
 rw [mem_opns,mem_opns,List.getElem?_take,List.getElem?_take]
 by_cases h1:o.k <i
 ·rw [if_pos (by omega),if_pos h1]
  constructor
  ·exact .inl
  ·rintro (h2 |rfl)
   ·exact h2
   ·exact absurd h1 (by simp)
 ·rw [if_neg h1]
  by_cases h2:o.k=i
  ·rw [if_pos (by omega),h2,h]
   constructor
   ·intro e;injection e with e;right;cases o;simp only at h2 e;rw [h2,e]
   ·rintro (e |rfl)
    ·cases e
    ·rfl
  ·rw [if_neg (by omega)]
   constructor
   ·intro e;cases e
   ·rintro (e |rfl)
    ·cases e
    ·exact absurd rfl h2
structure Seg where
 lo:Int
 rs:List Opn
structure SegsOk (l:List Reg) (segs:List Seg):Prop where
 zero:(segs.map (·.lo))[0]? =some 0
 asc:(segs.map (·.lo)).Pairwise (· < ·)
 top: ∀s ∈ segs,s.lo≤topA
 in_: ∀(j:Nat) (s:Seg) (b x:Int),segs[j]? =some s→(segs.map (·.lo))[j+1]? =some b→s.lo≤x→x <b→s.rs=atK l x
 end_: ∀(j:Nat) (s:Seg) (x:Int),segs[j]? =some s→j+1=segs.length→s.lo≤x→x≤topA→s.rs=atK l x
 bnd: ∀(j:Nat) (b:Int),(segs.map (·.lo))[j+1]? =some b→ ∃r ∈ l,r.base=b∨lastR r+1=b
 len:segs.length≤2*l.length+1
structure SwInv (l:List Reg) (i:Nat) (init:List Seg) (T:Int) (rs now:List Opn):Prop where
 zero:(init.map (·.lo)++ [T])[0]? =some 0
 asc:(init.map (·.lo)++ [T]).Pairwise (· < ·)
 in_: ∀(j:Nat) (s:Seg) (b x:Int),init[j]? =some s→(init.map (·.lo)++ [T])[j+1]? =some b→s.lo≤x→x <b→s.rs=atK (l.take i) x
 bnd: ∀(j:Nat) (b:Int),(init.map (·.lo)++ [T])[j+1]? =some b→ ∃r ∈ l.take i,r.base=b∨lastR r+1=b
 ras:rs.Pairwise fun a b=>a.k <b.k
 rsm: ∀o,o ∈ rs↔o ∈ now
 sub: ∀o ∈ now,o ∈ opns (l.take i)∧T≤lastR o.r+1
 all: ∀o ∈ opns (l.take i),T≤lastR o.r→o ∈ now
 bas: ∀r ∈ l.take i,r.base≤T
 t0:0≤T
 t1:T≤topA
 cnt:init.length+now.length≤2*i
theorem SwInv.start (l:List Reg):SwInv l 0 [] 0 [] []:=
 ⟨rfl,by simp,fun j s b x h=>by simp at h,fun j b h=>by simp at h,by simp,by simp,by simp,fun o h=>by rw [mem_opns] at h;simp at h,fun r h=>by simp at h,by omega,by unfold topA;omega,by simp⟩
section
variable {l:List Reg} {i:Nat} {init:List Seg} {T:Int} {rs now rs' now':List Opn}
theorem opn_reg {o:Opn} {m:List Reg} (h:o ∈ opns m):o.r ∈ m:=List.mem_of_getElem? (mem_opns.1 h)
theorem reg_opn {r:Reg} {m:List Reg} (h:r ∈ m): ∃o ∈ opns m,o.r=r:=by
 obtain ⟨k,hk⟩:=List.mem_iff_getElem?.1 h
 exact ⟨⟨r,k⟩,mem_opns.2 hk,rfl⟩
theorem SwInv.before (h:SwInv l i init T rs now) {b:Int} {j:Nat} (hb:(init.map (·.lo)++ [T])[j+1]? =some b):b≤T:=by
 have hm:=List.mem_of_getElem? hb
 rcases List.mem_append.1 hm with hm |hm
 ·have:=(List.pairwise_append.1 h.asc).2.2 b hm T (by simp);omega
 ·rw [List.mem_singleton] at hm;omega
theorem SwInv.last (h:SwInv l i init T rs now) {x:Int} (hx:T≤x) (ho: ∀o ∈ now,x≤lastR o.r):rs=atK (l.take i) x:=by
 refine asc_same h.ras (atK_asc _ _) fun o=> ?_
 rw [h.rsm,mem_atK]
 constructor
 ·intro hn
  have h1:=(h.sub o hn).1
  have:=h.bas o.r (opn_reg h1)
  exact ⟨h1,by omega,ho o hn⟩
 ·rintro ⟨h1,h2,h3⟩
  exact h.all o h1 (by omega)
theorem atK_next {r:Reg} (h:l[i]? =some r) {x:Int} (hx:x <r.base):atK (l.take (i+1)) x=atK (l.take i) x:=by
 refine asc_same (atK_asc _ _) (atK_asc _ _) fun o=> ?_
 rw [mem_atK,mem_atK,take_opns h]
 constructor
 ·rintro ⟨h1 |rfl,h2,h3⟩
  ·exact ⟨h1,h2,h3⟩
  ·simp only at h2;omega
 ·rintro ⟨h1,h2,h3⟩
  exact ⟨.inl h1,h2,h3⟩
theorem app_get {a:List Int} {T b x:Int} {j:Nat} (h:(a++ [T]++ [b])[j]? =some x):(a++ [T])[j]? =some x∨(j=a.length+1∧x=b):=by
 rw [List.getElem?_append] at h
 split at h
 ·exact .inl h
 ·rename_i hn
  right
  simp only [List.length_append,List.length_cons,List.length_nil] at hn h
  rcases hk:j -(a.length+(0+1)) with _ |m
  ·rw [hk] at h;simp at h;exact ⟨by omega,h.symm⟩
  ·rw [hk] at h;simp at h
theorem SwInv.pop_same (h:SwInv l i init T rs now) {y:Opn} (hp:now.Perm (y::now')) (hT:T=lastR y.r+1) (ra:rs'.Pairwise fun a b=>a.k <b.k) (rm: ∀o,o ∈ rs'↔o ∈ now'):SwInv l i init T rs' now':=by
 refine ⟨h.zero,h.asc,h.in_,h.bnd,ra,rm,fun o ho=>h.sub o (hp.mem_iff.2 (by simp [ho])),fun o h1 h2=> ?_,h.bas,h.t0,h.t1, ?_⟩
 ·rcases List.mem_cons.1 (hp.mem_iff.1 (h.all o h1 h2)) with rfl |h3
  ·omega
  ·exact h3
 ·have:=h.cnt
  have:=hp.length_eq
  simp at this
  omega
theorem SwInv.pop_next (h:SwInv l i init T rs now) {y:Opn} (hp:now.Perm (y::now')) (hT:T≠lastR y.r+1) (hmin: ∀o ∈ now,lastR y.r≤lastR o.r) (hL:lastR y.r <topA) (ra:rs'.Pairwise fun a b=>a.k <b.k) (rm: ∀o,o ∈ rs'↔o ∈ now'):SwInv l i (init++ [⟨T,rs⟩]) (lastR y.r+1) rs' now':=by
 have hy:=h.sub y (hp.mem_iff.2 (by simp))
 have hTL:T≤lastR y.r:=by omega
 have hlast:=fun x (h1:T≤x) (h2:x≤lastR y.r)=>h.last h1 (fun o ho=>by have:=hmin o ho;omega)
 have ht0:=h.t0
 refine ⟨?_, ?_, ?_, ?_,ra,rm,fun o ho=>⟨(h.sub o (hp.mem_iff.2 (by simp [ho]))).1,by have:=hmin o (hp.mem_iff.2 (by simp [ho]));omega⟩,fun o h1 h2=> ?_,fun r hr=>by have:=h.bas r hr;omega,by omega,by omega, ?_⟩
 ·rw [List.map_append,List.getElem?_append_left (by simp)];exact h.zero
 ·rw [List.map_append,List.pairwise_append]
  refine ⟨h.asc,by simp,fun a ha b hb=> ?_⟩
  rw [List.mem_singleton] at hb
  subst hb
  rcases List.mem_append.1 ha with ha |ha
  ·have:=(List.pairwise_append.1 h.asc).2.2 a ha T (by simp);omega
  ·have:a=T:=by simpa using ha
   omega
 ·intro j s b x hs hb h1 h2
  rw [List.map_append] at hb
  by_cases hj:j <init.length
  ·rw [List.getElem?_append_left hj] at hs
   rcases app_get (a:=init.map (·.lo)) (T:=T) hb with hb |⟨e,_⟩
   ·exact h.in_ j s b x hs hb h1 h2
   ·simp at e;omega
  ·rw [List.getElem?_append_right (by omega)] at hs
   have hj0:j=init.length:=by
    rcases hk:j -init.length with _ |m
    ·omega
    ·rw [hk] at hs;simp at hs
   subst hj0
   simp at hs
   subst hs
   rcases app_get (a:=init.map (·.lo)) (T:=T) hb with hb |⟨_,e⟩
   ·rw [List.getElem?_eq_none (by simp)] at hb;cases hb
   ·exact hlast x h1 (by simp only at h1 h2;omega)
 ·intro j b hb
  rw [List.map_append] at hb
  rcases app_get (a:=init.map (·.lo)) (T:=T) hb with hb |⟨_,e⟩
  ·exact h.bnd j b hb
  ·exact ⟨y.r,opn_reg hy.1, .inr e.symm⟩
 ·rcases List.mem_cons.1 (hp.mem_iff.1 (h.all o h1 (by omega))) with rfl |h3
  ·omega
  ·exact h3
 ·have:=h.cnt
  have:=hp.length_eq
  simp at this ⊢
  omega
theorem SwInv.push_same (h:SwInv l i init T rs now) {r:Reg} (hr:l[i]? =some r) (hT:T=r.base) (hs:r.base≤lastR r) (hp:now'.Perm (⟨r,i⟩::now)) (ra:rs'.Pairwise fun a b=>a.k <b.k) (rm: ∀o,o ∈ rs'↔o ∈ now'):SwInv l (i+1) init T rs' now':=by
 refine ⟨h.zero,h.asc,fun j s b x hs hb h1 h2=> ?_,fun j b hb=> ?_,ra,rm,fun o ho=> ?_,fun o h1 h2=> ?_,fun q hq=> ?_,h.t0,h.t1, ?_⟩
 ·rw [atK_next hr (by have:=h.before hb;omega)]
  exact h.in_ j s b x hs hb h1 h2
 ·obtain ⟨q,hq,e⟩:=h.bnd j b hb
  exact ⟨q,by rw [take_next hr];simp [hq],e⟩
 ·rcases List.mem_cons.1 (hp.mem_iff.1 ho) with rfl |h3
  ·exact ⟨(take_opns hr).2 (.inr rfl),by simp only;omega⟩
  ·exact ⟨(take_opns hr).2 (.inl (h.sub o h3).1),(h.sub o h3).2⟩
 ·rw [hp.mem_iff]
  rcases (take_opns hr).1 h1 with h3 |rfl
  ·exact List.mem_cons_of_mem _ (h.all o h3 h2)
  ·simp
 ·rw [take_next hr] at hq
  rcases List.mem_append.1 hq with hq |hq
  ·exact h.bas q hq
  ·have:q=r:=by simpa using hq
   subst this;omega
 ·have:=h.cnt
  have:=hp.length_eq
  simp at this
  omega
theorem SwInv.push_next (h:SwInv l i init T rs now) {r:Reg} (hr:l[i]? =some r) (hT:T <r.base) (hs:r.base≤lastR r) (htop:r.base≤topA) (hno: ∀o ∈ now,r.base≤lastR o.r) (hp:now'.Perm (⟨r,i⟩::now)) (ra:rs'.Pairwise fun a b=>a.k <b.k) (rm: ∀o,o ∈ rs'↔o ∈ now'):SwInv l (i+1) (init++ [⟨T,rs⟩]) r.base rs' now':=by
 have hlast:=fun x (h1:T≤x) (h2:x <r.base)=>h.last h1 (fun o ho=>by have:=hno o ho;omega)
 have ht0:=h.t0
 refine ⟨?_, ?_, ?_, ?_,ra,rm,fun o ho=> ?_,fun o h1 h2=> ?_,fun q hq=> ?_,by omega,htop, ?_⟩
 ·rw [List.map_append,List.getElem?_append_left (by simp)];exact h.zero
 ·rw [List.map_append,List.pairwise_append]
  refine ⟨h.asc,by simp,fun a ha b hb=> ?_⟩
  rw [List.mem_singleton] at hb
  subst hb
  rcases List.mem_append.1 ha with ha |ha
  ·have:=(List.pairwise_append.1 h.asc).2.2 a ha T (by simp);omega
  ·have:a=T:=by simpa using ha
   omega
 ·intro j s b x hs hb h1 h2
  rw [List.map_append] at hb
  by_cases hj:j <init.length
  ·rw [List.getElem?_append_left hj] at hs
   rcases app_get (a:=init.map (·.lo)) (T:=T) hb with hb |⟨e,_⟩
   ·rw [atK_next hr (by have:=h.before hb;omega)]
    exact h.in_ j s b x hs hb h1 h2
   ·simp at e;omega
  ·rw [List.getElem?_append_right (by omega)] at hs
   have hj0:j=init.length:=by
    rcases hk:j -init.length with _ |m
    ·omega
    ·rw [hk] at hs;simp at hs
   subst hj0
   simp at hs
   subst hs
   rcases app_get (a:=init.map (·.lo)) (T:=T) hb with hb |⟨_,e⟩
   ·rw [List.getElem?_eq_none (by simp)] at hb;cases hb
   ·rw [atK_next hr (by omega)]
    exact hlast x h1 (by omega)
 ·intro j b hb
  rw [List.map_append] at hb
  rcases app_get (a:=init.map (·.lo)) (T:=T) hb with hb |⟨_,e⟩
  ·obtain ⟨q,hq,e⟩:=h.bnd j b hb
   exact ⟨q,by rw [take_next hr];simp [hq],e⟩
  ·exact ⟨r,by rw [take_next hr];simp, .inl e.symm⟩
 ·rcases List.mem_cons.1 (hp.mem_iff.1 ho) with rfl |h3
  ·exact ⟨(take_opns hr).2 (.inr rfl),by simp only;omega⟩
  ·exact ⟨(take_opns hr).2 (.inl (h.sub o h3).1),by have:=hno o h3;omega⟩
 ·rw [hp.mem_iff]
  rcases (take_opns hr).1 h1 with h3 |rfl
  ·exact List.mem_cons_of_mem _ (h.all o h3 (by omega))
  ·simp
 ·rw [take_next hr] at hq
  rcases List.mem_append.1 hq with hq |hq
  ·have:=h.bas q hq;omega
  ·have:q=r:=by simpa using hq
   subst this;omega
 ·have:=h.cnt
  have:=hp.length_eq
  simp at this ⊢
  omega
theorem SwInv.done (h:SwInv l l.length init T rs now) (ho: ∀o ∈ now,topA≤lastR o.r):SegsOk l (init++ [⟨T,rs⟩]):=by
 have hl:l.take l.length=l:=List.take_length
 have hm:(init++ [(⟨T,rs⟩:Seg)]).map (fun s=>s.lo)=init.map (fun s=>s.lo)++ [T]:=by simp
 refine ⟨by rw [hm];exact h.zero,by rw [hm];exact h.asc,fun s hs=> ?_,fun j s b x hs hb h1 h2=> ?_,fun j s x hs hj h1 h2=> ?_,fun j b hb=> ?_, ?_⟩
 ·rcases List.mem_append.1 hs with hs |hs
  ·have:=(List.pairwise_append.1 h.asc).2.2 s.lo (List.mem_map.2 ⟨s,hs,rfl⟩) T (by simp)
   have:=h.t1
   omega
  ·rw [List.mem_singleton] at hs;subst hs;exact h.t1
 ·rw [hm] at hb
  have hj:j <init.length:=by
   have:=(List.getElem?_eq_some_iff.1 hb).1
   simp at this;omega
  rw [List.getElem?_append_left hj] at hs
  rw [←hl]
  exact h.in_ j s b x hs hb h1 h2
 ·rw [List.length_append,List.length_singleton] at hj
  have hj0:j=init.length:=by omega
  subst hj0
  rw [List.getElem?_append_right (Nat.le_refl _),Nat.sub_self] at hs
  simp at hs
  subst hs
  have:=h.last h1 (fun o hn=>by have:=ho o hn;omega)
  rwa [hl] at this
 ·rw [hm] at hb
  have:=h.bnd j b hb
  rwa [hl] at this
 ·have:=h.cnt
  simp
  omega
end
end Go.Proofs.YtdmgpdanlfmadaaGreat
namespace Go.Proofs.YtdmgpdanlfmadaaGreat
open Go.RowKit
def insU (l:List Int) (x:Int):List Int:=if x=0∨x ∈ l then l else l.takeWhile (fun y=>decide (y≤x))++x::l.dropWhile (fun y=>decide (y≤x))
def endsU (l:List Int) (r:Reg):List Int:=if lastR r <topA then insU (insU l r.base) (lastR r+1) else insU l r.base
def bndsL (l:List Reg):List Int:=l.foldl endsU []
def sameB (l:List Reg) (a b:Int):Bool:=l.all fun r=>covR r a==covR r b
def segsL (l:List Reg):List Int:=0::(bndsL l).filter fun b=> !sameB l b (b -1)
theorem take_le {x:Int}: ∀ {l:List Int}, ∀y ∈ l.takeWhile (fun y=>decide (y≤x)),y≤x
 | [],y,hy=>by simp at hy
 |a::r,y,hy=>by
  by_cases ha:a≤x
  ·rw [List.takeWhile_cons_of_pos (by simpa using ha)] at hy
   rcases List.mem_cons.1 hy with rfl |hy
   ·exact ha
   ·exact take_le y hy
  ·rw [List.takeWhile_cons_of_neg (by simpa using ha)] at hy
   simp at hy
theorem drop_gt {l:List Int} {x:Int} (h:l.Pairwise (· < ·)): ∀y ∈ l.dropWhile (fun y=>decide (y≤x)),x <y:=by
 induction l with
 |nil=>simp
 |cons a r ih=>
  rw [List.pairwise_cons] at h
  by_cases ha:a≤x
  ·rw [List.dropWhile_cons_of_pos (by simpa using ha)]
   exact ih h.2
  ·rw [List.dropWhile_cons_of_neg (by simpa using ha)]
   intro y hy
   rcases List.mem_cons.1 hy with rfl |hy
   ·omega
   ·have:=h.1 y hy;omega
theorem insU_mem {l:List Int} {x y:Int}:y ∈ insU l x↔y ∈ l∨(y=x∧x≠0):=by
 unfold insU
 split
 ·rename_i h
  constructor
  ·exact .inl
  ·rintro (h1 |⟨rfl,h1⟩)
   ·exact h1
   ·rcases h with h |h
    ·exact absurd h h1
    ·exact h
 ·rename_i h
  have hl:l=l.takeWhile (fun y=>decide (y≤x))++l.dropWhile (fun y=>decide (y≤x)):=(List.takeWhile_append_dropWhile).symm
  have hx:x≠0:=fun e=>h (.inl e)
  constructor
  ·intro h1
   rcases List.mem_append.1 h1 with h1 |h1
   ·left;rw [hl];exact List.mem_append.2 (.inl h1)
   ·rcases List.mem_cons.1 h1 with rfl |h1
    ·exact .inr ⟨rfl,hx⟩
    ·left;rw [hl];exact List.mem_append.2 (.inr h1)
  ·rintro (h1 |⟨rfl,_⟩)
   ·rw [hl] at h1
    rcases List.mem_append.1 h1 with h1 |h1
    ·exact List.mem_append.2 (.inl h1)
    ·exact List.mem_append.2 (.inr (List.mem_cons_of_mem _ h1))
   ·exact List.mem_append.2 (.inr (List.mem_cons_self ..))
theorem insU_asc {l:List Int} {x:Int} (h:l.Pairwise (· < ·)):(insU l x).Pairwise (· < ·):=by
 unfold insU
 split
 ·exact h
 ·rename_i hn
  have hx:x ∉ l:=fun e=>hn (.inr e)
  have hl:l=l.takeWhile (fun y=>decide (y≤x))++l.dropWhile (fun y=>decide (y≤x)):=(List.takeWhile_append_dropWhile).symm
  have h1: ∀y ∈ l.takeWhile (fun y=>decide (y≤x)),y <x:=fun y hy=>by
   have h2:=take_le y hy
   have h3:y≠x:=fun e=>hx (by rw [hl];exact List.mem_append.2 (.inl (e▸hy)))
   omega
  have h4:=drop_gt (x:=x) h
  rw [hl] at h
  rw [List.pairwise_append] at h
  rw [List.pairwise_append,List.pairwise_cons]
  refine ⟨h.1,⟨h4,h.2.1⟩,fun a ha b hb=> ?_⟩
  rcases List.mem_cons.1 hb with rfl |hb
  ·exact h1 a ha
  ·exact h.2.2 a ha b hb
theorem endsU_mem {l:List Int} {r:Reg} {y:Int}:y ∈ endsU l r↔y ∈ l∨(y≠0∧(y=r.base∨(y=lastR r+1∧lastR r <topA))):=by
 unfold endsU
 split
 ·rename_i h
  rw [insU_mem,insU_mem]
  constructor
  ·rintro ((h1 |⟨rfl,h1⟩) |⟨rfl,h1⟩)
   ·exact .inl h1
   ·exact .inr ⟨h1, .inl rfl⟩
   ·exact .inr ⟨h1, .inr ⟨rfl,h⟩⟩
  ·rintro (h1 |⟨h1,rfl |⟨rfl,_⟩⟩)
   ·exact .inl (.inl h1)
   ·exact .inl (.inr ⟨rfl,h1⟩)
   ·exact .inr ⟨rfl,h1⟩
 ·rename_i h
  rw [insU_mem]
  constructor
  ·rintro (h1 |⟨rfl,h1⟩)
   ·exact .inl h1
   ·exact .inr ⟨h1, .inl rfl⟩
  ·rintro (h1 |⟨h1,rfl |⟨_,h2⟩⟩)
   ·exact .inl h1
   ·exact .inr ⟨rfl,h1⟩
   ·exact absurd h2 h
theorem endsU_asc {l:List Int} {r:Reg} (h:l.Pairwise (· < ·)):(endsU l r).Pairwise (· < ·):=by
 unfold endsU
 split
 ·exact insU_asc (insU_asc h)
 ·exact insU_asc h
theorem fold_mem: ∀(l:List Reg) (a:List Int) (y:Int),y ∈ l.foldl endsU a↔y ∈ a∨(y≠0∧ ∃r ∈ l,y=r.base∨(y=lastR r+1∧lastR r <topA))
 | [],a,y=>by simp
 |r::t,a,y=>by
  rw [List.foldl_cons,fold_mem t,endsU_mem]
  constructor
  ·rintro ((h |⟨h,h2⟩) |⟨h,q,hq,h2⟩)
   ·exact .inl h
   ·exact .inr ⟨h,r,by simp,h2⟩
   ·exact .inr ⟨h,q,by simp [hq],h2⟩
  ·rintro (h |⟨h,q,hq,h2⟩)
   ·exact .inl (.inl h)
   ·rcases List.mem_cons.1 hq with rfl |hq
    ·exact .inl (.inr ⟨h,h2⟩)
    ·exact .inr ⟨h,q,hq,h2⟩
theorem fold_asc: ∀(l:List Reg) (a:List Int),a.Pairwise (· < ·)→(l.foldl endsU a).Pairwise (· < ·)
 | [],a,h=>h
 |r::t,a,h=>by rw [List.foldl_cons];exact fold_asc t _ (endsU_asc h)
theorem bnds_mem {l:List Reg} {y:Int}:y ∈ bndsL l↔y≠0∧ ∃r ∈ l,y=r.base∨(y=lastR r+1∧lastR r <topA):=by
 unfold bndsL
 rw [fold_mem]
 simp
theorem bnds_asc (l:List Reg):(bndsL l).Pairwise (· < ·):=fold_asc l [] (by simp)
theorem same_iff {l:List Reg} {a b:Int}:sameB l a b=true↔ ∀r ∈ l,covR r a=covR r b:=by
 unfold sameB
 rw [List.all_eq_true]
 simp
def okR (l:List Reg):Prop:= ∀r ∈ l,0≤r.base∧r.base≤lastR r∧lastR r≤topA
theorem bnds_pos {l:List Reg} (hl:okR l) {y:Int} (h:y ∈ bndsL l):0 <y∧y≤topA:=by
 obtain ⟨h0,r,hr,h1⟩:=bnds_mem.1 h
 have:=hl r hr
 rcases h1 with rfl |⟨rfl,h1⟩<;>omega
theorem segsL_asc {l:List Reg} (hl:okR l):(segsL l).Pairwise (· < ·):=by
 unfold segsL
 rw [List.pairwise_cons]
 exact ⟨fun y hy=>(bnds_pos hl (List.mem_filter.1 hy).1).1,(bnds_asc l).filter _⟩
theorem asc_eq {a b:List Int} (ha:a.Pairwise (· < ·)) (hb:b.Pairwise (· < ·)) (h: ∀x,x ∈ a↔x ∈ b):a=b:=
 List.Perm.eq_of_pairwise (le:=(· < ·)) (fun x y _ _ h1 h2=>by omega) ha hb ((List.perm_ext_iff_of_nodup (ha.imp fun {x y} hxy e=>by subst e;omega) (hb.imp fun {x y} hxy e=>by subst e;omega)).2 h)
theorem range_of: ∀(l:List Int) (x:Int),l.Pairwise (· < ·)→(∃a,l[0]? =some a∧a≤x)→ ∃(j:Nat) (a:Int),l[j]? =some a∧a≤x∧ ∀b,l[j+1]? =some b→x <b
 | [],x,_,h=>by obtain ⟨a,h,_⟩:=h;cases h
 | [a],x,_,h=>by
  obtain ⟨a',h,h2⟩:=h
  exact ⟨0,a',h,h2,fun b hb=>by simp at hb⟩
 |a::b::r,x,hp,h=>by
  obtain ⟨a',h,h2⟩:=h
  by_cases hb:b≤x
  ·obtain ⟨j,c,h3,h4,h5⟩:=range_of (b::r) x (List.pairwise_cons.1 hp).2 ⟨b,rfl,hb⟩
   exact ⟨j+1,c,by simpa using h3,h4,fun d hd=>h5 d (by simpa using hd)⟩
  ·exact ⟨0,a',h,h2,fun d hd=>by simp at hd;omega⟩
theorem SegsOk.at_ {l:List Reg} {segs:List Seg} (h:SegsOk l segs) {x:Int} (h0:0≤x) (h1:x≤topA): ∃(j:Nat) (s:Seg),segs[j]? =some s∧s.lo≤x∧(∀b,(segs.map (·.lo))[j+1]? =some b→x <b)∧s.rs=atK l x:=by
 obtain ⟨j,a,h2,h3,h4⟩:=range_of (segs.map (·.lo)) x h.asc ⟨0,h.zero,h0⟩
 rw [List.getElem?_map] at h2
 obtain ⟨s,hs,rfl⟩:=Option.map_eq_some_iff.1 h2
 refine ⟨j,s,hs,h3,h4, ?_⟩
 rcases hb:(segs.map (·.lo))[j+1]? with _ |b
 ·refine h.end_ j s x hs ?_ h3 h1
  rw [List.getElem?_eq_none_iff] at hb
  have:=(List.getElem?_eq_some_iff.1 hs).1
  simp at hb
  omega
 ·exact h.in_ j s b x hs hb h3 (h4 b hb)
theorem atK_same {l:List Reg} {a b:Int} (h:atK l a=atK l b):sameB l a b=true:=by
 rw [same_iff]
 intro r hr
 obtain ⟨o,ho,rfl⟩:=reg_opn hr
 have:(o ∈ atK l a)↔(o ∈ atK l b):=by rw [h]
 rw [mem_atK,mem_atK] at this
 rw [Bool.eq_iff_iff,covR_iff,covR_iff]
 constructor
 ·intro q;exact (this.1 ⟨ho,q⟩).2
 ·intro q;exact (this.2 ⟨ho,q⟩).2
theorem SegsOk.los {l:List Reg} {segs:List Seg} (h:SegsOk l segs) (hl:okR l):segs.map (·.lo)=segsL l:=by
 refine asc_eq h.asc (segsL_asc hl) fun x=> ?_
 unfold segsL
 rw [List.mem_cons,List.mem_filter]
 constructor
 ·intro hx
  obtain ⟨j,hj⟩:=List.mem_iff_getElem?.1 hx
  rcases j with _ |j
  ·rw [h.zero] at hj;injection hj with hj;exact .inl hj.symm
  ·right
   obtain ⟨r,hr,hb⟩:=h.bnd j x hj
   have hk:=hl r hr
   have hpos:0 <x:=by
    have h0:=h.zero
    have:=List.pairwise_iff_getElem.1 h.asc 0 (j+1) (by have:=(List.getElem?_eq_some_iff.1 hj).1;omega) (List.getElem?_eq_some_iff.1 hj).1 (by omega)
    rw [(List.getElem?_eq_some_iff.1 hj).2,(List.getElem?_eq_some_iff.1 h0).2] at this
    exact this
   have htop:x≤topA:=by
    rw [List.getElem?_map] at hj
    obtain ⟨s,hs,rfl⟩:=Option.map_eq_some_iff.1 hj
    exact h.top s (List.mem_of_getElem? hs)
   refine ⟨bnds_mem.2 ⟨by omega,r,hr, ?_⟩, ?_⟩
   ·rcases hb with hb |hb
    ·exact .inl hb.symm
    ·exact .inr ⟨hb.symm,by omega⟩
   ·rcases hs:sameB l x (x -1) with _ |_
    ·rfl
    ·have:=same_iff.1 hs r hr
     have h1:=covR_iff (r:=r) (x:=x)
     have h2:=covR_iff (r:=r) (x:=x -1)
     rw [this] at h1
     have h3:=h1.symm.trans h2
     rcases hb with hb |hb
     ·have:=h3.1 ⟨by omega,by omega⟩;omega
     ·have:=h3.2 ⟨by omega,by omega⟩;omega
 ·rintro (rfl |⟨hb,hs⟩)
  ·exact List.mem_of_getElem? h.zero
  ·have hp:=bnds_pos hl hb
   obtain ⟨j,s,hj,h1,h2,h3⟩:=h.at_ (x:=x) (by omega) hp.2
   by_cases he:s.lo=x
   ·exact List.mem_map.2 ⟨s,List.mem_of_getElem? hj,he⟩
   ·have h4:s.rs=atK l (x -1):=by
     rcases hn:(segs.map (·.lo))[j+1]? with _ |b
     ·refine h.end_ j s (x -1) hj ?_ (by omega) (by omega)
      rw [List.getElem?_eq_none_iff] at hn
      have:=(List.getElem?_eq_some_iff.1 hj).1
      simp at hn
      omega
     ·exact h.in_ j s b (x -1) hj hn (by omega) (by have:=h2 b hn;omega)
    have h5:=atK_same (h3.symm.trans h4)
    rw [h5] at hs
    cases hs
theorem sameB_perm {l m:List Reg} (h:l.Perm m) (a b:Int):sameB l a b=sameB m a b:=by
 rw [Bool.eq_iff_iff,same_iff,same_iff]
 exact ⟨fun q r hr=>q r (h.mem_iff.2 hr),fun q r hr=>q r (h.mem_iff.1 hr)⟩
theorem bnds_perm {l m:List Reg} (h:l.Perm m):bndsL l=bndsL m:=by
 refine asc_eq (bnds_asc l) (bnds_asc m) fun x=> ?_
 rw [bnds_mem,bnds_mem]
 constructor
 ·rintro ⟨h0,r,hr,h1⟩;exact ⟨h0,r,h.mem_iff.1 hr,h1⟩
 ·rintro ⟨h0,r,hr,h1⟩;exact ⟨h0,r,h.mem_iff.2 hr,h1⟩
theorem segsL_perm {l m:List Reg} (h:l.Perm m):segsL l=segsL m:=by
 unfold segsL
 rw [bnds_perm h]
 congr 1
 apply List.filter_congr
 intro b _
 rw [sameB_perm h]
end Go.Proofs.YtdmgpdanlfmadaaGreat
namespace Go.Proofs.YtdmgpdanlfmadaaGreat
open Go.RowKit
def refSeg (l:List Int) (x:Int):Int × Int:=l.foldr (fun b p=>if b≤x then (max p.1 b,p.2) else (p.1,b -1)) (0,topA)
theorem seg_high {x:Int}: ∀ {l:List Int},l.Pairwise (· < ·)→(∀b ∈ l,x <b)→refSeg l x=(0,match l with | []=>topA |b::_=>b -1)
 | [],_,_=>rfl
 |b::r,hp,h=>by
  have ih:=seg_high (x:=x) (List.pairwise_cons.1 hp).2 (fun c hc=>h c (by simp [hc]))
  have hb:=h b (by simp)
  unfold refSeg at ih ⊢
  rw [List.foldr_cons,ih,if_neg (by omega)]
theorem seg_low {x hi:Int}: ∀ {l:List Int} {a:Int},(l++ [a]).Pairwise (· < ·)→(∀b ∈ l++ [a],0≤b∧b≤x)→(l++ [a]).foldr (fun b p=>if b≤x then (max p.1 b,p.2) else (p.1,b -1)) (0,hi)=(a,hi)
 | [],a,_,h=>by
  have:=h a (by simp)
  simp only [List.nil_append,List.foldr_cons,List.foldr_nil]
  rw [if_pos this.2]
  congr 1
  omega
 |b::r,a,hp,h=>by
  rw [List.cons_append] at hp h ⊢
  have hp2:=List.pairwise_cons.1 hp
  have ih:=seg_low (hi:=hi) hp2.2 (fun c hc=>h c (by simp [hc]))
  have hb:=h b (by simp)
  have:=hp2.1 a (by simp)
  rw [List.foldr_cons,ih,if_pos hb.2]
  congr 1
  omega
theorem refSeg_at {l:List Int} {x a:Int} {j:Nat} (hp:l.Pairwise (· < ·)) (h0: ∀b ∈ l,0≤b) (hj:l[j]? =some a) (ha:a≤x) (hn: ∀b,l[j+1]? =some b→x <b):
  refSeg l x=(a,match l[j+1]? with |some b=>b -1 |none=>topA):=by
 have hl:l=(l.take j++ [a])++l.drop (j+1):=by
  rw [←take_next hj,List.take_append_drop]
 have hp2:=hp
 rw [hl,List.pairwise_append] at hp2
 have hd: ∀b ∈ l.drop (j+1),x <b:=by
  intro b hb
  rcases hdr:l.drop (j+1) with _ |⟨c,r⟩
  ·rw [hdr] at hb;cases hb
  ·have hc:l[j+1]? =some c:=by
    have:(l.drop (j+1))[0]? =some c:=by rw [hdr];rfl
    rwa [List.getElem?_drop] at this
   have hxc:=hn c hc
   rw [hdr] at hb
   rcases List.mem_cons.1 hb with rfl |hb
   ·exact hxc
   ·have h3:=hp2.2.1
    rw [hdr,List.pairwise_cons] at h3
    have:=h3.1 b hb
    omega
 have hlow: ∀b ∈ l.take j++ [a],0≤b∧b≤x:=by
  intro b hb
  have hm:b ∈ l:=by rw [hl];exact List.mem_append.2 (.inl hb)
  refine ⟨h0 b hm, ?_⟩
  rcases List.mem_append.1 hb with hb |hb
  ·have:=(List.pairwise_append.1 hp2.1).2.2 b hb a (by simp);omega
  ·rw [List.mem_singleton] at hb;omega
 have hh:=seg_high hp2.2.1 hd
 unfold refSeg at hh
 conv=>lhs;rw [hl]
 unfold refSeg
 rw [List.foldr_append,hh,seg_low hp2.1 hlow]
 congr 1
 rcases hdr:l.drop (j+1) with _ |⟨c,r⟩
 ·have:l[j+1]? =none:=by
   rw [List.getElem?_eq_none_iff]
   exact List.drop_eq_nil_iff.1 hdr
  rw [this]
 ·have:l[j+1]? =some c:=by
   have h2:(l.drop (j+1))[0]? =some c:=by rw [hdr];rfl
   rwa [List.getElem?_drop] at h2
  rw [this]
def endSeg (segs:List Seg) (j:Nat):Int:=match segs[j+1]? with |some t=>t.lo -1 |none=>topA
theorem SegsOk.refSeg {l:List Reg} {segs:List Seg} (h:SegsOk l segs) (hl:okR l) {x:Int} {j:Nat} {s:Seg} (hj:segs[j]? =some s) (h1:s.lo≤x) (h2: ∀b,(segs.map (·.lo))[j+1]? =some b→x <b):Go.Proofs.YtdmgpdanlfmadaaGreat.refSeg (segsL l) x=(s.lo,endSeg segs j):=by
 rw [←h.los hl]
 rw [refSeg_at (j:=j) (a:=s.lo) h.asc (fun b hb=> ?_) (by rw [List.getElem?_map,hj];rfl) h1 h2]
 ·unfold endSeg
  rw [List.getElem?_map]
  cases segs[j+1]? <;>rfl
 ·rw [h.los hl] at hb
  unfold segsL at hb
  rcases List.mem_cons.1 hb with rfl |hb
  ·exact Int.le_refl _
  ·have:=(bnds_pos hl (List.mem_filter.1 hb).1).1;omega
theorem SegsOk.same_seg {l:List Reg} {segs:List Seg} (h:SegsOk l segs) {x:Int} {j:Nat} {s:Seg} (hj:segs[j]? =some s) (h1:s.lo≤x) (h2:x≤endSeg segs j) (h3:x≤topA):s.rs=atK l x:=by
 unfold endSeg at h2
 rcases hb:segs[j+1]? with _ |t
 ·refine h.end_ j s x hj ?_ h1 h3
  have:=(List.getElem?_eq_some_iff.1 hj).1
  have:=List.getElem?_eq_none_iff.1 hb
  omega
 ·rw [hb] at h2
  simp only at h2
  exact h.in_ j s t.lo x hj (by rw [List.getElem?_map,hb];rfl) h1 (by omega)
theorem endSeg_top {l:List Reg} {segs:List Seg} (h:SegsOk l segs) {j:Nat} {s:Seg} (hj:segs[j]? =some s):s.lo≤endSeg segs j∧endSeg segs j≤topA:=by
 unfold endSeg
 rcases hb:segs[j+1]? with _ |t
 ·exact ⟨h.top s (List.mem_of_getElem? hj),Int.le_refl _⟩
 ·have h1:=List.pairwise_iff_getElem.1 h.asc j (j+1) (by have:=(List.getElem?_eq_some_iff.1 hj).1;simpa using this) (by have:=(List.getElem?_eq_some_iff.1 hb).1;simpa using this) (by omega)
  have e1:=(List.getElem?_eq_some_iff.1 hj).2
  have e2:=(List.getElem?_eq_some_iff.1 hb).2
  have h3:s.lo <t.lo:=by
   rw [←e1, ←e2]
   simpa using h1
  have:=h.top t (List.mem_of_getElem? hb)
  simp only
  omega
theorem SegsOk.differ {l:List Reg} {segs:List Seg} (h:SegsOk l segs) (hl:okR l) {j:Nat} {s:Seg} (hj:segs[j+1]? =some s):(l.filter fun r=>covR r s.lo)≠(l.filter fun r=>covR r (s.lo -1)):=by
 intro he
 have hm:s.lo ∈ segsL l:=by
  rw [←h.los hl]
  exact List.mem_map.2 ⟨s,List.mem_of_getElem? hj,rfl⟩
 have hpos:0 <s.lo:=by
  have h0:=h.zero
  have hl1:j+1 <(segs.map (·.lo)).length:=by have:=(List.getElem?_eq_some_iff.1 hj).1;simpa using this
  have h1:=List.pairwise_iff_getElem.1 h.asc 0 (j+1) (by omega) hl1 (by omega)
  rw [(List.getElem?_eq_some_iff.1 h0).2] at h1
  have e:=(List.getElem?_eq_some_iff.1 hj).2
  rw [←e]
  simpa using h1
 unfold segsL at hm
 rcases List.mem_cons.1 hm with h0 |hm
 ·omega
 ·have hn:=(List.mem_filter.1 hm).2
  have hs:sameB l s.lo (s.lo -1)=true:=by
   rw [same_iff]
   intro r hr
   have h1:r ∈ (l.filter fun r=>covR r s.lo)↔r ∈ (l.filter fun r=>covR r (s.lo -1)):=by rw [he]
   rw [List.mem_filter,List.mem_filter] at h1
   rw [Bool.eq_iff_iff]
   exact ⟨fun q=>(h1.1 ⟨hr,q⟩).2,fun q=>(h1.2 ⟨hr,q⟩).2⟩
  rw [hs] at hn
  cases hn
def alignV (x b:Int):Int × Bool:=if b=0 then (0,false) else if x%b=0 then (x,true) else if x+(b -x%b)≤topA then (x+(b -x%b),true) else (0,false)
def fitB (lo hi:Int) (none:Bool) (size al:Int):Bool:=(alignV lo al).2&&none&&decide ((alignV lo al).1≤hi)&&decide (size -1≤hi -(alignV lo al).1)
def freeFrom (segs:List Seg) (size al:Int):Nat→List Seg→Int × Bool
 |_,[]=>(0,false)
 |j,s::r=>if fitB s.lo (endSeg segs j) s.rs.isEmpty size al then ((alignV s.lo al).1,true) else freeFrom segs size al (j+1) r
def freeV (segs:List Seg) (size al:Int):Int × Bool:=if size=0 then (0,false) else freeFrom segs size al 0 segs
theorem free_some {segs:List Seg} {size al a:Int}: ∀ {l:List Seg} {j:Nat},freeFrom segs size al j l=(a,true)→ ∃k s,l[k]? =some s∧fitB s.lo (endSeg segs (j+k)) s.rs.isEmpty size al=true∧a=(alignV s.lo al).1
 | [],j,h=>by simp [freeFrom] at h
 |s::r,j,h=>by
  unfold freeFrom at h
  split at h
  ·rename_i hf
   injection h with h _
   exact ⟨0,s,rfl,hf,h.symm⟩
  ·obtain ⟨k,t,h1,h2,h3⟩:=free_some h
   exact ⟨k+1,t,by simpa using h1,by rw [show j+(k+1)=j+1+k by omega];exact h2,h3⟩
theorem align_ge {x b:Int} (hb:0≤b) (h:(alignV x b).2=true):x≤(alignV x b).1:=by
 unfold alignV at*
 split at h
 ·cases h
 ·rename_i h0
  rw [if_neg h0]
  split at h
  ·rename_i h1
   rw [if_pos h1]
   exact Int.le_refl _
  ·rename_i h1
   rw [if_neg h1]
   have:=Int.emod_lt_of_pos x (show (0:Int) <b by omega)
   split at h
   ·rename_i h2
    rw [if_pos h2]
    simp only
    omega
   ·cases h
theorem SegsOk.free {l:List Reg} {segs:List Seg} (h:SegsOk l segs) {size al a:Int} (hal:0≤al) (hf:freeV segs size al=(a,true)):(0 <size→0≤a∧a+size -1≤topA∧ ∀x,a≤x→x≤a+size -1→ ∀r ∈ l,covR r x=false):=by
 intro hs
 unfold freeV at hf
 rw [if_neg (by omega)] at hf
 obtain ⟨k,s,hk,hfit,rfl⟩:=free_some hf
 unfold fitB at hfit
 simp only [Bool.and_eq_true,decide_eq_true_eq,List.isEmpty_iff] at hfit
 obtain ⟨⟨⟨h1,h2⟩,h3⟩,h4⟩:=hfit
 rw [Nat.zero_add] at h3 h4
 have h5:=align_ge hal h1
 have h6:=endSeg_top h hk
 have h0:0≤s.lo:=by
  have hz:=h.zero
  rcases k with _ |k
  ·rw [List.getElem?_map,hk] at hz
   injection hz with hz
   have hz:s.lo=0:=hz
   omega
  ·have hl1:k+1 <(segs.map (·.lo)).length:=by have:=(List.getElem?_eq_some_iff.1 hk).1;simpa using this
   have h7:=List.pairwise_iff_getElem.1 h.asc 0 (k+1) (by omega) hl1 (by omega)
   rw [(List.getElem?_eq_some_iff.1 hz).2] at h7
   have e:=(List.getElem?_eq_some_iff.1 hk).2
   have:(0:Int) <s.lo:=by rw [←e];simpa using h7
   omega
 refine ⟨by omega,by omega,fun x hx1 hx2 r hr=> ?_⟩
 have h7:=h.same_seg hk (x:=x) (by omega) (by omega) (by omega)
 rw [h2] at h7
 rcases hc:covR r x with _ |_
 ·rfl
 ·obtain ⟨o,ho,rfl⟩:=reg_opn hr
  have:o ∈ atK l x:=mem_atK.2 ⟨ho,covR_iff.1 hc⟩
  rw [←h7] at this
  cases this
end Go.Proofs.YtdmgpdanlfmadaaGreat
namespace Go.Proofs.YtdmgpdanlfmadaaGreat
theorem countP_lt {q:Nat→Bool}: ∀ {n m:Nat},m≤n→(∀i,i <n→q i=decide (i <m))→(List.range n).countP q=m
 |0,m,h,_=>by simp;omega
 |n+1,m,h,hq=>by
  rw [List.range_succ,List.countP_append]
  by_cases hm:m=n+1
  ·rw [countP_lt (n:=n) (m:=n) (Nat.le_refl _) (fun i hi=>by rw [hq i (by omega),hm];simp;omega)]
   have:=hq n (by omega)
   simp [this,hm]
  ·rw [countP_lt (n:=n) (m:=m) (by omega) (fun i hi=>hq i (by omega))]
   have:=hq n (by omega)
   have h2:decide (n <m)=false:=decide_eq_false (by omega)
   simp [this,h2]
def loAt (segs:List Seg) (i:Nat):Int:=match segs[i]? with
 |some s=>s.lo
 |none=>0
theorem loAt_at {segs:List Seg} {i:Nat} {s:Seg} (h:segs[i]? =some s):loAt segs i=s.lo:=by unfold loAt;rw [h]
section
variable {l:List Reg} {segs:List Seg}
theorem SegsOk.lo_lt (h:SegsOk l segs) {i j:Nat} (hij:i <j) (hj:j <segs.length):loAt segs i <loAt segs j:=by
 have hi:i <segs.length:=by omega
 rw [loAt_at (List.getElem?_eq_getElem hi),loAt_at (List.getElem?_eq_getElem hj)]
 have:=List.pairwise_iff_getElem.1 h.asc i j (by simpa using hi) (by simpa using hj) hij
 simpa using this
theorem SegsOk.lo_le (h:SegsOk l segs) {i j:Nat} (hij:i≤j) (hj:j <segs.length):loAt segs i≤loAt segs j:=by
 rcases Nat.lt_or_eq_of_le hij with h1 |rfl
 ·have:=h.lo_lt h1 hj;omega
 ·exact Int.le_refl _
def cntLo (segs:List Seg) (x:Int):Nat:=(List.range segs.length).countP fun i=> !decide (x <loAt segs i)
theorem SegsOk.find (h:SegsOk l segs) {x:Int} (h0:0≤x) (h1:x≤topA): ∃(j:Nat) (s:Seg),cntLo segs x=j+1∧segs[j]? =some s∧s.lo≤x∧(∀b,(segs.map (·.lo))[j+1]? =some b→x <b)∧s.rs=atK l x:=by
 obtain ⟨j,s,hj,h2,h3,h4⟩:=h.at_ h0 h1
 have hjl:=(List.getElem?_eq_some_iff.1 hj).1
 refine ⟨j,s,countP_lt (by omega) fun i hi=> ?_,hj,h2,h3,h4⟩
 have e1:=loAt_at hj
 by_cases hij:i≤j
 ·have:=h.lo_le hij hjl
  have e2:decide (x <loAt segs i)=false:=decide_eq_false (by omega)
  rw [e2];simp;omega
 ·have hb:(segs.map (·.lo))[j+1]? =some (loAt segs (j+1)):=by
   have hl1:j+1 <segs.length:=by omega
   rw [List.getElem?_map,loAt_at (List.getElem?_eq_getElem hl1),List.getElem?_eq_getElem hl1];rfl
  have:=h3 _ hb
  have:=h.lo_le (show j+1≤i by omega) hi
  have e2:decide (x <loAt segs i)=true:=decide_eq_true (by omega)
  rw [e2];simp;omega
theorem SegsOk.mono (h:SegsOk l segs) (x:Int) (a b:Nat) (hab:a≤b) (hb:b <segs.length) (ha:decide (x <loAt segs a)=true):decide (x <loAt segs b)=true:=by
 have:=h.lo_le hab hb
 have:=of_decide_eq_true ha
 exact decide_eq_true (by omega)
end
end Go.Proofs.YtdmgpdanlfmadaaGreat
