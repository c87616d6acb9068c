/-
  Spans that are cut by spans, as plain lists: what is left, in order and apart. It speaks of no program.
-/
import Derived.Test.YtdmgpdanlfmadaaGreatMemA
import Derived.Test.YtdmgpdanlfmadaaGreatMemB
namespace Go.Proofs.YtdmgpdanlfmadaaGreat
open Go.RowKit
def okS (s:Spn):Prop:=okSp s.lo s.len
def lastS (s:Spn):Int:=s.lo+s.len -1
def cutLo (x s:Spn):List Spn:=if x.lo <s.lo then [⟨x.lo,s.lo -x.lo⟩] else []
def cutHi (x s:Spn):List Spn:=if lastS s <lastS x then [⟨lastS s+1,lastS x -lastS s⟩] else []
def cut1 (x s:Spn):List Spn:=if meetS x s then cutLo x s++cutHi x s else [x]
def cutL (l:List Spn) (s:Spn):List Spn:=l.flatMap fun x=>cut1 x s
def Apart (l:List Spn):Prop:=l.Pairwise fun x y=>lastS x <y.lo
theorem meetS_iffR {a b:Spn} (ha:okSp a.lo a.len) (hb:okSp b.lo b.len):meetS a b=true↔(a.lo≤b.lo+b.len -1∧b.lo≤a.lo+a.len -1):=by
 have h1:=ha.2.1
 have h2:=hb.2.1
 unfold meetS hasS
 simp only [Bool.or_eq_true,Bool.and_eq_true,decide_eq_true_eq]
 omega
theorem meetS_last {a b:Spn} (ha:okS a) (hb:okS b):meetS a b=true↔(a.lo≤lastS b∧b.lo≤lastS a):=meetS_iffR ha hb
theorem cut1_in {x s y:Spn} (hx:okS x) (hs:okS s) (hy:y ∈ cut1 x s):okS y∧x.lo≤y.lo∧lastS y≤lastS x:=by
 have h1:=hx.1;have h2:=hx.2.1;have h3:=hx.2.2
 have g1:=hs.1;have g2:=hs.2.1;have g3:=hs.2.2
 unfold cut1 at hy
 by_cases hm:meetS x s=true
 ·have hm2:=(meetS_last hx hs).1 hm
  rw [if_pos hm] at hy
  unfold lastS at*
  rcases List.mem_append.1 hy with hy |hy
  ·unfold cutLo at hy
   split at hy
   ·rw [List.mem_singleton] at hy;subst hy
    unfold okS okSp
    simp only
    omega
   ·simp at hy
  ·unfold cutHi lastS at hy
   split at hy
   ·rw [List.mem_singleton] at hy;subst hy
    unfold okS okSp
    simp only
    omega
   ·simp at hy
 ·rw [if_neg hm,List.mem_singleton] at hy
  subst hy
  exact ⟨hx,Int.le_refl _,Int.le_refl _⟩
theorem cut1_apart {x s:Spn} (hx:okS x) (hs:okS s):Apart (cut1 x s):=by
 have h2:=hx.2.1;have g2:=hs.2.1
 unfold cut1 cutLo cutHi Apart
 split
 ·split<;>split<;>simp [lastS]<;>omega
 ·simp
theorem cut1_len {x s:Spn} (_hx:okS x) (_hs:okS s):(cut1 x s).length≤2∧((cut1 x s).length=2→x.lo <s.lo∧lastS s <lastS x):=by
 unfold cut1 cutLo cutHi
 split
 ·split<;>split<;>simp<;>omega
 ·simp
theorem cut1_far {x s:Spn} (hx:okS x) (hs:okS s) (h:lastS s <x.lo):cut1 x s= [x]:=by
 unfold cut1
 rw [if_neg]
 intro hm
 have:=(meetS_last hx hs).1 hm
 omega
theorem cutL_in {l:List Spn} {s y:Spn} (hl: ∀x ∈ l,okS x) (hs:okS s) (hy:y ∈ cutL l s): ∃x ∈ l,okS y∧x.lo≤y.lo∧lastS y≤lastS x:=by
 obtain ⟨x,hx,hy⟩:=List.mem_flatMap.1 hy
 exact ⟨x,hx,cut1_in (hl x hx) hs hy⟩
theorem cutL_apart: ∀ {l:List Spn} {s:Spn},(∀x ∈ l,okS x)→okS s→Apart l→Apart (cutL l s)
 | [],s,_,_,_=>List.Pairwise.nil
 |x::r,s,hl,hs,ha=>by
  have ha2:=List.pairwise_cons.1 ha
  show (cutL (x::r) s).Pairwise _
  unfold cutL
  rw [List.flatMap_cons,List.pairwise_append]
  refine ⟨cut1_apart (hl x (by simp)) hs,cutL_apart (fun y hy=>hl y (by simp [hy])) hs ha2.2,fun y hy z hz=> ?_⟩
  have h1:=cut1_in (hl x (by simp)) hs hy
  obtain ⟨u,hu,h2⟩:=cutL_in (fun y hy=>hl y (by simp [hy])) hs hz
  have:=ha2.1 u hu
  omega
theorem cutL_far: ∀ {l:List Spn} {s:Spn},(∀x ∈ l,okS x)→okS s→(∀x ∈ l,lastS s <x.lo)→cutL l s=l
 | [],_,_,_,_=>rfl
 |x::r,s,hl,hs,h=>by
  unfold cutL
  rw [List.flatMap_cons,cut1_far (hl x (by simp)) hs (h x (by simp))]
  have:=cutL_far (l:=r) (fun y hy=>hl y (by simp [hy])) hs (fun y hy=>h y (by simp [hy]))
  unfold cutL at this
  rw [this];rfl
theorem cutL_len: ∀ {l:List Spn} {s:Spn},(∀x ∈ l,okS x)→okS s→Apart l→(cutL l s).length≤l.length+1
 | [],_,_,_,_=>by simp [cutL]
 |x::r,s,hl,hs,ha=>by
  have ha2:=List.pairwise_cons.1 ha
  have hr: ∀y ∈ r,okS y:=fun y hy=>hl y (by simp [hy])
  have h1:=cut1_len (hl x (by simp)) hs
  have e:(cutL (x::r) s).length=(cut1 x s).length+(cutL r s).length:=by unfold cutL;rw [List.flatMap_cons,List.length_append]
  rw [e,List.length_cons]
  by_cases h2:(cut1 x s).length=2
  ·have h3:=h1.2 h2
   rw [cutL_far hr hs (fun y hy=>by have:=ha2.1 y hy;omega),h2]
   omega
  ·have:=cutL_len hr hs ha2.2
   omega
def hasL (l:List Spn) (a:Int):Prop:= ∃x ∈ l,hasS x a=true
theorem hasS_iff {x:Spn} {a:Int}:hasS x a=true↔(x.lo≤a∧a≤lastS x):=by unfold hasS lastS;simp
theorem cut1_has {x s:Spn} (hx:okS x) (hs:okS s) (a:Int):hasL (cut1 x s) a↔(hasS x a=true∧ ¬hasS s a=true):=by
 have h2:=hx.2.1;have g2:=hs.2.1
 unfold hasL
 simp only [hasS_iff]
 unfold cut1 cutLo cutHi
 by_cases hm:meetS x s=true
 ·have hm2:=(meetS_last hx hs).1 hm
  rw [if_pos hm]
  unfold lastS at*
  split<;>split<;>simp<;>omega
 ·have hm2: ¬(x.lo≤lastS s∧s.lo≤lastS x):=fun h=>hm ((meetS_last hx hs).2 h)
  rw [if_neg hm]
  unfold lastS at*
  simp
  omega
theorem cutL_has {l:List Spn} {s:Spn} (hl: ∀x ∈ l,okS x) (hs:okS s) (a:Int):hasL (cutL l s) a↔(hasL l a∧ ¬hasS s a=true):=by
 constructor
 ·rintro ⟨y,hy,h⟩
  obtain ⟨x,hx,hy⟩:=List.mem_flatMap.1 hy
  have:=(cut1_has (hl x hx) hs a).1 ⟨y,hy,h⟩
  exact ⟨⟨x,hx,this.1⟩,this.2⟩
 ·rintro ⟨⟨x,hx,h⟩,hn⟩
  obtain ⟨y,hy,h⟩:=(cut1_has (hl x hx) hs a).2 ⟨h,hn⟩
  exact ⟨y,List.mem_flatMap.2 ⟨x,hx,hy⟩,h⟩
def leftL (s:Spn) (l:List Reg):List Spn:=l.foldl (fun o r=>cutL o (spnOf r)) [s]
structure LeftOk (s:Spn) (l:List Reg) (o:List Spn):Prop where
 ok: ∀x ∈ o,okS x
 ap:Apart o
 len:o.length≤l.length+1
 has: ∀a,hasL o a↔(hasS s a=true∧ ∀r ∈ l,ownsB r a=false)
theorem LeftOk.start {s:Spn} (hs:okS s):LeftOk s [] [s]:=
 ⟨by simp [hs],by unfold Apart;simp,by simp,fun a=>by simp [hasL]⟩
theorem LeftOk.next {s:Spn} {l:List Reg} {o:List Spn} {r:Reg} (h:LeftOk s l o) (hr:okSp r.base r.size):LeftOk s (l++ [r]) (cutL o (spnOf r)):=by
 have hs:okS (spnOf r):=hr
 refine ⟨fun y hy=> ?_,cutL_apart h.ok hs h.ap, ?_,fun a=> ?_⟩
 ·obtain ⟨x,_,h1,_⟩:=cutL_in h.ok hs hy;exact h1
 ·have:=cutL_len h.ok hs h.ap
  have:=h.len
  simp
  omega
 ·rw [cutL_has h.ok hs,h.has a,ownsB_has]
  simp only [List.mem_append,List.mem_singleton]
  constructor
  ·rintro ⟨⟨h1,h2⟩,h3⟩
   exact ⟨h1,fun x hx=>by rcases hx with hx |rfl;exact h2 x hx;simpa using h3⟩
  ·rintro ⟨h1,h2⟩
   exact ⟨⟨h1,fun x hx=>h2 x (.inl hx)⟩,by have:=h2 r (.inr rfl);simp [this]⟩
theorem LeftOk.empty {s:Spn} {l:List Reg} {o:List Spn} (h:LeftOk s l o):o= []↔Cov l s.lo s.len:=by
 constructor
 ·rintro rfl a h1 h2
  have hh:=(h.has a).2
  rcases Classical.em (∃r ∈ l,ownsB r a=true) with h3 |h3
  ·exact h3
  ·exfalso
   obtain ⟨x,hx,_⟩:=hh ⟨hasS_iff.2 ⟨h1,by unfold lastS;omega⟩,fun r hr=>by
    rcases hb:ownsB r a with _ |_
    ·rfl
    ·exact absurd ⟨r,hr,hb⟩ h3⟩
   simp at hx
 ·intro hc
  rcases o with _ |⟨x,r⟩
  ·rfl
  ·exfalso
   have hx:=h.ok x (by simp)
   have h1:=(h.has x.lo).1 ⟨x,by simp,hasS_iff.2 ⟨Int.le_refl _,by have:=hx.2.1;unfold lastS;omega⟩⟩
   have h2:=hasS_iff.1 h1.1
   obtain ⟨r,hr,ho⟩:=hc x.lo h2.1 (by unfold lastS at h2;omega)
   rw [h1.2 r hr] at ho
   cases ho
end Go.Proofs.YtdmgpdanlfmadaaGreat
