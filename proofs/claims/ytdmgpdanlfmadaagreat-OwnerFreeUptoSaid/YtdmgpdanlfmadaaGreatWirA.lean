/-
  What the reference of layer 18 (wiring) computes, walked once: in, uses, Ports, Unique.
-/
import Derived.Test.YtdmgpdanlfmadaaGreatCore
import Derived.Deep.Cut
import Derived.Deep.RegionHeld3
import Derived.Deep.CutBlock
import Derived.Deep.DeepCutAuto
namespace Go.Proofs.YtdmgpdanlfmadaaGreat
open Go.RowKit
attribute [local go_sem] ext_cell
def hasI (l:List Int) (x:Int):Bool:=l.contains x
theorem hasI_iff {l:List Int} {x:Int}:hasI l x=true↔x ∈ l:=List.contains_iff_mem
theorem hasI_no {l:List Int} {x:Int} (h:x ∉ l):hasI l x=false:=Bool.eq_false_iff.2 (fun e=>h (hasI_iff.1 e))
theorem contains_hit {l:List Int} {k:Nat} {y x:Int} (hy:l[k]? =some y) (h:y=x):hasI l x=true:=by
 rw [hasI_iff];exact h▸List.mem_of_getElem? hy
theorem usesL_hit {l:List Chn} {n k:Nat} {x:Chn} {id:Int} (hx:l[k]? =some x) (hk:k <n) (h:(x.source==id||x.dests.contains id)=true):usesL (l.take n) id=true:=by
 unfold usesL
 rw [List.any_eq_true]
 exact ⟨x,mem_take_of hx hk,h⟩
theorem usesL_miss {l:List Chn} {k:Nat} {x:Chn} {id:Int} (hx:l[k]? =some x) (h0:usesL (l.take k) id=false) (h:(x.source==id||x.dests.contains id)=false):usesL (l.take (k+1)) id=false:=by
 rw [take_next hx]
 unfold usesL at h0 ⊢
 rw [List.any_append,h0,List.any_cons,h];rfl
end Go.Proofs.YtdmgpdanlfmadaaGreat
namespace Go.Proofs.YtdmgpdanlfmadaaGreat
open Go.RowKit
attribute [local go_sem] ext_cell
theorem ret_pair {p q:Int × Int} (h:p=q):Ending.returned (.tuple #[.int .i64 p.1, .int .i64 p.2])= .returned (.tuple #[.int .i64 q.1, .int .i64 q.2]):=by rw [h]
theorem portCode_19 {c:Cfg} {x:Prt} (h:idx (fun y=>y.id==x.part) c.parts <0):portCode c x=19:=by unfold portCode;rw [if_pos h]
theorem portCode_28 {c:Cfg} {x:Prt} (h: ¬idx (fun y=>y.id==x.part) c.parts <0) (h2:x.size=0):portCode c x=28:=by unfold portCode;rw [if_neg h,if_pos h2]
theorem portCode_0 {c:Cfg} {x:Prt} (h: ¬idx (fun y=>y.id==x.part) c.parts <0) (h2:x.size≠0):portCode c x=0:=by unfold portCode;rw [if_neg h,if_neg h2]
def uniqueB (c:Cfg):Bool:=decide ((c.parts.map (·.id)).Nodup∧(c.ports.map (·.id)).Nodup∧(c.chans.map (·.id)).Nodup)
theorem idx_lt_mem {α:Type} {f:α→Int} {l:List α} {k:Nat} {x:α} (hx:l[k]? =some x):idx (fun y=>f y==f x) l <(k:Int)↔f x ∈ (l.map f).take k:=by
 have hmem:(∃j:Nat,j <k∧ ∃y,l[j]? =some y∧f y=f x)↔f x ∈ (l.map f).take k:=by
  rw [List.mem_iff_getElem?]
  constructor
  ·rintro ⟨j,hj,y,hy,e⟩
   exact ⟨j,by rw [List.getElem?_take,if_pos hj,List.getElem?_map,hy];simp [e]⟩
  ·rintro ⟨j,hj⟩
   rw [List.getElem?_take] at hj
   split at hj
   ·rename_i hlt
    rw [List.getElem?_map] at hj
    obtain ⟨y,hy,e⟩:=Option.map_eq_some_iff.1 hj
    exact ⟨j,hlt,y,hy,e⟩
   ·cases hj
 rw [←hmem]
 rcases idx_cases (fun y=>f y==f x) l with ⟨h1,h2⟩ |⟨j,y,h1,h2,h3,h4,h5⟩
 ·have:=List.find?_eq_none.1 h2 x (List.mem_of_getElem? hx)
  simp at this
 ·rw [h1]
  constructor
  ·intro h;exact ⟨j,by omega,y,h3,by simpa using h5⟩
  ·rintro ⟨i,hi,z,hz,e⟩
   have hle:j≤i:=by
    have hj:=List.find?_eq_some_iff_getElem.1 h4
    obtain ⟨_,m,hm,hy,hall⟩:=hj
    rcases Nat.lt_or_ge i m with h |h
    ·have:=hall i h
     have hiz:l[i]'(by omega)=z:=by rw [List.getElem?_eq_getElem (by omega)] at hz;injection hz
     rw [hiz] at this
     simp [e] at this
    ·by_cases hjm:j=m
     ·omega
     ·rcases Nat.lt_or_ge j m with h' |h'
      ·have:=hall j h'
       have hjy:l[j]'(by omega)=y:=by rw [List.getElem?_eq_getElem (by omega)] at h3;injection h3
       rw [hjy] at this
       simp [h5] at this
      ·
       have hidx:idxFrom (fun y=>f y==f x) 0 l≤(m:Int):=by
        have: ∀(l:List _) (s m:Nat) (hm:m <l.length),(fun y=>f y==f x) (l[m])=true→idxFrom (fun y=>f y==f x) s l≤((s+m:Nat):Int):=by
         intro l
         induction l with
         |nil=>intro s m hm;simp at hm
         |cons a r ih=>
          intro s m hm hp
          unfold idxFrom
          split
          ·omega
          ·rename_i hna
           cases m with
           |zero=>exact absurd hp hna
           |succ m=>
            have:=ih (s+1) m (by simpa using hm) (by simpa using hp)
            omega
        have:=this l 0 m hm (by rw [hy];exact h5)
        simpa using this
       have:(j:Int)≤m:=by rw [←h1];exact hidx
       omega
   omega
theorem nodup_take_next {l:List Int} {k:Nat} {x:Int} (hx:l[k]? =some x) (h:(l.take k).Nodup) (hn:x ∉ l.take k):(l.take (k+1)).Nodup:=by
 rw [take_next hx,List.nodup_append]
 refine ⟨h,by simp,fun a ha b hb=> ?_⟩
 simp at hb
 subst hb
 rintro rfl
 exact hn ha
theorem not_nodup_of {l:List Int} {k:Nat} {x:Int} (hx:l[k]? =some x) (hm:x ∈ l.take k): ¬l.Nodup:=by
 intro h
 rw [←List.take_append_drop k l,drop_cons hx,List.nodup_append] at h
 exact h.2.2 x hm x (by simp) rfl
end Go.Proofs.YtdmgpdanlfmadaaGreat
namespace Go.Proofs.YtdmgpdanlfmadaaGreat
open Go.RowKit
attribute [local go_sem] ext_cell
theorem Rd.take {w:World} {B n:Nat} {A:Option Addr} {l:List Int} (h:Rd w B 1 A n (l.map (Value.int .u16))) {k:Nat} (hk:k≤n):Rd w B 1 A k ((l.take k).map (Value.int .u16)):=by
 have h1:=h.1
 simp only [List.length_map,Nat.mul_one] at h1
 refine ⟨by simp;omega,fun hp=> ?_⟩
 obtain ⟨b,o,e,hb,hc⟩:=h.2 (by omega)
 refine ⟨b,o,e,hb,fun j u hu=>hc j u ?_⟩
 rw [List.getElem?_map,List.getElem?_take] at hu
 split at hu
 ·rw [List.getElem?_map];exact hu
 ·cases hu
theorem rDest_19 {c:Cfg} {i k:Nat} {x:Chn} {d:Int} (h:portOf c d=none):rDest c i x k d=19:=by simp [rDest,h]
theorem rDest_25 {c:Cfg} {i k:Nat} {x:Chn} {d:Int} {p:Prt} (h:portOf c d=some p) (ho:p.output=true):rDest c i x k d=25:=by simp [rDest,h,ho]
theorem rDest_26 {c:Cfg} {i k:Nat} {x:Chn} {d:Int} {p s:Prt} (h:portOf c d=some p) (ho:p.output=false) (hs:thePort c x.source=s) (hk:sameKind s p=false):rDest c i x k d=26:=by simp [rDest,h,ho,hs,hk]
theorem rDest_27a {c:Cfg} {i k:Nat} {x:Chn} {d:Int} {p s:Prt} (h:portOf c d=some p) (ho:p.output=false) (hs:thePort c x.source=s) (hk:sameKind s p=true) (hu:usesL (c.chans.take i) p.id=true):rDest c i x k d=27:=by simp [rDest,h,ho,hs,hk,hu]
theorem rDest_27b {c:Cfg} {i k:Nat} {x:Chn} {d:Int} {p s:Prt} (h:portOf c d=some p) (ho:p.output=false) (hs:thePort c x.source=s) (hk:sameKind s p=true) (hu:hasI (x.dests.take k) p.id=true):rDest c i x k d=27:=by
 have hu':(x.dests.take k).contains p.id=true:=hu
 simp only [rDest,h,ho,hs,hk,hu',Bool.or_true,if_true];rfl
theorem rDest_0 {c:Cfg} {i k:Nat} {x:Chn} {d:Int} {p s:Prt} (h:portOf c d=some p) (ho:p.output=false) (hs:thePort c x.source=s) (hk:sameKind s p=true) (hu:usesL (c.chans.take i) p.id=false) (hu2:hasI (x.dests.take k) p.id=false):rDest c i x k d=0:=by
 have hu':(x.dests.take k).contains p.id=false:=hu2
 simp only [rDest,h,ho,hs,hk,hu,hu',Bool.or_false,if_true];rfl
theorem sameKind_q {s p:Prt} (h:p.queuing≠s.queuing):sameKind s p=false:=by simp [sameKind,h]
theorem sameKind_s {s p:Prt} (h:p.size≠s.size):sameKind s p=false:=by simp [sameKind,h]
theorem sameKind_y {s p:Prt} (h1:p.queuing=s.queuing) (h:p.size=s.size):sameKind s p=true:=by simp [sameKind,h,h1]
theorem rChan_19 {c:Cfg} {i:Nat} {x:Chn} (h:portOf c x.source=none):rChan c i x=19:=by simp [rChan,h]
theorem rChan_25 {c:Cfg} {i:Nat} {x:Chn} {s:Prt} (h:portOf c x.source=some s) (ho:s.output=false):rChan c i x=25:=by simp [rChan,h,ho]
theorem rChan_27 {c:Cfg} {i:Nat} {x:Chn} {s:Prt} (h:portOf c x.source=some s) (ho:s.output=true) (hu:usesL (c.chans.take i) x.source=true):rChan c i x=27:=by simp [rChan,h,ho,hu]
theorem rChan_28 {c:Cfg} {i:Nat} {x:Chn} {s:Prt} (h:portOf c x.source=some s) (ho:s.output=true) (hu:usesL (c.chans.take i) x.source=false) (hd:x.dests= []):rChan c i x=28:=by simp [rChan,h,ho,hu,hd]
theorem rChan_d {c:Cfg} {i:Nat} {x:Chn} {s:Prt} (h:portOf c x.source=some s) (ho:s.output=true) (hu:usesL (c.chans.take i) x.source=false) (hd:x.dests≠ []):rChan c i x=rDests c i x 0 x.dests:=by simp [rChan,h,ho,hu,hd]
theorem rDests_hit {c:Cfg} {i k:Nat} {x:Chn} {d:Int} {v:Int} (h:v=rDests c i x k (x.dests.drop k)) (hx:x.dests[k]? =some d) (hp:rDest c i x k d≠0):v=rDest c i x k d:=by
 rw [h,drop_cons hx,rDests,if_neg hp]
theorem rDests_miss {c:Cfg} {i k:Nat} {x:Chn} {d:Int} {v:Int} (h:v=rDests c i x k (x.dests.drop k)) (hx:x.dests[k]? =some d) (hp:rDest c i x k d=0):v=rDests c i x (k+1) (x.dests.drop (k+1)):=by
 rw [h,drop_cons hx,rDests,if_pos hp]
theorem rDests_end {c:Cfg} {i:Nat} {x:Chn} {v:Int} (h:v=rDests c i x x.dests.length (x.dests.drop x.dests.length)):v=0:=by
 rw [h,List.drop_length,rDests]
theorem rChans_hit {c:Cfg} {i:Nat} {x:Chn} {v:Int × Int} (h:v=rChans c i (c.chans.drop i)) (hx:c.chans[i]? =some x) (hp:rChan c i x≠0):v=(rChan c i x,(i:Int)):=by
 rw [h,drop_cons hx,rChans,if_neg hp]
theorem rChans_miss {c:Cfg} {i:Nat} {x:Chn} {v:Int × Int} (h:v=rChans c i (c.chans.drop i)) (hx:c.chans[i]? =some x) (hp:rChan c i x=0):v=rChans c (i+1) (c.chans.drop (i+1)):=by
 rw [h,drop_cons hx,rChans,if_pos hp]
theorem rChans_end {c:Cfg} {v:Int × Int} (h:v=rChans c c.chans.length (c.chans.drop c.chans.length)):v=(0,0):=by
 rw [h,List.drop_length,rChans]
def rightB (c:Cfg):Bool:=uniqueB c&&decide ((portBad c).1=0)&&decide ((rChanBad c).1=0)
end Go.Proofs.YtdmgpdanlfmadaaGreat
namespace Go.Proofs.YtdmgpdanlfmadaaGreat
open Go.RowKit
theorem firstFrom_nonneg {α:Type} [DecidableEq α]: ∀(l:List α) (es:List (α × Int)) (i:Nat) (f:Int),0≤f→firstFrom es i f l=f
 | [],_,_,_,_=>rfl
 |x::r,es,i,f,h=>by
  unfold firstFrom
  split
  ·exact firstFrom_nonneg r _ _ _ h
  ·rw [if_neg (by omega)];exact firstFrom_nonneg r _ _ _ h
theorem firstFrom_rep {α:Type} [DecidableEq α]: ∀(l seen:List α) (es:List (α × Int)) (i:Nat),(∀x,getv es x=none↔x ∉ seen)→firstFrom es i (-1) l=repFrom seen i l
 | [],_,_,_,_=>rfl
 |x::r,seen,es,i,h=>by
  unfold firstFrom repFrom
  by_cases hm:x ∈ seen
  ·have hg: ¬getv es x=none:=fun e=>(h x).1 e hm
   rw [if_neg (by simpa using hg),if_pos hm,if_pos (by decide)]
   exact firstFrom_nonneg r _ _ _ (by omega)
  ·have hg:=(h x).2 hm
   rw [if_pos (by simp [hg]),if_neg hm]
   refine firstFrom_rep r _ _ _ fun y=> ?_
   rw [getv_append]
   by_cases hxy:x=y
   ·subst hxy;simp
   ·have:=h y
    simp only [hxy,if_false,Option.or_none,List.mem_append,List.mem_singleton,not_or]
    rw [this]
    constructor
    ·intro h1;exact ⟨h1,fun e=>hxy e.symm⟩
    ·exact fun h1=>h1.1
theorem first_rep {α:Type} [DecidableEq α] (l:List α):firstFrom ([]:List (α × Int)) 0 (-1) l=rep l:=firstFrom_rep l [] [] 0 (fun x=>by simp [getv])
theorem two_new (w:World) (a b:Int) (t:TypeId):Rd (w.alloc (.cells #[.int .i64 a, .int .i64 b] t)) (w.alloc (.cells #[.int .i64 a, .int .i64 b] t)).heap.size 1 (some ⟨w.heap.size,0,none⟩) 2 ([a,b].map (Value.int .i64)):=by
 refine ⟨rfl,fun _=>⟨_,_,rfl,by simp,fun j u hu=> ?_⟩⟩
 have:=World.news_of_block (heap_alloc_new w (.cells #[.int .i64 a, .int .i64 b] t)) j u (by simpa using hu)
 rwa [addr_add] at this
theorem one_new (w:World) (a:Int) (t:TypeId):Rd (w.alloc (.cells #[.int .i64 a] t)) (w.alloc (.cells #[.int .i64 a] t)).heap.size 1 (some ⟨w.heap.size,0,none⟩) 1 ([a].map (Value.int .i64)):=by
 refine ⟨rfl,fun _=>⟨_,_,rfl,by simp,fun j u hu=> ?_⟩⟩
 have:=World.news_of_block (heap_alloc_new w (.cells #[.int .i64 a] t)) j u (by simpa using hu)
 rwa [addr_add] at this
theorem MapIs.drew {α β:Type} {w:World} {P:Program} {K:TypeId} {key:α→Value} {val:β→Value} {b:Nat} {es:List (α × β)} (h:MapIs w P K key val b es):MapIs w.drew P K key val b es:=h
structure FltSt (w W:World) (c:Cfg) (A1 A2 A3 A4 A5:Option Addr) (c1 c2 c3 c4 c5:Nat):Prop where
 hz:w.heap.size+1 <W.heap.size
 bel:Below w.heap.size w W
 x0:W.cell? ⟨w.heap.size,0,none⟩=some (.int .u64 c.frame)
 x1:W.cell? ⟨w.heap.size,1,none⟩=some (.slice A1 c.parts.length c1)
 x2:W.cell? ⟨w.heap.size,2,none⟩=some (.slice A2 c.wins.length c2)
 x3:W.cell? ⟨w.heap.size,3,none⟩=some (.slice A3 c.regs.length c3)
 x4:W.cell? ⟨w.heap.size,4,none⟩=some (.slice A4 c.ports.length c4)
 x5:W.cell? ⟨w.heap.size,5,none⟩=some (.slice A5 c.chans.length c5)
 r0:W.cell? ⟨w.heap.size+1,0,none⟩=some (.int .i64 0)
 r1:W.cell? ⟨w.heap.size+1,1,none⟩=some (.int .i64 0)
 r2:W.cell? ⟨w.heap.size+1,2,none⟩=some (.int .i64 0)
 f0:W.frozen? ⟨w.heap.size+1,0,none⟩=false
 f1:W.frozen? ⟨w.heap.size+1,1,none⟩=false
 f2:W.frozen? ⟨w.heap.size+1,2,none⟩=false
section
variable {w W V:World} {c:Cfg} {A1 A2 A3 A4 A5:Option Addr} {c1 c2 c3 c4 c5:Nat}
theorem FltSt.later (h:FltSt w W c A1 A2 A3 A4 A5 c1 c2 c3 c4 c5) (hb:Below W.heap.size W V):FltSt w V c A1 A2 A3 A4 A5 c1 c2 c3 c4 c5:=by
 have hz:=h.hz
 have hs:=hb.size
 have hc: ∀b o,b <W.heap.size→V.cell? ⟨b,o,none⟩=W.cell? ⟨b,o,none⟩:=fun b o hlt=>hb.cell (p:=⟨b,o,none⟩) hlt
 have hf: ∀b o,b <W.heap.size→V.frozen? ⟨b,o,none⟩=W.frozen? ⟨b,o,none⟩:=fun b o hlt=>hb.frozen (p:=⟨b,o,none⟩) hlt
 exact ⟨by omega,h.bel.trans (hb.mono h.bel.size),(hc _ _ (by omega)).trans h.x0,(hc _ _ (by omega)).trans h.x1,(hc _ _ (by omega)).trans h.x2,(hc _ _ (by omega)).trans h.x3,(hc _ _ (by omega)).trans h.x4,(hc _ _ (by omega)).trans h.x5,
  (hc _ _ (by omega)).trans h.r0,(hc _ _ (by omega)).trans h.r1,(hc _ _ (by omega)).trans h.r2,(hf _ _ (by omega)).trans h.f0,(hf _ _ (by omega)).trans h.f1,(hf _ _ (by omega)).trans h.f2⟩
end
theorem flt_start (w:World) (c:Cfg) (A1 A2 A3 A4 A5:Option Addr) (c1 c2 c3 c4 c5:Nat) (t1 t2:TypeId):
  FltSt w ((w.alloc (.cells #[.int .u64 c.frame, .slice A1 c.parts.length c1, .slice A2 c.wins.length c2, .slice A3 c.regs.length c3, .slice A4 c.ports.length c4, .slice A5 c.chans.length c5] t1)).alloc (.cells #[.int .i64 0, .int .i64 0, .int .i64 0] t2)) c A1 A2 A3 A4 A5 c1 c2 c3 c4 c5:=by
 refine ⟨by simp,((Below.refl _ _).alloc (Nat.le_refl _) _).alloc (by simp) _, ?_, ?_, ?_, ?_, ?_, ?_, ?_, ?_, ?_, ?_, ?_, ?_⟩
 all_goals simp [go_sem]
end Go.Proofs.YtdmgpdanlfmadaaGreat
namespace Go.Proofs.YtdmgpdanlfmadaaGreat
open Go.RowKit
attribute [local go_sem] ext_cell
theorem places_nodup {α:Type} [DecidableEq α]: ∀(l:List α) (es:List (α × Int)) (i:Nat),(es.map (·.1)).Nodup→((places es i l).map (·.1)).Nodup
 | [],_,_,h=>h
 |x::r,es,i,h=>by
  unfold places
  by_cases hg:getv es x=none
  ·rw [if_pos (by simp [hg])];exact places_nodup r _ _ (nodup_put h hg)
  ·rw [if_neg (by simpa using hg)];exact places_nodup r _ _ h
theorem getv_places {α:Type} [DecidableEq α] (p:α→Bool) (x:α) (hp: ∀y,p y=true↔y=x): ∀(l:List α) (es:List (α × Int)) (i:Nat),(getv (places es i l) x).getD (-1)=(getv es x).getD (idxFrom p i l)
 | [],es,i=>by simp [places,idxFrom]
 |y::r,es,i=>by
  unfold places idxFrom
  rw [getv_places p x hp r _ (i+1)]
  by_cases hy:y=x
  ·have hpy:=(hp y).2 hy
   rw [if_pos hpy]
   by_cases hg:getv es y=none
   ·rw [if_pos (by simp [hg]),getv_append, ←hy,hg];simp
   ·rw [if_neg (by simpa using hg)]
    rw [hy] at hg
    cases h2:getv es x with
    |none=>exact absurd h2 hg
    |some v=>simp
  ·have hpy: ¬p y=true:=fun e=>hy ((hp y).1 e)
   rw [if_neg hpy]
   split
   ·rw [getv_append];simp [hy]
   ·rfl
theorem getv_idx {α β:Type} [DecidableEq β] (f:α→β) (q:α→Bool) (x:β) (hq: ∀y,q y=true↔f y=x) (l:List α):(getv (places [] 0 (l.map f)) x).getD (-1)=idx q l:=by
 rw [getv_places (fun y=>decide (y=x)) x (by simp)]
 simp only [getv,Option.getD_none]
 have: ∀(l:List α) (i:Nat),idxFrom (fun y=>decide (y=x)) i (l.map f)=idxFrom q i l:=by
  intro l
  induction l with
  |nil=>intro i;rfl
  |cons y r ih=>
   intro i
   rw [List.map_cons,idxFrom,idxFrom,ih]
   by_cases h:f y=x
   ·rw [if_pos (by simpa using h),if_pos ((hq y).2 h)]
   ·rw [if_neg (by simpa using h),if_neg fun e=>h ((hq y).1 e)]
 exact this l 0
set_option maxRecDepth 100000 in
set_option maxHeartbeats 1000000 in
theorem iPartition_ok (c:Cfg) (g:Nat) (id:Int) (w:World) (h:IdxAt w w.heap.size g c) (hid:wU16 id):
  Calls Tryz.prog 88 #[.pointer (some ⟨g,0,none⟩), .int .u16 id] w fun e w'=>e= .returned (.int .i64 (idx (fun x=>x.id==id) c.parts))∧Below w.heap.size w w':=by
 obtain ⟨hg,b1,b2,b3,b4,l1,l2,l3,l4,k1,k2,k3,k4,m1,m2,m3,m4⟩:=h
 have HF:=Lib.hid (findU_ok b1 _ id w m1 (places_nodup _ _ _ (by simp)) hid)
 have HI:=Lib.hid (getv_idx (·.id) (fun x=>x.id==id) id (by simp) c.parts)
 clear m1 m2 m3 m4
 go_enter Tryz.func88,Tryz.ntmps88
 go_wp2_with (go_at_call 140;refine HF.out.mono ?_;rintro e w1 ⟨rfl,hb1⟩)
 go_ret
 exact ⟨ret_int HI.out,hb1⟩
theorem iPartition_nil (id:Int) (w:World):
  Calls Tryz.prog 88 #[.pointer none, .int .u16 id] w fun e w'=>e= .returned (.int .i64 (-1))∧Below w.heap.size w w':=by
 go_enter Tryz.func88,Tryz.ntmps88
 go_wp2
 go_ret
 exact ⟨rfl,Below.refl _ _⟩
theorem MapIs.len {α β:Type} {w:World} {P:Program} {T K E:TypeId} {key:α→Value} {val:β→Value} {b:Nat} {es:List (α × β)} (h:MapIs w P K key val b es) (hT:P.underlying T=some (.map K E)) (ty:TypeId):(Builtin.len_ #[T] ty #[.map (some b)]).run P w= .ok (goInt es.length) w:=by
 obtain ⟨en,clock,hh,hes,_⟩:=h
 have e:en.size=es.length:=by
  have:=congrArg List.length hes
  simpa using this
 simp [Builtin.len_,run_underlying hT,MapKept.run_getObj_map hh,Result.andThen,e]
theorem named_key {id:Int} {s:ByteArray} (y:Prt):(y.part==id&&y.name==s)=true↔y.key=(id,s):=by
 unfold Prt.key
 simp only [Bool.and_eq_true,beq_iff_eq,Prod.mk.injEq]
 constructor
 ·rintro ⟨h1,h2⟩;exact ⟨h1,beqb_true h2⟩
 ·rintro ⟨h1,h2⟩;exact ⟨h1,by rw [h2,beq_toListBytes];simp⟩
end Go.Proofs.YtdmgpdanlfmadaaGreat
namespace Go.Proofs.YtdmgpdanlfmadaaGreat
open Go.RowKit
open Go.Maps (Keyed)
attribute [local go_sem] ext_cell
@[reducible] def vB (b:Bool):Value:= .bool b
theorem zeroBool (w:World):(zeroValue 4).run Tryz.prog w= .ok (.bool false) w:=by kernel_rfl
def usedL (u:List Int):List (Int × Bool):=u.map fun x=>(x,true)
theorem usedL_keys (u:List Int):(usedL u).map (·.1)=u:=by simp [usedL,Function.comp_def]
theorem usedL_get {u:List Int} {x:Int}:getv (usedL u) x=if x ∈ u then some true else none:=by
 induction u with
 |nil=>simp [usedL,getv]
 |cons y r ih=>
  simp only [usedL,List.map_cons,getv] at ih ⊢
  by_cases h:y=x
  ·simp [h]
  ·rw [if_neg h,ih];simp [Ne.symm h]
structure ChkAt (w:World) (B g b:Nat) (c:Cfg) (A4:Option Addr) (c4:Nat):Prop where
 lt:g <B
 bl:b <B
 p4:w.cell? ⟨g,4,none⟩=some (.slice A4 c.ports.length c4)
 ix: ∃L M gi,w.cell? ⟨g,6,none⟩=some (.pointer (some ⟨gi,0,none⟩))∧IdxIn w L M gi c∧M≤B∧(b <L∨M≤b)
 mp:w.cell? ⟨g,7,none⟩=some (.map (some b))
 rd:Rd w B 6 A4 c.ports.length (c.ports.flatMap Prt.cells)
section
variable {w w':World} {B B' g b:Nat} {c:Cfg} {A4:Option Addr} {c4:Nat}
theorem ChkAt.below (h:ChkAt w B g b c A4 c4) (hb:Below B w w'):ChkAt w' B g b c A4 c4:=by
 obtain ⟨l1,l2,h4,⟨L,M,gi,h6,hi,hM,ho⟩,h7,hr⟩:=h
 exact ⟨l1,l2,(hb.cell (p:=⟨g,4,none⟩) l1).trans h4,⟨L,M,gi,(hb.cell (p:=⟨g,6,none⟩) l1).trans h6,hi.below (hb.mono hM),hM,ho⟩,(hb.cell (p:=⟨g,7,none⟩) l1).trans h7,hr.below hb⟩
theorem ChkAt.more (h:ChkAt w B g b c A4 c4) (hB:B≤B'):ChkAt w B' g b c A4 c4:=by
 obtain ⟨l1,l2,h4,⟨L,M,gi,h6,hi,hM,ho⟩,h7,hr⟩:=h
 exact ⟨by omega,by omega,h4,⟨L,M,gi,h6,hi,by omega,ho⟩,h7,hr.more hB⟩
theorem ChkAt.up (h:ChkAt w w.heap.size g b c A4 c4) (hb:Below w.heap.size w w'):ChkAt w' w'.heap.size g b c A4 c4:=(h.below hb).more hb.size
theorem ChkAt.idx (h:ChkAt w B g b c A4 c4) (hB:B≤w.heap.size): ∃gi,w.cell? ⟨g,6,none⟩=some (.pointer (some ⟨gi,0,none⟩))∧IdxAt w w.heap.size gi c:=by
 obtain ⟨_,_,_,⟨L,M,gi,h6,hi,hM,ho⟩,_,_⟩:=h
 exact ⟨gi,h6,hi.at_.more (by omega)⟩
theorem ChkAt.grown (h:ChkAt w w.heap.size g b c A4 c4) (hg:w.grownBy w' (some b)) (hne: ∀x o v,w.cell? ⟨x,o,none⟩=some v→x≠b):ChkAt w' w'.heap.size g b c A4 c4:=by
 obtain ⟨l1,l2,h4,⟨L,M,gi,h6,hi,hM,ho⟩,h7,hr⟩:=h
 have hs:=hg.size
 exact ⟨by omega,by omega,(grown_cell hg l1 (hne _ _ _ h4)).trans h4,⟨L,M,gi,(grown_cell hg l1 (hne _ _ _ h6)).trans h6,hi.grown hg hM ho,by omega,ho⟩,(grown_cell hg l1 (hne _ _ _ h7)).trans h7,(hr.grown hg (Nat.le_refl _) hne).more hs⟩
end
theorem grown_of_below {w w':World} (h:Below w.heap.size w w') (row:Option Nat):w.grownBy w' row:=⟨h.os,h.tape,h.output,h.size,fun i hi _=>h.block i hi⟩
theorem iPartition_val (c:Cfg) (g:Nat) (id:Int) (w:World) (h:IdxAt w w.heap.size g c) (hid:wU16 id) (v:Int) (hv:Hid (idx (fun x=>x.id==id) c.parts=v)):
  Calls Tryz.prog 88 #[.pointer (some ⟨g,0,none⟩), .int .u16 id] w fun e w'=>e= .returned (.int .i64 v)∧Below w.heap.size w w':=by
 have h:=iPartition_ok c g id w h hid
 rwa [hv.out] at h
end Go.Proofs.YtdmgpdanlfmadaaGreat
