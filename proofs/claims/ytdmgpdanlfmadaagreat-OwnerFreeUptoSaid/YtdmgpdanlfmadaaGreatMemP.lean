/-
  What it means that the regions are right, as plain laws: no two of them overlap unless they may. It speaks of no program.
-/
import Derived.Test.YtdmgpdanlfmadaaGreatMemQ
import Derived.Test.YtdmgpdanlfmadaaGreatCutP
namespace Go.Proofs.YtdmgpdanlfmadaaGreat
open Go.RowKit
def Cfg.regsAs (c:Cfg) (l:List Reg):Cfg:= {c with regs:=l}
theorem rightM_rev {c:Cfg}:rightM (c.regsAs c.regs.reverse)=rightM c:=by
 rw [Bool.eq_iff_iff,rightM_iff,rightM_iff]
 unfold Cfg.regsAs
 simp only [List.mem_reverse,NoOver.rev]
 exact Iff.rfl
theorem ofL_rev {c:Cfg} (p m:Int):ofL (c.regsAs c.regs.reverse) p m=(ofL c p m).reverse:=by
 unfold ofL Cfg.regsAs
 rw [List.filter_reverse]
theorem Cov.of_mem {l l':List Reg} {b s:Int} (h:Cov l b s) (hm: ∀r ∈ l,r ∈ l'):Cov l' b s:=fun a h1 h2=>by
 obtain ⟨r,hr,ho⟩:=h a h1 h2
 exact ⟨r,hm r hr,ho⟩
theorem covB_rev (l:List Reg) (b s:Int):covB l.reverse b s=covB l b s:=by
 by_cases h:Cov l b s
 ·rw [covB_yes h,covB_yes (h.of_mem (by simp))]
 ·rw [covB_no h,covB_no (fun h2=>h (h2.of_mem (by simp)))]
theorem covB_iff {l:List Reg} {b s:Int}:covB l b s=true↔Cov l b s:=by
 constructor
 ·intro h
  rcases Classical.em (Cov l b s) with h1 |h1
  ·exact h1
  ·rw [covB_no h1] at h;cases h
 ·exact covB_yes
theorem owners_shared {c:Cfg} (hok:c.ok) (h:rightM c=true) {a:Int} {k:Nat} {r:Reg} (hl:1 <(ownL c a).length) (hk:((k:Nat):Int) ∈ ownL c a) (hr:c.regs[k]? =some r):r.shared=true:=by
 have hsp:=rightM_sp hok h
 have hno:=(rightM_iff.1 h).2
 have hnd:(ownL c a).Nodup:=by
  unfold ownL ownTo
  unfold List.Nodup
  rw [List.pairwise_map]
  exact (List.Pairwise.filter _ (List.nodup_range (n:=c.regs.length))).imp fun hne e=>hne (by omega)
 have hex: ∃x ∈ ownL c a,x≠(k:Int):=by
  rcases hL:ownL c a with _ |⟨u,_ |⟨v,t⟩⟩
  ·rw [hL] at hl;simp at hl
  ·rw [hL] at hl;simp at hl
  ·rw [hL] at hnd
   by_cases hu:u=(k:Int)
   ·refine ⟨v,by simp,fun e=> ?_⟩
    have:=(List.pairwise_cons.1 hnd).1 v (by simp)
    exact this (by rw [hu,e])
   ·exact ⟨u,by simp,hu⟩
 obtain ⟨x,hx,hxk⟩:=hex
 obtain ⟨j,y,rfl,hy,hoy⟩:=ownL_mem.1 hx
 obtain ⟨k',r',e,hr',hor⟩:=ownL_mem.1 hk
 have e:k=k':=by omega
 subst e
 rw [hr] at hr';injection hr' with hr';subst hr'
 have hjk:j≠k:=fun e=>hxk (by rw [e])
 have hm:meetS (spnOf r) (spnOf y)=true:=by
  rw [meetS_last (a:=spnOf r) (b:=spnOf y) (show okS (spnOf r) from hsp r (List.mem_of_getElem? hr)) (show okS (spnOf y) from hsp y (List.mem_of_getElem? hy))]
  have h1:=ownsB_iff.1 hoy
  have h2:=ownsB_iff.1 hor
  unfold spnOf lastS
  simp only
  omega
 have key: ∀ {i1 i2:Nat} {u v:Reg},i1 <i2→c.regs[i1]? =some u→c.regs[i2]? =some v→overR u v=false:=fun {i1 i2 u v} hlt h1 h2=>by
  unfold NoOver at hno
  rw [List.pairwise_iff_getElem] at hno
  have:=hno i1 i2 (List.getElem?_eq_some_iff.1 h1).1 (List.getElem?_eq_some_iff.1 h2).1 hlt
  rwa [(List.getElem?_eq_some_iff.1 h1).2,(List.getElem?_eq_some_iff.1 h2).2] at this
 have hov:overR r y=false:=by
  rcases Nat.lt_or_gt_of_ne hjk with hlt |hlt
  ·rw [overR_comm];exact key hlt hy hr
  ·exact key hlt hr hy
 unfold overR at hov
 rw [hm] at hov
 simp only [Bool.true_and,Bool.not_eq_false'] at hov
 unfold regAl at hov
 simp only [Bool.and_eq_true] at hov
 exact hov.1.1
theorem allow_split {l:List Reg} {b s m:Int} (_hb:0≤b) (hm:0 <m) (hms:m≤s) (hs:b+s <18446744073709551616):allowB b s (covB l b s)=(allowB b m (covB l b m)&&allowB (b+m) (s -m) (covB l (b+m) (s -m))):=by
 have v1:validB b s=true:=decide_eq_true ⟨by omega,by omega⟩
 have v2:validB b m=true:=decide_eq_true ⟨by omega,by omega⟩
 unfold allowB
 rw [if_neg (by omega),if_neg (by omega),v1,v2,Bool.true_and,Bool.true_and]
 have hj:Cov l b s↔(Cov l b m∧Cov l (b+m) (s -m)):=by
  constructor
  ·intro h;exact ⟨h.less hms,h.tail (by omega)⟩
  ·intro ⟨h1,h2⟩
   have:=h1.join h2
   rwa [show m+(s -m)=s from by omega] at this
 rw [Bool.eq_iff_iff,Bool.and_eq_true,covB_iff,covB_iff,hj]
 by_cases h0:s -m=0
 ·rw [if_pos h0]
  exact ⟨fun h=>⟨h.1,rfl⟩,fun h=>⟨h.1,Cov.empty (by omega)⟩⟩
 ·have v3:validB (b+m) (s -m)=true:=decide_eq_true ⟨by omega,by omega⟩
  rw [if_neg h0,v3,Bool.true_and,covB_iff]
def anyOwn (c:Cfg) (p m _a:Int) (l:List Int):Bool:=l.any fun i=>match c.regs[i.toNat]? with |some r=>keepR p m r |none=>false
theorem allow_one {c:Cfg} {p m a:Int} (ha:0≤a) (ha2:a <18446744073709551616):allowB a 1 (covB (ofL c p m) a 1)=anyOwn c p m a (ownL c a):=by
 unfold allowB
 rw [if_neg (by omega),show validB a 1=true from decide_eq_true ⟨by omega,by omega⟩,Bool.true_and,Bool.eq_iff_iff,covB_iff]
 unfold anyOwn
 rw [List.any_eq_true]
 constructor
 ·intro h
  obtain ⟨r,hr,ho⟩:=h a (Int.le_refl _) (by omega)
  obtain ⟨hr1,hr2⟩:=List.mem_filter.1 hr
  obtain ⟨k,hk⟩:=List.getElem?_of_mem hr1
  refine ⟨(k:Int),ownL_mem.2 ⟨k,r,rfl,hk,ho⟩, ?_⟩
  rw [Int.toNat_natCast,hk];exact hr2
 ·rintro ⟨i,hi,hv⟩
  obtain ⟨k,r,rfl,hk,ho⟩:=ownL_mem.1 hi
  rw [Int.toNat_natCast,hk] at hv
  intro x h1 h2
  obtain rfl:x=a:=by omega
  exact ⟨r,List.mem_filter.2 ⟨List.mem_of_getElem? hk,hv⟩,ho⟩
end Go.Proofs.YtdmgpdanlfmadaaGreat
