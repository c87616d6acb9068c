/-
  What it means that the regions are right: each is, and no two of them overlap unless they may. It speaks of no program.
-/
import Derived.Test.YtdmgpdanlfmadaaGreatMemA
namespace Go.Proofs.YtdmgpdanlfmadaaGreat
open Go.RowKit
def rightM (c:Cfg):Bool:=decide ((memBad c).1=0)
def NoOver (l:List Reg):Prop:=l.Pairwise fun x y=>overR x y=false
theorem clashBad_zero {l:List Reg}:(clashBad l).1=0↔NoOver l:=by
 unfold clashBad
 rw [bad_zero,NoOver,List.pairwise_iff_getElem]
 constructor
 ·intro h i j hi hj hij
  have h1:=h (clashAt l j) (List.mem_map.2 ⟨j,List.mem_range.2 hj,rfl⟩)
  rcases hv:overR l[i] l[j] with _ |_
  ·rfl
  ·have:=over_hit (List.getElem?_eq_getElem hj) (List.getElem?_eq_getElem hi) hij hv
   omega
 ·intro h e he
  obtain ⟨j,hj,rfl⟩:=List.mem_map.1 he
  have hj:=List.mem_range.1 hj
  rcases Decidable.em (clashAt l j=0) with h1 |h1
  ·exact h1
  ·obtain ⟨i,x,y,hij,hx,hy,ho⟩:=clash_over h1
   have hi:=(List.getElem?_eq_some_iff.1 hx).1
   have:=h i j hi hj hij
   rw [(List.getElem?_eq_some_iff.1 hx).2,(List.getElem?_eq_some_iff.1 hy).2,ho] at this
   cases this
theorem rightM_iff {c:Cfg}:rightM c=true↔((∀r ∈ c.regs,regCode c r=0)∧NoOver c.regs):=by
 unfold rightM memBad
 rw [decide_eq_true_eq]
 have hr:(regBad c).1=0↔ ∀r ∈ c.regs,regCode c r=0:=by
  unfold regBad
  rw [bad_zero]
  constructor
  ·intro h r hr;exact h _ (List.mem_map.2 ⟨r,hr,rfl⟩)
  ·intro h e he;obtain ⟨r,hr,rfl⟩:=List.mem_map.1 he;exact h r hr
 by_cases h:(regBad c).1=0
 ·rw [if_pos h,clashBad_zero]
  exact ⟨fun h2=>⟨hr.1 h,h2⟩,fun h2=>h2.2⟩
 ·rw [if_neg h]
  exact ⟨fun h2=>absurd h2 h,fun h2=>absurd (hr.2 h2.1) h⟩
theorem rightM_sp {c:Cfg} (hok:c.ok) (h:rightM c=true): ∀x ∈ c.regs,okSp x.base x.size:=by
 refine regBad_ok hok ?_
 unfold rightM memBad at h
 rw [decide_eq_true_eq] at h
 by_cases h1:(regBad c).1=0
 ·exact h1
 ·rw [if_neg h1] at h;exact absurd h h1
theorem memFlt_right {c:Cfg}:(memFlt c=noFlt)↔rightM c=true:=by
 unfold memFlt rightM
 rw [decide_eq_true_eq]
 constructor
 ·intro h
  by_cases h1:(memBad c).1=0
  ·exact h1
  ·rw [if_neg h1] at h
   exact congrArg Flt.code h
 ·intro h;rw [if_pos h]
theorem meetS_comm (a b:Spn):meetS a b=meetS b a:=by unfold meetS;rw [Bool.or_comm]
theorem regNe_comm (x y:Reg):regNe x y=regNe y x:=by
 unfold regNe
 rw [BEq.comm (a:=x.base),BEq.comm (a:=x.size),BEq.comm (a:=x.part),BEq.comm (a:=x.rights),BEq.comm (a:=x.shared)]
theorem regAl_comm (x y:Reg):regAl x y=regAl y x:=by unfold regAl;rw [regNe_comm,Bool.and_comm x.shared]
theorem overR_comm (x y:Reg):overR x y=overR y x:=by unfold overR;rw [meetS_comm,regAl_comm]
theorem NoOver.rev {l:List Reg}:NoOver l.reverse↔NoOver l:=by
 unfold NoOver
 rw [List.pairwise_reverse]
 constructor
 ·intro h;exact h.imp fun {a b} h=>by rw [overR_comm];exact h
 ·intro h;exact h.imp fun {a b} h=>by rw [overR_comm];exact h
end Go.Proofs.YtdmgpdanlfmadaaGreat
