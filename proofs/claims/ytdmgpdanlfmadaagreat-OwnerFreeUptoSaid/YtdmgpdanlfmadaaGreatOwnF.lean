/-
  A region at free addresses keeps the regions right: plain. It speaks of no program.
-/
import Derived.Test.YtdmgpdanlfmadaaGreatOwnA
import Derived.Test.YtdmgpdanlfmadaaGreatMemP
namespace Go.Proofs.YtdmgpdanlfmadaaGreat
open Go.RowKit
theorem meet_none {x r:Reg} (hx:okSp x.base x.size) (hr:okSp r.base r.size) (h: ∀a,r.base≤a→a≤r.base+r.size -1→covR x a=false):meetS (spnOf x) (spnOf r)=false:=by
 rcases hm:meetS (spnOf x) (spnOf r) with _ |_
 ·rfl
 ·have h1:=(meetS_iffR (a:=spnOf x) (b:=spnOf r) hx hr).1 hm
  have hx2:=hx.2.1
  have hr2:=hr.2.1
  unfold spnOf at h1
  simp only at h1
  have h2:=h (max x.base r.base) (by omega) (by omega)
  have h3:covR x (max x.base r.base)=true:=covR_iff.2 ⟨by omega,by unfold lastR;omega⟩
  rw [h3] at h2
  cases h2
theorem right_more {c:Cfg} (hok:c.ok) (h:rightM c=true) {p:Par} (hp:c.parts[0]? =some p) {r:Reg} (hr:okSp r.base r.size) (hrp:r.part=p.id) (hf: ∀a,r.base≤a→a≤r.base+r.size -1→ ∀x ∈ c.regs,covR x a=false):
  rightM (c.regsAs (c.regs++ [r]))=true:=by
 have hsp:=rightM_sp hok h
 rw [rightM_iff] at h ⊢
 have hcode: ∀x,regCode (c.regsAs (c.regs++ [r])) x=regCode c x:=fun _=>rfl
 refine ⟨fun x hx=> ?_, ?_⟩
 ·rw [hcode]
  have hx:x ∈ c.regs++ [r]:=hx
  rcases List.mem_append.1 hx with hx |hx
  ·exact h.1 x hx
  ·rw [List.mem_singleton] at hx
   subst hx
   have hv:validB x.base x.size=true:=decide_eq_true ⟨hr.2.1,hr.2.2⟩
   unfold regCode
   rw [hv,if_pos rfl]
   have: ¬idx (fun y=>y.id==x.part) c.parts <0:=by
    rcases hps:c.parts with _ |⟨q,t⟩
    ·rw [hps] at hp;cases hp
    ·rw [hps] at hp
     simp at hp
     subst hp
     unfold idx idxFrom
     rw [if_pos (by rw [hrp];exact beq_self_eq_true _)]
     omega
   rw [if_neg this]
 ·show (c.regs++ [r]).Pairwise fun x y=>overR x y=false
  rw [List.pairwise_append]
  refine ⟨h.2,by simp,fun x hx y hy=> ?_⟩
  rw [List.mem_singleton] at hy
  subst hy
  unfold overR
  rw [meet_none (hsp x hx) hr (fun a h1 h2=>hf a h1 h2 x hx)]
  rfl
end Go.Proofs.YtdmgpdanlfmadaaGreat
