/-
  A row of regions of the call's own: one region written, the first ones alone, the rest cleared. It speaks of no program's text.
-/
import Derived.Lib.SliceRun
import Derived.Test.YtdmgpdanlfmadaaGreatCore
import Derived.Test.YtdmgpdanlfmadaaGreatSwpA
namespace Go.Proofs.YtdmgpdanlfmadaaGreat
open Go.RowKit Go.Shelf
theorem cells5 {l:List Reg} {k:Nat} (hk:k <l.length*5):(l.flatMap Reg.cells)[k]? =((l[k/5]?).map fun x=>(x.cells)[k%5]?).join:=by
 have hq:k/5 <l.length:=by omega
 have h:=flat_at Reg.cells 5 (fun _=>rfl) l (k/5) l[k/5] (k%5) (List.getElem?_eq_getElem hq) (Nat.mod_lt _ (by decide))
 rw [show k/5*5+k%5=k from by omega] at h
 rw [h,List.getElem?_eq_getElem hq]
 rfl
def setReg (W:World) (g i:Nat) (x:Reg):World:=((((W.setCell ⟨g,i*5,none⟩ (.int .u64 x.base)).setCell ⟨g,i*5+1,none⟩ (.int .u64 x.size)).setCell ⟨g,i*5+2,none⟩ (.int .u16 x.part)).setCell ⟨g,i*5+3,none⟩ (.int .u8 x.rights)).setCell ⟨g,i*5+4,none⟩ (.bool x.shared)
set_option maxRecDepth 100000 in
set_option maxHeartbeats 4000000 in
theorem own_reg {W:World} {base g n c i:Nat} {t:TypeId} {l:List Reg} (h:W.ownsRow base t 5 (.slice (some ⟨g,0,none⟩) n c) l.length (l.flatMap Reg.cells)) (hi:i <l.length) (x:Reg):
  (setReg W g i x).ownsRow base t 5 (.slice (some ⟨g,0,none⟩) n c) l.length ((l.set i x).flatMap Reg.cells):=by
 have hlen:((l.set i x).flatMap Reg.cells).length=l.length*5:=by rw [flat_len Reg.cells 5 (fun _=>rfl),List.length_set]
 rcases h.2 with ⟨e,_⟩ |⟨g',cap,cur,e,hb,hh,h1,h2,h3,h4⟩
 ·cases e
 ·injection e with e e2 e3
  injection e with e
  injection e with e _
  subst e
  have hbk:Blk W g t cur:=hh
  refine ⟨hlen, .inr ⟨g,cap,_,by rw [e2,e3],hb,((((hbk.set_ (i*5) (.int .u64 x.base)).set_ (i*5+1) (.int .u64 x.size)).set_ (i*5+2) (.int .u16 x.part)).set_ (i*5+3) (.int .u8 x.rights)).set_ (i*5+4) (.bool x.shared),h1,h2,by simpa using h3, ?_⟩⟩
  apply List.ext_getElem?
  intro k
  by_cases hk:k <l.length*5
  ·rw [List.getElem?_take_of_lt hk,Array.getElem?_toList,cells5 (by rw [List.length_set];exact hk)]
   have hold:cur[k]? =((l[k/5]?).map fun x=>(x.cells)[k%5]?).join:=by
    rw [←cells5 hk, ←h4,List.getElem?_take_of_lt hk,Array.getElem?_toList]
   have hsz:k <cur.size:=by
    rw [h3]
    have:=Nat.mul_le_mul_right 5 h1
    omega
   have hkd:k/5 <l.length:=by omega
   simp only [Array.getElem?_setIfInBounds]
   by_cases hki:k/5=i
   ·rw [hki,List.getElem?_set_self hi]
    have hm:k%5=0∨k%5=1∨k%5=2∨k%5=3∨k%5=4:=by omega
    rcases hm with hm |hm |hm |hm |hm
    ·rw [if_neg (by omega),if_neg (by omega),if_neg (by omega),if_neg (by omega),if_pos (by omega),if_pos (by first |omega |(simp;omega)),hm];rfl
    ·rw [if_neg (by omega),if_neg (by omega),if_neg (by omega),if_pos (by omega),if_pos (by first |omega |(simp;omega)),hm];rfl
    ·rw [if_neg (by omega),if_neg (by omega),if_pos (by omega),if_pos (by first |omega |(simp;omega)),hm];rfl
    ·rw [if_neg (by omega),if_pos (by omega),if_pos (by first |omega |(simp;omega)),hm];rfl
    ·rw [if_pos (by omega),if_pos (by first |omega |(simp;omega)),hm];rfl
   ·rw [if_neg (by omega),if_neg (by omega),if_neg (by omega),if_neg (by omega),if_neg (by omega),List.getElem?_set_ne (fun e=>hki e.symm)]
    exact hold
  ·rw [List.getElem?_eq_none (by rw [List.length_take];omega),List.getElem?_eq_none (by rw [hlen];omega)]
theorem below_setReg {B:Nat} {a W:World} {g i:Nat} {x:Reg} (h:Below B a W) (hg:B≤g):Below B a (setReg W g i x):=
 Below.setCell (Below.setCell (Below.setCell (Below.setCell (Below.setCell h hg _) hg _) hg _) hg _) hg _
theorem own_pre {W:World} {base g n c:Nat} {t:TypeId} {a b:List Reg} (h:W.ownsRow base t 5 (.slice (some ⟨g,0,none⟩) n c) (a++b).length ((a++b).flatMap Reg.cells)):W.ownsRow base t 5 (.slice (some ⟨g,0,none⟩) a.length c) a.length (a.flatMap Reg.cells):=by
 have hl:(a.flatMap Reg.cells).length=a.length*5:=flat_len Reg.cells 5 (fun _=>rfl) a
 rcases h.2 with ⟨e,_⟩ |⟨g',cap,cur,e,hb,hh,h1,h2,h3,h4⟩
 ·cases e
 ·injection e with e e2 e3
  injection e with e
  injection e with e _
  subst e
  rw [List.length_append] at h1 h4
  refine ⟨hl, .inr ⟨g,cap,cur,by rw [e3],hb,hh,by omega,h2,h3, ?_⟩⟩
  have e4:cur.toList.take (a.length*5)=(cur.toList.take ((a.length+b.length)*5)).take (a.length*5):=by rw [List.take_take,Nat.min_eq_left (by omega)]
  rw [e4,h4,List.flatMap_append,List.take_append_of_le_length (by omega),List.take_of_length_le (by omega)]
theorem blk_setCells {g:Nat} {t:TypeId}: ∀(vs:List Value) (o:Nat) (W:World) (cur:Array Value),Blk W g t cur→ ∃cur',Blk (W.setCells g o vs) g t cur'∧cur'.size=cur.size∧ ∀k,k <o→cur'[k]? =cur[k]?
 | [],o,W,cur,h=>⟨cur,h,rfl,fun _ _=>rfl⟩
 |v::r,o,W,cur,h=>by
  obtain ⟨cur',h1,h2,h3⟩:=blk_setCells r (o+1) (W.setCell ⟨g,o,none⟩ v) _ (h.set_ o v)
  refine ⟨cur',h1,by rw [h2];simp,fun k hk=> ?_⟩
  rw [h3 k (by omega),Array.getElem?_setIfInBounds,if_neg (by omega)]
theorem below_setCells {B:Nat} {a:World} {g:Nat} (hg:B≤g): ∀(vs:List Value) (o:Nat) (W:World),Below B a W→Below B a (W.setCells g o vs)
 | [],_,_,h=>h
 |v::r,o,_,h=>below_setCells hg r (o+1) _ (Below.setCell h hg v)
theorem own_cleared {W:World} {base g n c:Nat} {t:TypeId} {a:List Reg} {vs:List Value} (h:W.ownsRow base t 5 (.slice (some ⟨g,0,none⟩) n c) a.length (a.flatMap Reg.cells)):(W.setCells g (a.length*5) vs).ownsRow base t 5 (.slice (some ⟨g,0,none⟩) n c) a.length (a.flatMap Reg.cells):=by
 rcases h.2 with ⟨e,_⟩ |⟨g',cap,cur,e,hb,hh,h1,h2,h3,h4⟩
 ·cases e
 ·injection e with e e2 e3
  injection e with e
  injection e with e _
  subst e
  obtain ⟨cur',k1,k2,k3⟩:=blk_setCells vs (a.length*5) W cur hh
  refine ⟨h.1, .inr ⟨g,cap,cur',by rw [e2,e3],hb,k1,h1,h2,by rw [k2,h3], ?_⟩⟩
  rw [←h4]
  apply List.ext_getElem?
  intro k
  by_cases hk:k <a.length*5
  ·rw [List.getElem?_take_of_lt hk,List.getElem?_take_of_lt hk,Array.getElem?_toList,Array.getElem?_toList,k3 k hk]
  ·rw [List.getElem?_eq_none (by rw [List.length_take];omega),List.getElem?_eq_none (by rw [List.length_take];omega)]
end Go.Proofs.YtdmgpdanlfmadaaGreat
