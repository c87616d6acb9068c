/-
  container/heap over the regions that stand open, of package owner, walked: down. No condition but on sizes. Printed by gen/oheap.py.
-/
import Derived.Test.YtdmgpdanlfmadaaGreatOwnB
import Derived.Deep.Cut
namespace Go.Proofs.YtdmgpdanlfmadaaGreat
open Go.RowKit Go.Shelf
theorem all_permO {l l':List Opn} (h: ∀x ∈ l,okO x) (hp:l'.Perm l): ∀x ∈ l',okO x:=fun x hx=>h x (hp.mem_iff.1 hx)
theorem dn_leafO {l0 l:List Opn} {n i0 i:Nat} (h:DnInv lastO l0 l n i0 i) (hn:n≤2*i+1):HeapFrom lastO l n i0:=h.done fun j h0 h1 h2=>by omega
theorem dn_oneO {l0 l:List Opn} {n i0 i:Nat} (h:DnInv lastO l0 l n i0 i) (hn:n≤2*i+2) (hc: ¬kv lastO l (2*i+1) <kv lastO l i):HeapFrom lastO l n i0:=h.done fun j h0 h1 h2=>by
 obtain rfl:j=2*i+1:=by omega
 omega
theorem dn_twoO {l0 l:List Opn} {n i0 i j:Nat} (h:DnInv lastO l0 l n i0 i) (hj: ∀k,k=2*i+1∨k=2*i+2→kv lastO l j≤kv lastO l k) (hc: ¬kv lastO l j <kv lastO l i):HeapFrom lastO l n i0:=h.done fun k h0 h1 h2=>by
 have:=hj k (by omega)
 omega
set_option maxRecDepth 100000 in
set_option maxHeartbeats 8000000 in
theorem oDown_ok {W:World} {q base:Nat} {v:Value} {l:List Opn} (h:OQ W q base v l) (hall: ∀x ∈ l,okO x) (i0 n:Nat) (hi0:i0≤4194304) (hn:n≤l.length) (hh:HeapFrom lastO l n (i0+1)):
  Calls Tryz.prog 49 #[oI q, .int .i64 i0, .int .i64 n] W fun e w'=> ∃(b:Bool) (l':List Opn),e= .returned (.bool b)∧OQ w' q base v l'∧QStep W w' q v v∧(l'.Perm l∧(∀j,n≤j→l'[j]? =l[j]?)∧HeapFrom lastO l' n i0∧(n≤2*i0+1→b=false∧l'=l)):=by
 have hlen:=h.len
 have HS:=Lib.hid (DnInv.start (key:=lastO) hn hh)
 have HQ:=Lib.hid h
 have HALL:=Lib.hid hall
 clear h hall hh
 go_enter Tryz.func49,Tryz.ntmps49
 go_wp2
 go_loopw [7] (fun s wr=> ∃(i:Nat) (l':List Opn),s= .int .i64 i∧Hid (DnInv lastO l l' n i0 i)∧Hid (OQ wr q base v l')∧Hid (QStep W wr q v v)∧i≤4194304∧Hid (n≤2*i0+1→i=i0∧l'=l)) (fun s _=>n -(intOf s).toNat)
 case atStart=>exact ⟨i0,l,rfl,HS,HQ,Lib.hid (.of_below (Below.refl _ _)),hi0,Lib.hid (fun _=>⟨rfl,rfl⟩)⟩
 case round=>
  obtain ⟨i,l',rfl,HD,HQ',HST,hi,HE⟩:=hrel
  have hll:=HD.out.len
  have hpl:=HD.out.perm
  have HALL':=Lib.hid (all_permO HALL.out hpl)
  have hge:=HD.out.ge
  clear hpl
  by_cases h1:2*i+1 <n
  ·have m1:(2*(i:Int)+1) <(n:Int):=by omega
   by_cases h2:2*i+2 <n
   ·have m2:(2*(i:Int)+1+1) <(n:Int):=by omega
    have hc1: ∃c,c=decide (kv lastO l' (2*i+2) <kv lastO l' (2*i+1)):=⟨_,rfl⟩
    obtain ⟨c1,hc1⟩:=hc1
    have HC1:=Lib.hid hc1
    rcases Bool.eq_false_or_eq_true c1 with rfl |rfl
    ·have hcc:=of_decide_eq_true hc1.symm
     have HM:=Lib.hid (show ∀k,0 <k→k <n→(k -1)/2=i→kv lastO l' (2*i+2)≤kv lastO l' k from fun k h0 h1 h2=>by
      rcases (show k=2*i+1∨k=2*i+2 by omega) with rfl |rfl<;>omega)
     clear hc1 hcc
     obtain ⟨mm1,mm2,mm3,mm4,mm5⟩:=oMeth HQ'.out
     go_wp2_with fail
     clear mm1 mm2 mm3 mm4 mm5
     refine (oLess_at HQ'.out HALL'.out (2*i+2) (2*i+1) (by omega) (by omega) _ _ (by omega) (by omega) true HC1.out).mono ?_
     rintro e w1 ⟨rfl,hb1⟩
     have HQ1:=Lib.hid (HQ'.out.up hb1)
     have HST1:=Lib.hid (HST.out.trans (.of_below hb1))
     clear hb1
     obtain ⟨mm1,mm2,mm3,mm4,mm5⟩:=oMeth HQ1.out
     go_wp2_with fail
     clear mm1 mm2 mm3 mm4 mm5
     obtain ⟨c2,hc2⟩: ∃c,c=decide (kv lastO l' (2*i+2) <kv lastO l' i):=⟨_,rfl⟩
     have HC2:=Lib.hid hc2
     rcases Bool.eq_false_or_eq_true c2 with rfl |rfl
     ·have hlt:=of_decide_eq_true hc2.symm
      have HD2:=Lib.hid (HD.out.step (j:=2*i+2) (by omega) (by omega) (by omega) hlt HM.out)
      clear hc2 hlt
      refine (oLess_at HQ1.out HALL'.out (2*i+2) i (by omega) (by omega) _ _ (by omega) (by omega) true HC2.out).mono ?_
      rintro e w2 ⟨rfl,hb2⟩
      have HQ2:=Lib.hid (HQ1.out.up hb2)
      have HST2:=Lib.hid (HST1.out.trans (.of_below hb2))
      clear hb2
      obtain ⟨mm1,mm2,mm3,mm4,mm5⟩:=oMeth HQ2.out
      go_wp2_with fail
      clear mm1 mm2 mm3 mm4 mm5
      refine (oSwap_at HQ2.out i (2*i+2) (by omega) (by omega) _ _ (by omega) (by omega)).mono ?_
      rintro e w3 ⟨rfl,hq3,hg3⟩
      have HQ3:=Lib.hid hq3
      have HST3:=Lib.hid (HST2.out.trans (.of_grown hg3))
      clear hq3 hg3
      go_wp2
      go_roundw
      case rel=>exact ⟨2*i+2,_,by go_num,HD2,HQ3,HST3,by omega,Lib.hid (fun hh=>by omega)⟩
      case measure=>simp [intOf];omega
     ·have hnl:=of_decide_eq_false hc2.symm
      have HH:=Lib.hid (HD.out.done fun k h0 h1 h2=>by have:=HM.out k h0 h1 h2;omega)
      clear hc2 hnl
      refine (oLess_at HQ1.out HALL'.out (2*i+2) i (by omega) (by omega) _ _ (by omega) (by omega) false HC2.out).mono ?_
      rintro e w2 ⟨rfl,hb2⟩
      have HQ2:=Lib.hid (HQ1.out.up hb2)
      have HST2:=Lib.hid (HST1.out.trans (.of_below hb2))
      clear hb2
      go_wp2
      go_ret
      exact ⟨_,l',rfl,HQ2.out,HST2.out,HD.out.perm,fun j hj=>HD.out.tail j hj,HH.out,fun hh=>by omega⟩
    ·have hcc:=of_decide_eq_false hc1.symm
     have HM:=Lib.hid (show ∀k,0 <k→k <n→(k -1)/2=i→kv lastO l' (2*i+1)≤kv lastO l' k from fun k h0 h1 h2=>by
      rcases (show k=2*i+1∨k=2*i+2 by omega) with rfl |rfl<;>omega)
     clear hc1 hcc
     obtain ⟨mm1,mm2,mm3,mm4,mm5⟩:=oMeth HQ'.out
     go_wp2_with fail
     clear mm1 mm2 mm3 mm4 mm5
     refine (oLess_at HQ'.out HALL'.out (2*i+2) (2*i+1) (by omega) (by omega) _ _ (by omega) (by omega) false HC1.out).mono ?_
     rintro e w1 ⟨rfl,hb1⟩
     have HQ1:=Lib.hid (HQ'.out.up hb1)
     have HST1:=Lib.hid (HST.out.trans (.of_below hb1))
     clear hb1
     obtain ⟨mm1,mm2,mm3,mm4,mm5⟩:=oMeth HQ1.out
     go_wp2_with fail
     clear mm1 mm2 mm3 mm4 mm5
     obtain ⟨c2,hc2⟩: ∃c,c=decide (kv lastO l' (2*i+1) <kv lastO l' i):=⟨_,rfl⟩
     have HC2:=Lib.hid hc2
     rcases Bool.eq_false_or_eq_true c2 with rfl |rfl
     ·have hlt:=of_decide_eq_true hc2.symm
      have HD2:=Lib.hid (HD.out.step (j:=2*i+1) (by omega) (by omega) (by omega) hlt HM.out)
      clear hc2 hlt
      refine (oLess_at HQ1.out HALL'.out (2*i+1) i (by omega) (by omega) _ _ (by omega) (by omega) true HC2.out).mono ?_
      rintro e w2 ⟨rfl,hb2⟩
      have HQ2:=Lib.hid (HQ1.out.up hb2)
      have HST2:=Lib.hid (HST1.out.trans (.of_below hb2))
      clear hb2
      obtain ⟨mm1,mm2,mm3,mm4,mm5⟩:=oMeth HQ2.out
      go_wp2_with fail
      clear mm1 mm2 mm3 mm4 mm5
      refine (oSwap_at HQ2.out i (2*i+1) (by omega) (by omega) _ _ (by omega) (by omega)).mono ?_
      rintro e w3 ⟨rfl,hq3,hg3⟩
      have HQ3:=Lib.hid hq3
      have HST3:=Lib.hid (HST2.out.trans (.of_grown hg3))
      clear hq3 hg3
      go_wp2
      go_roundw
      case rel=>exact ⟨2*i+1,_,by go_num,HD2,HQ3,HST3,by omega,Lib.hid (fun hh=>by omega)⟩
      case measure=>simp [intOf];omega
     ·have hnl:=of_decide_eq_false hc2.symm
      have HH:=Lib.hid (HD.out.done fun k h0 h1 h2=>by have:=HM.out k h0 h1 h2;omega)
      clear hc2 hnl
      refine (oLess_at HQ1.out HALL'.out (2*i+1) i (by omega) (by omega) _ _ (by omega) (by omega) false HC2.out).mono ?_
      rintro e w2 ⟨rfl,hb2⟩
      have HQ2:=Lib.hid (HQ1.out.up hb2)
      have HST2:=Lib.hid (HST1.out.trans (.of_below hb2))
      clear hb2
      go_wp2
      go_ret
      exact ⟨_,l',rfl,HQ2.out,HST2.out,HD.out.perm,fun j hj=>HD.out.tail j hj,HH.out,fun hh=>by omega⟩
   ·have m2: ¬(2*(i:Int)+1+1) <(n:Int):=by omega
    have m3:(n:Int)≤2*(i:Int)+1+1:=by omega
    have HM:=Lib.hid (show ∀k,0 <k→k <n→(k -1)/2=i→kv lastO l' (2*i+1)≤kv lastO l' k from fun k h0 h1 h2=>by
     obtain rfl:k=2*i+1:=by omega
     exact Int.le_refl _)
    clear m2
    obtain ⟨mm1,mm2,mm3,mm4,mm5⟩:=oMeth HQ'.out
    go_wp2_with fail
    clear mm1 mm2 mm3 mm4 mm5
    obtain ⟨c2,hc2⟩: ∃c,c=decide (kv lastO l' (2*i+1) <kv lastO l' i):=⟨_,rfl⟩
    have HC2:=Lib.hid hc2
    rcases Bool.eq_false_or_eq_true c2 with rfl |rfl
    ·have hlt:=of_decide_eq_true hc2.symm
     have HD2:=Lib.hid (HD.out.step (j:=2*i+1) (by omega) (by omega) (by omega) hlt HM.out)
     clear hc2 hlt
     refine (oLess_at HQ'.out HALL'.out (2*i+1) i (by omega) (by omega) _ _ (by omega) (by omega) true HC2.out).mono ?_
     rintro e w2 ⟨rfl,hb2⟩
     have HQ2:=Lib.hid (HQ'.out.up hb2)
     have HST2:=Lib.hid (HST.out.trans (.of_below hb2))
     clear hb2
     obtain ⟨mm1,mm2,mm3,mm4,mm5⟩:=oMeth HQ2.out
     go_wp2_with fail
     clear mm1 mm2 mm3 mm4 mm5
     refine (oSwap_at HQ2.out i (2*i+1) (by omega) (by omega) _ _ (by omega) (by omega)).mono ?_
     rintro e w3 ⟨rfl,hq3,hg3⟩
     have HQ3:=Lib.hid hq3
     have HST3:=Lib.hid (HST2.out.trans (.of_grown hg3))
     clear hq3 hg3
     go_wp2
     go_roundw
     case rel=>exact ⟨2*i+1,_,by go_num,HD2,HQ3,HST3,by omega,Lib.hid (fun hh=>by omega)⟩
     case measure=>simp [intOf];omega
    ·have hnl:=of_decide_eq_false hc2.symm
     have HH:=Lib.hid (HD.out.done fun k h0 h1 h2=>by have:=HM.out k h0 h1 h2;omega)
     clear hc2 hnl
     refine (oLess_at HQ'.out HALL'.out (2*i+1) i (by omega) (by omega) _ _ (by omega) (by omega) false HC2.out).mono ?_
     rintro e w2 ⟨rfl,hb2⟩
     have HQ2:=Lib.hid (HQ'.out.up hb2)
     have HST2:=Lib.hid (HST.out.trans (.of_below hb2))
     clear hb2
     go_wp2
     go_ret
     exact ⟨_,l',rfl,HQ2.out,HST2.out,HD.out.perm,fun j hj=>HD.out.tail j hj,HH.out,fun hh=>by omega⟩
  ·have m1:(n:Int)≤2*(i:Int)+1:=by omega
   have HH:=Lib.hid (dn_leafO HD.out (by omega))
   go_wp2
   go_ret
   exact ⟨_,l',rfl,HQ'.out,HST.out,HD.out.perm,fun j hj=>HD.out.tail j hj,HH.out,fun hh=>by obtain ⟨rfl,rfl⟩:=HE.out hh;exact ⟨decide_eq_false (by omega),rfl⟩⟩
end Go.Proofs.YtdmgpdanlfmadaaGreat
namespace Go.Proofs.YtdmgpdanlfmadaaGreat
open Go.RowKit Go.Shelf
set_option maxRecDepth 100000 in
set_option maxHeartbeats 4000000 in
theorem oUp_ok {W:World} {q base:Nat} {v:Value} {l:List Opn} (h:OQ W q base v l) (hall: ∀x ∈ l,okO x) (j0 n:Nat) (hn:n≤l.length) (hs:UpInv lastO l l n j0):
  Calls Tryz.prog 72 #[oI q, .int .i64 j0] W fun e w'=>e= .returned (.tuple #[])∧ ∃(l':List Opn),OQ w' q base v l'∧QStep W w' q v v∧l'.Perm l∧HeapFrom lastO l' n 0:=by
 have hlen:=h.len
 have HS:=Lib.hid hs
 have HQ:=Lib.hid h
 have HALL:=Lib.hid hall
 clear h hall hs
 go_enter Tryz.func72,Tryz.ntmps72
 go_wp2
 go_loopw [1] (fun s wr=> ∃(j:Nat) (l':List Opn),s= .int .i64 j∧Hid (UpInv lastO l l' n j)∧Hid (OQ wr q base v l')∧Hid (QStep W wr q v v)) (fun s _=>(intOf s).toNat)
 case atStart=>exact ⟨j0,l,rfl,HS,HQ,Lib.hid (.of_below (Below.refl _ _))⟩
 case round=>
  obtain ⟨j,l',rfl,HD,HQ',HST⟩:=hrel
  have hll:=HD.out.len
  have hjn:=HD.out.jn
  have HALL':=Lib.hid (all_permO HALL.out HD.out.perm)
  rcases Nat.eq_zero_or_pos j with rfl |hj
  ·have HH:=Lib.hid (HD.out.done (.inl rfl))
   go_wp2
   go_end0
   exact ⟨rfl,l',HQ'.out,HST.out,HD.out.perm,HH.out⟩
  ·have j1:(0:Int)≤(j:Int) -1:=by omega
   have j2:(1:Int)≤(j:Int):=by omega
   have hne: ¬((j:Int) -1)/2=(j:Int):=by omega
   have hne2:(((j:Int) -1)/2==(j:Int))=false:=by simpa using hne
   obtain ⟨c2,hc2⟩: ∃c,c=decide (kv lastO l' j <kv lastO l' ((j -1)/2)):=⟨_,rfl⟩
   have HC2:=Lib.hid hc2
   rcases Bool.eq_false_or_eq_true c2 with rfl |rfl
   ·have hlt:=of_decide_eq_true hc2.symm
    have HD2:=Lib.hid (HD.out.step hj hlt)
    clear hc2 hlt
    obtain ⟨mm1,mm2,mm3,mm4,mm5⟩:=oMeth HQ'.out
    go_wp2_with fail
    clear mm1 mm2 mm3 mm4 mm5
    refine (oLess_at HQ'.out HALL'.out j ((j -1)/2) (by omega) (by omega) _ _ (by omega) (by omega) true HC2.out).mono ?_
    rintro e w1 ⟨rfl,hb1⟩
    have HQ1:=Lib.hid (HQ'.out.up hb1)
    have HST1:=Lib.hid (HST.out.trans (.of_below hb1))
    clear hb1
    obtain ⟨mm1,mm2,mm3,mm4,mm5⟩:=oMeth HQ1.out
    go_wp2_with fail
    clear mm1 mm2 mm3 mm4 mm5
    refine (oSwap_at HQ1.out ((j -1)/2) j (by omega) (by omega) _ _ (by omega) (by omega)).mono ?_
    rintro e w2 ⟨rfl,hq3,hg3⟩
    have HQ2:=Lib.hid hq3
    have HST2:=Lib.hid (HST1.out.trans (.of_grown hg3))
    clear hq3 hg3
    go_wp2
    go_roundw
    case rel=>exact ⟨(j -1)/2,_,by rw [show ((j:Int) -1)/2=(((j -1)/2:Nat):Int) by omega],HD2,HQ2,HST2⟩
    case measure=>simp [intOf];omega
   ·have hnl:=of_decide_eq_false hc2.symm
    have HH:=Lib.hid (HD.out.done (.inr (by omega)))
    clear hc2 hnl
    obtain ⟨mm1,mm2,mm3,mm4,mm5⟩:=oMeth HQ'.out
    go_wp2_with fail
    clear mm1 mm2 mm3 mm4 mm5
    refine (oLess_at HQ'.out HALL'.out j ((j -1)/2) (by omega) (by omega) _ _ (by omega) (by omega) false HC2.out).mono ?_
    rintro e w1 ⟨rfl,hb1⟩
    have HQ1:=Lib.hid (HQ'.out.up hb1)
    have HST1:=Lib.hid (HST.out.trans (.of_below hb1))
    clear hb1
    go_wp2
    go_end0
    exact ⟨rfl,l',HQ1.out,HST1.out,HD.out.perm,HH.out⟩
theorem oDown_at {W:World} {q base:Nat} {v:Value} {l:List Opn} (h:OQ W q base v l) (hall: ∀x ∈ l,okO x) (i0 n:Nat) (hi0:i0≤4194304) (hn:n≤l.length) (hh:HeapFrom lastO l n (i0+1)) (a b:Int) (ha:a=(i0:Int)) (hb:b=(n:Int)):
  Calls Tryz.prog 49 #[oI q, .int .i64 a, .int .i64 b] W fun e w'=> ∃(b:Bool) (l':List Opn),e= .returned (.bool b)∧OQ w' q base v l'∧QStep W w' q v v∧(l'.Perm l∧(∀j,n≤j→l'[j]? =l[j]?)∧HeapFrom lastO l' n i0∧(n≤2*i0+1→b=false∧l'=l)):=by
 subst ha hb
 exact oDown_ok h hall i0 n hi0 hn hh
theorem pop_plainO {l l2:List Opn} {m:Nat} (hm:l.length=m+1) (hh:HeapFrom lastO l l.length 0) (hp:l2.Perm (swp l 0 m)) (ht: ∀j,m≤j→l2[j]? =(swp l 0 m)[j]?) (h2:HeapFrom lastO l2 m 0):
  ∃x l3,l2=l3++ [x]∧l3.length=m∧(x::l3).Perm l∧HeapFrom lastO l3 l3.length 0∧ ∀y ∈ l,lastO x≤lastO y:=by
 obtain ⟨x,hx⟩:=get_lt (l:=l) (k:=0) (by omega)
 have hlast:l2[m]? =some x:=by rw [ht m (Nat.le_refl _),swp_get (by omega) (by omega),if_pos rfl,hx]
 have hl2:l2.length=m+1:=by rw [hp.length_eq,swp_len,hm]
 have e:l2=l2.take m++ [x]:=by
  have:=take_next hlast
  rw [←this,List.take_of_length_le (by omega)]
 refine ⟨x,l2.take m,e,by simp;omega, ?_, ?_, ?_⟩
 ·have h1:(x::l2.take m).Perm l2:=by
   have:=(List.perm_append_singleton x (l2.take m)).symm
   rw [←e] at this
   exact this
  exact (h1.trans hp).trans (swp_perm l 0 m)
 ·have hlm:(l2.take m).length=m:=by simp;omega
  rw [hlm]
  rw [e] at h2
  exact (heap_append (by rw [hlm];exact Nat.le_refl _)).1 h2
 ·intro y hy
  obtain ⟨j,hj⟩:=List.mem_iff_getElem?.1 hy
  have:=heap_min hh j (List.getElem?_eq_some_iff.1 hj).1
  rwa [kv_at hx,kv_at hj] at this
theorem swap_heapO {l:List Opn} {m:Nat} (hm:l.length=m+1) (hh:HeapFrom lastO l l.length 0):HeapFrom lastO (swp l 0 m) m 1:=fun j h0 h1 h2=>by
 rw [kv_swp (by omega) (by omega),kv_swp (by omega) (by omega),if_neg (by omega),if_neg (by omega),if_neg (by omega),if_neg (by omega)]
 exact hh j h0 (by omega) (Nat.zero_le _)
set_option maxRecDepth 100000 in
set_option maxHeartbeats 4000000 in
theorem oPop_ok {W:World} {q base:Nat} {v:Value} {l:List Opn} (h:OQ W q base v l) (hall: ∀x ∈ l,okO x) (hh:HeapFrom lastO l l.length 0) (hpos:0 <l.length):
  Calls Tryz.prog 26 #[oI q] W fun e w'=> ∃(x:Opn) (l':List Opn) (v':Value),e= .returned (.iface 66 x.val)∧OQ w' q base v' l'∧QStep W w' q v v'∧(x::l').Perm l∧HeapFrom lastO l' l'.length 0∧ ∀y ∈ l,lastO x≤lastO y:=by
 obtain ⟨m,hm⟩: ∃m,l.length=m+1:=⟨l.length -1,by omega⟩
 have hlen:=h.len
 have HQ:=Lib.hid h
 have HALL:=Lib.hid hall
 have HH:=Lib.hid hh
 have HM:=Lib.hid hm
 have HSW:=Lib.hid (swap_heapO hm hh)
 clear h hall hh hpos
 go_enter Tryz.func26,Tryz.ntmps26
 obtain ⟨mm1,mm2,mm3,mm4,mm5⟩:=oMeth HQ.out
 go_wp2_with fail
 clear mm1 mm2 mm3 mm4 mm5
 refine (oLen_ok HQ.out).mono ?_
 rintro e w1 ⟨rfl,rfl⟩
 rw [hm]
 have hmb:m≤4194304:=by omega
 clear hm
 obtain ⟨mm1,mm2,mm3,mm4,mm5⟩:=oMeth HQ.out
 go_wp2_with fail
 clear mm1 mm2 mm3 mm4 mm5
 refine (oSwap_at HQ.out 0 m (by have:=HM.out;omega) (by have:=HM.out;omega) _ _ (by omega) (by omega)).mono ?_
 rintro e w2 ⟨rfl,hq2,hg2⟩
 have HQ2:=Lib.hid hq2
 have HS2:=Lib.hid (QStep.of_grown (q:=q) hg2)
 clear hq2 hg2
 go_wp2_with fail
 refine (oDown_at HQ2.out (all_permO HALL.out (swp_perm l 0 m)) 0 m (by omega) (by rw [swp_len];have:=HM.out;omega) HSW.out _ _ (by omega) (by omega)).mono ?_
 rintro e w3 ⟨b,l2,rfl,hq3,hs3,hp3,ht3,hh3,_⟩
 obtain ⟨x,l3,rfl,hl3,hp,hh4,hmin⟩:=pop_plainO HM.out HH.out hp3 ht3 hh3
 have HQ3:=Lib.hid hq3
 have HS3:=Lib.hid (HS2.out.trans hs3)
 have HR:=Lib.hid (And.intro hp (And.intro hh4 hmin))
 clear hq3 hs3 hp3 ht3 hh3 hp hh4 hmin
 obtain ⟨mm1,mm2,mm3,mm4,mm5⟩:=oMeth HQ3.out
 go_wp2_with fail
 clear mm1 mm2 mm3 mm4 mm5
 refine (ePop_ok HQ3.out).mono ?_
 rintro e w4 ⟨rfl,v',hq4,hs4⟩
 have HQ4:=Lib.hid hq4
 have HS4:=Lib.hid (HS3.out.trans hs4)
 clear hq4 hs4
 go_wp2
 go_ret
 exact ⟨x,l3,v',rfl,HQ4.out,HS4.out,HR.out.1,HR.out.2.1,HR.out.2.2⟩
theorem oUp_at {W:World} {q base:Nat} {v:Value} {l:List Opn} (h:OQ W q base v l) (hall: ∀x ∈ l,okO x) (j0 n:Nat) (hn:n≤l.length) (hs:UpInv lastO l l n j0) (a:Int) (ha:a=(j0:Int)):
  Calls Tryz.prog 72 #[oI q, .int .i64 a] W fun e w'=>e= .returned (.tuple #[])∧ ∃(l':List Opn),OQ w' q base v l'∧QStep W w' q v v∧l'.Perm l∧HeapFrom lastO l' n 0:=by
 subst ha
 exact oUp_ok h hall j0 n hn hs
set_option maxRecDepth 100000 in
set_option maxHeartbeats 4000000 in
theorem oHPush_ok {W:World} {q base:Nat} {v:Value} {l:List Opn} (h:OQ W q base v l) (hall: ∀y ∈ l,okO y) (x:Opn) (hx:okO x) (hl:l.length <4194303) (hbs:base≤W.heap.size) (hh:HeapFrom lastO l l.length 0):
  Calls Tryz.prog 28 #[oI q, .iface 66 x.val] W fun e w'=>e= .returned (.tuple #[])∧ ∃(v':Value) (l':List Opn),OQ w' q base v' l'∧QStep W w' q v v'∧l'.Perm (l++ [x])∧HeapFrom lastO l' l'.length 0:=by
 have hln:(l++ [x]).length=l.length+1:=by simp
 have HQ:=Lib.hid h
 have HALL:=Lib.hid (show ∀y ∈ l++ [x],okO y from fun y hy=>by
  rcases List.mem_append.1 hy with hy |hy
  ·exact hall y hy
  ·rw [List.mem_singleton] at hy;rw [hy];exact hx)
 have HU:=Lib.hid (UpInv.start (key:=lastO) (l:=l++ [x]) (n:=l.length) (by simp) ((heap_append (Nat.le_refl _)).2 hh))
 have HLN:=Lib.hid hln
 have hl2:l.length <4194304:=by omega
 clear h hall hx hh hl
 go_enter Tryz.func28,Tryz.ntmps28
 obtain ⟨mm1,mm2,mm3,mm4,mm5⟩:=oMeth HQ.out
 go_wp2_with fail
 clear mm1 mm2 mm3 mm4 mm5
 refine (ePush_ok HQ.out x hl2 hbs).mono ?_
 rintro e w1 ⟨rfl,v1,hq1,hs1⟩
 have HQ1:=Lib.hid hq1
 have HS1:=Lib.hid hs1
 clear hq1 hs1
 obtain ⟨mm1,mm2,mm3,mm4,mm5⟩:=oMeth HQ1.out
 go_wp2_with fail
 clear mm1 mm2 mm3 mm4 mm5
 refine (oLen_ok HQ1.out).mono ?_
 rintro e w2 ⟨rfl,rfl⟩
 rw [hln]
 clear hln
 go_wp2_with fail
 refine (oUp_at HQ1.out HALL.out l.length (l.length+1) (by rw [HLN.out];exact Nat.le_refl _) HU.out _ (by omega)).mono ?_
 rintro e w3 ⟨rfl,l3,hq3,hs3,hp3,hh3⟩
 have HQ3:=Lib.hid hq3
 have HS3:=Lib.hid (HS1.out.trans hs3)
 have HP3:=Lib.hid hp3
 have HH3:=Lib.hid hh3
 clear hq3 hs3 hp3 hh3
 go_wp2
 go_end0
 exact ⟨rfl,v1,l3,HQ3.out,HS3.out,HP3.out,by rw [HP3.out.length_eq,HLN.out];exact HH3.out⟩
end Go.Proofs.YtdmgpdanlfmadaaGreat
