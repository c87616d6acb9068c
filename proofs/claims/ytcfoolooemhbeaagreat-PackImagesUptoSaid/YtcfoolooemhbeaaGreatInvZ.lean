/-
  A region that draws its order, by an invariant: for each operation what holds of the value that it has left, once it has come up, in whatever order. It speaks of no program.
-/
import Derived.Orders
import Derived.Calls
import Derived.WalkKit
import Derived.Below
import Derived.Test.YtcfoolooemhbeaaGreatCore
namespace Go.Proofs.YtcfoolooemhbeaaGreat
open Go
section
variable {P:Program} {ops:Array Oper} {md:Region.Mode} {Q:Exit→Act→World→Prop}
def backB (ops:Array Oper):Bool:=(List.range ops.size).all fun i=>((ops[i]?).map fun o=>o.after.all fun e=>decide (e.on <i)).getD true
def plainB (ops:Array Oper):Bool:=ops.all fun o=>o.guard.isNone
theorem backB_spec (h:backB ops=true) {i:Nat} {o:Oper} (ho:ops[i]? =some o): ∀e ∈ o.after,e.on <i:=by
 intro e he
 unfold backB at h
 have hi:i <ops.size:=(Array.getElem?_eq_some_iff.1 ho).1
 have:=List.all_eq_true.1 h i (List.mem_range.2 hi)
 rw [ho] at this
 simp only [Option.map_some,Option.getD_some] at this
 exact of_decide_eq_true (Array.all_eq_true_iff_forall_mem.1 this e he)
theorem ready_spec {l:Array Bool} {i:Nat} (h:i ∈ Region.ready md ops l): ∃o,ops[i]? =some o∧l.getD i true=false∧ ∀e ∈ o.after,Region.binds md e=true→l.getD e.on false=true:=by
 unfold Region.ready at h
 obtain ⟨h1,h2⟩:=List.mem_filter.1 h
 have hi:=List.mem_range.1 h1
 have ho:ops[i]? =some ops[i]:=Array.getElem?_eq_getElem hi
 rw [ho] at h2
 simp only [Bool.and_eq_true,Option.map_some,Option.getD_some,Bool.not_eq_true'] at h2
 refine ⟨_,ho,h2.1,fun e he hb=> ?_⟩
 have h3:=Array.all_eq_true_iff_forall_mem.1 h2.2 e he
 rw [hb] at h3
 simpa using h3
theorem ready_of {l:Array Bool} {i:Nat} {o:Oper} (ho:ops[i]? =some o) (hl:l.getD i true=false) (hp: ∀e ∈ o.after,Region.binds md e=true→l.getD e.on false=true):i ∈ Region.ready md ops l:=by
 unfold Region.ready
 refine List.mem_filter.2 ⟨List.mem_range.2 (Array.getElem?_eq_some_iff.1 ho).1, ?_⟩
 rw [ho]
 simp only [hl,Bool.not_false,Option.map_some,Option.getD_some,Bool.true_and]
 refine Array.all_eq_true_iff_forall_mem.2 fun e he=> ?_
 cases hb:Region.binds md e
 ·rfl
 ·simpa using hp e he hb
theorem getD_some {l:Array Bool} {i:Nat} {d b:Bool} (h:l[i]? =some b):l.getD i d=b:=by
 rw [Array.getD_eq_getD_getElem?,h];rfl
theorem ready_nil (hB:backB ops=true) {l:Array Bool} (hl:l.size=ops.size) (hr:Region.ready md ops l= []): ∀i,i <ops.size→l[i]? =some true:=by
 intro i
 induction i using Nat.strongRecOn with
 |ind i ih=>
  intro hi
  have hli:l[i]? =some l[i]:=Array.getElem?_eq_getElem (by omega)
  cases hb:l[i] with
  |true=>rw [hli,hb]
  |false=>
   exfalso
   have ho:ops[i]? =some ops[i]:=Array.getElem?_eq_getElem hi
   have:i ∈ Region.ready md ops l:=ready_of ho (by rw [getD_some hli];exact hb) fun e he _=>by
    have h1:=backB_spec hB ho e he
    exact getD_some (ih e.on h1 (by omega))
   rw [hr] at this
   cases this
theorem count_set {l:Array Bool} {i:Nat} (h:l[i]? =some false):(l.setIfInBounds i true).toList.count false+1=l.toList.count false:=by
 have hi:i <l.toList.length:=by
  have:=(Array.getElem?_eq_some_iff.1 h).1
  simpa using this
 have hv:l.toList[i]=false:=by
  have:=(Array.getElem?_eq_some_iff.1 h).2
  simpa using this
 have hpos:0 <l.toList.count false:=List.count_pos_iff.2 (by rw [←hv];exact List.getElem_mem hi)
 have h2:=List.count_set (a:=true) (b:=false) hi
 rw [hv,if_pos (by rfl),if_neg (by decide)] at h2
 rw [Array.toList_setIfInBounds,h2]
 omega
theorem wpAny_inv {Inv:Array Bool→Act→World→Prop} (hB:backB ops=true)
  (hs: ∀l a w i o,Inv l a w→l.size=ops.size→ops[i]? =some o→l[i]? =some false→(∀e ∈ o.after,Region.binds md e=true→l[e.on]? =some true)→wpOp P ops Q i (Inv (l.setIfInBounds i true)) a w)
  (he: ∀l a w,Inv l a w→l.size=ops.size→(∀i,i <ops.size→l[i]? =some true)→Q .normal a w):
  ∀(fuel:Nat) (l:Array Bool) (a:Act) (w:World),l.size=ops.size→l.toList.count false≤fuel→Inv l a w→wpAny P md ops Q fuel l a w
 |0,l,a,w,hl,hc,hI=>by
  have hall: ∀i,i <ops.size→l[i]? =some true:=fun i hi=>by
   have hli:l[i]? =some l[i]:=Array.getElem?_eq_getElem (by omega)
   cases hb:l[i] with
   |true=>rw [hli,hb]
   |false=>
    exfalso
    have:0 <l.toList.count false:=List.count_pos_iff.2 (by rw [←hb];simp)
    omega
  refine ⟨?_,he l a w hI hl hall⟩
  cases hr:Region.ready md ops l with
  |nil=>rfl
  |cons i r=>
   exfalso
   obtain ⟨o,ho,h1,_⟩:=ready_spec (md:=md) (ops:=ops) (l:=l) (i:=i) (by rw [hr];simp)
   rw [getD_some (hall i (Array.getElem?_eq_some_iff.1 ho).1)] at h1
   cases h1
 |fuel+1,l,a,w,hl,hc,hI=>by
  refine ⟨fun hr=>he l a w hI hl (ready_nil hB hl hr),fun i hi=> ?_⟩
  obtain ⟨o,ho,h1,h2⟩:=ready_spec hi
  have hio:=(Array.getElem?_eq_some_iff.1 ho).1
  have hli:l[i]? =some l[i]:=Array.getElem?_eq_getElem (by omega)
  have hf:l[i]? =some false:=by rw [getD_some hli] at h1;rw [hli,h1]
  refine wpOp_mono (fun a' w' hI'=>wpAny_inv hB hs he fuel _ a' w' (by simpa using hl) (by have:=count_set hf;omega) hI') (hs l a w i o hI hl ho hf fun e he2 hb=> ?_)
  have h3:=h2 e he2 hb
  have h4:=backB_spec hB ho e he2
  have hle:l[e.on]? =some l[e.on]:=Array.getElem?_eq_getElem (by omega)
  rw [getD_some hle] at h3
  rw [hle,h3]
def upd (u:Nat→Value) (i:Nat) (v:Value):Nat→Value:=fun j=>if j=i then v else u j
theorem upd_self (u:Nat→Value) (i:Nat) (v:Value):upd u i v i=v:=if_pos rfl
theorem upd_ne {i j:Nat} (h:j≠i) (u:Nat→Value) (v:Value):upd u i v j=u j:=if_neg h
def childB (ops:Array Oper):Bool:=(List.range (ops.size -1)).all fun j=>(List.range ops.size).any fun i=>((ops[i]?).map fun o=>o.after.any fun e=>e.on==j&&Region.binds .any e).getD false
theorem childB_spec (h:childB ops=true) {j:Nat} (hj:j+1 <ops.size): ∃(i:Nat) (o:Oper) (e:_),ops[i]? =some o∧e ∈ o.after∧e.on=j∧Region.binds .any e=true:=by
 unfold childB at h
 have h1:=List.all_eq_true.1 h j (List.mem_range.2 (by omega))
 obtain ⟨i,hi,h2⟩:=List.any_eq_true.1 h1
 have hi:=List.mem_range.1 hi
 have ho:ops[i]? =some ops[i]:=Array.getElem?_eq_getElem hi
 rw [ho] at h2
 simp only [Option.map_some,Option.getD_some] at h2
 obtain ⟨k,hk,h3⟩:=Array.any_eq_true.1 h2
 simp only [Bool.and_eq_true,beq_iff_eq] at h3
 exact ⟨i,_,_,ho,Array.getElem_mem hk,h3.1,h3.2⟩
theorem all_listed {l:Array Bool} {n:Nat} (hn:ops.size=n+1) (hB:backB ops=true) (hC:childB ops=true) (hcl: ∀(i:Nat) (o:Oper),ops[i]? =some o→l[i]? =some true→ ∀e ∈ o.after,Region.binds .any e=true→l[e.on]? =some true)
  (hl: ∀o,ops[n]? =some o→ ∀e ∈ o.after,Region.binds .any e=true→l[e.on]? =some true): ∀d j,j+d+1=n→l[j]? =some true:=by
 intro d
 induction d using Nat.strongRecOn with
 |ind d ih=>
  intro j hj
  obtain ⟨i,o,e,ho,he,hej,hb⟩:=childB_spec hC (j:=j) (by omega)
  have hlt:=backB_spec hB ho e he
  have hio:=(Array.getElem?_eq_some_iff.1 ho).1
  rw [hej] at hlt
  by_cases hin:i=n
  ·subst hin
   have:=hl o ho e he hb
   rwa [hej] at this
  ·have h1:=ih (n -i -1) (by omega) i (by omega)
   have:=hcl i o ho h1 e he hb
   rwa [hej] at this
theorem wp_region_T {id:Nat} {a:Act} {w:World} (n:Nat) (last:Oper) (hn:ops.size=n+1) (hlast:ops[n]? =some last) (hm:P.follows .mixedOrders=true) (hB:backB ops=true) (hG:plainB ops=true) (hC:childB ops=true)
  (mk:(Nat→Value)→Act) (u0:Nat→Value) (ha:a=mk u0) (hput: ∀(i:Nat) (o:Oper),ops[i]? =some o→i <n→ ∀u v,(mk u).put o.dst v=mk (upd u i v))
  (S:Nat→(Nat→Value)→World→Prop) (E:Array Bool→(Nat→Value)→World→Prop) (Le:Nat→(Nat→Value)→World→World→Prop)
  (hE0:E (Array.replicate ops.size false) u0 {w with drawn:=w.drawn+1})
  (hst: ∀l i j u w w',i≠j→i <n→E l u w→l[j]? =some false→S i u w→Le j u w w'→S i u w')
  (hloc: ∀(i:Nat) (o:Oper),ops[i]? =some o→i <n→ ∀j u v w,j≠i→(∀e ∈ o.after,Region.binds .any e=true→e.on≠j)→S i u w→S i (upd u j v) w)
  (hop: ∀(i:Nat) (o:Oper),ops[i]? =some o→i <n→ ∀l u w,E l u w→l[i]? =some false→(∀e ∈ o.after,Region.binds .any e=true→S e.on u w)→ ∀K:Act→World→Prop,(∀v w',E (l.setIfInBounds i true) (upd u i v) w'→Le i u w w'→S i (upd u i v) w'→K ((mk u).put o.dst v) w')→o.wp P (mk u) w K Q)
  (hend: ∀l u w,E l u w→(∀i,i <n→S i u w)→ ∀K:Act→World→Prop,(∀a' w',Q .normal a' w'→K a' w')→last.wp P (mk u) w K Q):(Code.region id ops true).wp P Q a w:=by
 refine wp_region_any hm ?_
 refine wpAny_inv (Inv:=fun l a w=>(∀(i:Nat) (o:Oper),ops[i]? =some o→l[i]? =some true→ ∀e ∈ o.after,Region.binds .any e=true→l[e.on]? =some true)∧
  ((l[n]? =some false∧ ∃u,a=mk u∧E l u w∧ ∀i,i <n→l[i]? =some true→S i u w)∨((∀i,i <ops.size→l[i]? =some true)∧Q .normal a w))) hB ?_ ?_ _ _ _ _ (by simp) ?_ ?_
 ·rintro l a w i o ⟨hcl,hI⟩ hl ho hf hp
  have hio:=(Array.getElem?_eq_some_iff.1 ho).1
  have hg:o.guard=none:=by
   have h1:=Array.all_eq_true_iff_forall_mem.1 hG o (Array.mem_of_getElem? ho)
   simpa using h1
  rcases hI with ⟨hln,u,rfl,hE,hS⟩ |⟨hall,_⟩
  ·have hw:Region.wanted o (yielded ops (mk u).tmps)=true:=by simp [Region.wanted,hg]
   have hcl': ∀(k:Nat) (ok:Oper),ops[k]? =some ok→(l.setIfInBounds i true)[k]? =some true→ ∀e ∈ ok.after,Region.binds .any e=true→(l.setIfInBounds i true)[e.on]? =some true:=by
    intro k ok hok hk e he hb
    have h5:l[e.on]? =some true:=by
     by_cases hki:k=i
     ·subst hki
      rw [ho] at hok
      injection hok with hok
      subst hok
      exact hp e he hb
     ·rw [Array.getElem?_setIfInBounds_ne (fun e=>hki e.symm)] at hk
      exact hcl k ok hok hk e he hb
    by_cases hei:e.on=i
    ·rw [hei] at h5
     rw [hf] at h5
     cases h5
    ·rw [Array.getElem?_setIfInBounds_ne (fun e=>hei e.symm)]
     exact h5
   unfold wpOp
   rw [ho]
   simp only [hw,if_true]
   by_cases hin:i=n
   ·subst hin
    rw [hlast] at ho
    injection ho with ho
    subst ho
    have hall:=all_listed hn hB hC hcl (fun o2 ho2=>by rw [hlast] at ho2;injection ho2 with ho2;subst ho2;exact hp)
    refine .inl (hend l u w hE (fun k hk=>hS k hk (hall (i -k -1) k (by omega))) _ fun a' w' hq=>⟨hcl', .inr ⟨fun k hk=> ?_,hq⟩⟩)
    by_cases hki:k=i
    ·subst hki
     rw [Array.getElem?_setIfInBounds_self,if_pos (by omega)]
    ·rw [Array.getElem?_setIfInBounds_ne (fun e=>hki e.symm)]
     exact hall (i -k -1) k (by omega)
   ·have hlt:i <n:=by omega
    refine .inl (hop i o ho hlt l u w hE hf (fun e he hb=>hS e.on (by have:=backB_spec hB ho e he;omega) (hp e he hb)) _ fun v w' hE' hle hSi=> ?_)
    refine ⟨hcl', .inl ⟨by rw [Array.getElem?_setIfInBounds_ne hin];exact hln,upd u i v,hput i o ho hlt u v,hE', ?_⟩⟩
    intro k hkn hk
    by_cases hki:k=i
    ·subst hki;exact hSi
    ·rw [Array.getElem?_setIfInBounds_ne (fun e=>hki e.symm)] at hk
     have hok:ops[k]? =some ops[k]:=Array.getElem?_eq_getElem (by omega)
     refine hloc k _ hok hkn i u v w' (fun e=>hki e.symm) (fun e he hb hei=> ?_) (hst l k i _ _ _ hki hkn hE hf (hS k hkn hk) hle)
     have:=hcl k _ hok hk e he hb
     rw [hei,hf] at this
     cases this
  ·rw [hall i hio] at hf
   cases hf
 ·rintro l a w ⟨_,hI⟩ hl hall
  rcases hI with ⟨hln,_⟩ |⟨_,hq⟩
  ·rw [hall n (by omega)] at hln
   cases hln
  ·exact hq
 ·have:(Array.replicate ops.size false).toList.count false=ops.size:=by simp
  omega
 ·refine ⟨fun i o ho hi=> ?_, .inl ⟨by simp [hn],u0,ha,hE0,fun i _ hi=> ?_⟩⟩
  ·have:=(Array.getElem?_eq_some_iff.1 hi).2
   simp at this
  ·have:=(Array.getElem?_eq_some_iff.1 hi).2
   simp at this
theorem wp_region_S {id:Nat} {a:Act} {w:World} (hm:P.follows .mixedOrders=true) (hB:backB ops=true) (hG:plainB ops=true)
  (mk:(Nat→Value)→Act) (u0:Nat→Value) (ha:a=mk u0) (hput: ∀(i:Nat) (o:Oper),ops[i]? =some o→ ∀u v,(mk u).put o.dst v=mk (upd u i v))
  (S:Nat→(Nat→Value)→World→Prop) (E:(Nat→Value)→World→Prop) (Le:Nat→(Nat→Value)→World→World→Prop)
  (hE0:E u0 {w with drawn:=w.drawn+1})
  (hst: ∀i j u w w',i≠j→E u w→S i u w→Le j u w w'→S i u w')
  (hloc: ∀(i:Nat) (o:Oper),ops[i]? =some o→ ∀j u v w,j≠i→(∀e ∈ o.after,Region.binds .any e=true→e.on≠j)→S i u w→S i (upd u j v) w)
  (hop: ∀(i:Nat) (o:Oper),ops[i]? =some o→ ∀u w,E u w→(∀e ∈ o.after,Region.binds .any e=true→S e.on u w)→ ∀K:Act→World→Prop,(∀v w',E (upd u i v) w'→Le i u w w'→S i (upd u i v) w'→K ((mk u).put o.dst v) w')→o.wp P (mk u) w K Q)
  (hend: ∀u w,E u w→(∀i,i <ops.size→S i u w)→Q .normal (mk u) w):(Code.region id ops true).wp P Q a w:=by
 refine wp_region_any hm ?_
 refine wpAny_inv (Inv:=fun l a w=>(∀(i:Nat) (o:Oper),ops[i]? =some o→l[i]? =some true→ ∀e ∈ o.after,Region.binds .any e=true→l[e.on]? =some true)∧ ∃u,a=mk u∧E u w∧ ∀i,l[i]? =some true→S i u w) hB ?_ ?_ _ _ _ _ (by simp) ?_ ?_
 ·rintro l a w i o ⟨hcl,u,rfl,hE,hS⟩ hl ho hf hp
  have hio:=(Array.getElem?_eq_some_iff.1 ho).1
  have hg:o.guard=none:=by
   have h1:=Array.all_eq_true_iff_forall_mem.1 hG o (Array.mem_of_getElem? ho)
   simpa using h1
  have hw:Region.wanted o (yielded ops (mk u).tmps)=true:=by simp [Region.wanted,hg]
  unfold wpOp
  rw [ho]
  simp only [hw,if_true]
  refine .inl (hop i o ho u w hE (fun e he hb=>hS e.on (hp e he hb)) _ fun v w' hE' hle hSi=> ?_)
  refine ⟨?_,upd u i v,hput i o ho u v,hE', ?_⟩
  ·intro k ok hok hk e he hb
   by_cases hki:k=i
   ·subst hki
    rw [ho] at hok
    injection hok with hok
    subst hok
    have hlt:=backB_spec hB ho e he
    rw [Array.getElem?_setIfInBounds_ne (by omega)]
    exact hp e he hb
   ·rw [Array.getElem?_setIfInBounds_ne (fun e=>hki e.symm)] at hk
    have h5:=hcl k ok hok hk e he hb
    by_cases hei:e.on=i
    ·rw [hei,Array.getElem?_setIfInBounds_self]
     rw [if_pos (by omega)]
    ·rw [Array.getElem?_setIfInBounds_ne (fun e=>hei e.symm)]
     exact h5
  ·intro k hk
   by_cases hki:k=i
   ·subst hki;exact hSi
   ·rw [Array.getElem?_setIfInBounds_ne (fun e=>hki e.symm)] at hk
    have hkl:k <ops.size:=by have:=(Array.getElem?_eq_some_iff.1 hk).1;omega
    have hok:ops[k]? =some ops[k]:=Array.getElem?_eq_getElem hkl
    refine hloc k _ hok i u v w' (fun e=>hki e.symm) (fun e he hb hei=> ?_) (hst k i _ _ _ hki hE (hS k hk) hle)
    have:=hcl k _ hok hk e he hb
    rw [hei,hf] at this
    cases this
 ·rintro l a w ⟨_,u,rfl,hE,hS⟩ hl hall
  exact hend u w hE fun i hi=>hS i (hall i hi)
 ·have:(Array.replicate ops.size false).toList.count false=ops.size:=by simp
  omega
 ·refine ⟨fun i o ho hi=> ?_,u0,ha,hE0,fun i hi=> ?_⟩
  ·have:=(Array.getElem?_eq_some_iff.1 hi).2
   simp at this
  ·have:=(Array.getElem?_eq_some_iff.1 hi).2
   simp at this
def mkAt (a:Act) (D k:Nat) (u:Nat→Value):Act:= {a with tmps:=(a.tmps.toList.take D++(List.range k).map u++a.tmps.toList.drop (D+k)).toArray}
theorem mkAt_get (a:Act) {D k:Nat} (u:Nat→Value) (hs:D+k≤a.tmps.size) (t:Nat):(mkAt a D k u).tmps[t]? =if t <D then a.tmps[t]? else if t <D+k then some (u (t -D)) else a.tmps[t]? :=by
 unfold mkAt
 simp only [List.getElem?_toArray]
 have hl:(a.tmps.toList.take D).length=D:=by simp;omega
 have hl2:(a.tmps.toList.take D++(List.range k).map u).length=D+k:=by simp;omega
 by_cases h1:t <D
 ·rw [if_pos h1,List.append_assoc,List.getElem?_append_left (by omega),List.getElem?_take_of_lt h1]
  simp
 ·rw [if_neg h1]
  by_cases h2:t <D+k
  ·rw [if_pos h2,List.getElem?_append_left (by omega),List.getElem?_append_right (by omega),hl]
   rw [List.getElem?_map,List.getElem?_range (by omega)]
   rfl
  ·rw [if_neg h2,List.getElem?_append_right (by omega),hl2,List.getElem?_drop,show D+k+(t -(D+k))=t by omega]
   simp
theorem mkAt_eval (a:Act) {D k:Nat} (u:Nat→Value) (hs:D+k≤a.tmps.size) {t:Nat} (h:t <D):(mkAt a D k u).eval (.tmp t)=a.eval (.tmp t):=by
 show (mkAt a D k u).tmps.getD t undef=a.tmps.getD t undef
 rw [Array.getD_eq_getD_getElem?,Array.getD_eq_getD_getElem?,mkAt_get a u hs t,if_pos h]
theorem mkAt_eval_in (a:Act) {D k:Nat} (u:Nat→Value) (hs:D+k≤a.tmps.size) {i:Nat} (h:i <k):(mkAt a D k u).eval (.tmp (D+i))=u i:=by
 show (mkAt a D k u).tmps.getD (D+i) undef=u i
 rw [Array.getD_eq_getD_getElem?,mkAt_get a u hs (D+i),if_neg (show ¬D+i <D by omega),if_pos (show D+i <D+k by omega),show D+i -D=i by omega]
 rfl
theorem mkAt_put (a:Act) {D k:Nat} (u:Nat→Value) (hs:D+k≤a.tmps.size) {i:Nat} (h:i <k) (v:Value):(mkAt a D k u).put (some (D+i)) v=mkAt a D k (upd u i v):=by
 have e:((mkAt a D k u).tmps.setIfInBounds (D+i) v)=(mkAt a D k (upd u i v)).tmps:=by
  apply Array.ext_getElem?
  intro t
  rw [Array.getElem?_setIfInBounds]
  have hsz:(mkAt a D k u).tmps.size=a.tmps.size:=by unfold mkAt;simp;omega
  rw [hsz,mkAt_get a u hs,mkAt_get a (upd u i v) hs]
  by_cases ht:D+i=t
  ·subst ht
   rw [if_pos rfl,if_pos (by omega),if_neg (by omega),if_pos (by omega),show D+i -D=i by omega,upd_self]
  ·rw [if_neg ht]
   by_cases h1:t <D
   ·rw [if_pos h1,if_pos h1]
   ·rw [if_neg h1,if_neg h1]
    by_cases h2:t <D+k
    ·rw [if_pos h2,if_pos h2,upd_ne (by omega)]
    ·rw [if_neg h2,if_neg h2]
 unfold Act.put
 show ({mkAt a D k u with tmps:=(mkAt a D k u).tmps.setIfInBounds (D+i) v}:Act)=_
 rw [e]
 rfl
theorem mkAt_self (a:Act) {D k:Nat} (hs:D+k≤a.tmps.size):a=mkAt a D k (fun i=>a.tmps.getD (D+i) undef):=by
 have e:a.tmps=(mkAt a D k (fun i=>a.tmps.getD (D+i) undef)).tmps:=by
  apply Array.ext_getElem?
  intro t
  rw [mkAt_get a _ hs]
  by_cases h1:t <D
  ·rw [if_pos h1]
  ·rw [if_neg h1]
   by_cases h2:t <D+k
   ·rw [if_pos h2,Array.getD_eq_getD_getElem?,show D+(t -D)=t by omega,Array.getElem?_eq_getElem (by omega)]
    rfl
   ·rw [if_neg h2]
 have:mkAt a D k (fun i=>a.tmps.getD (D+i) undef)= {a with tmps:=(mkAt a D k (fun i=>a.tmps.getD (D+i) undef)).tmps}:=rfl
 rw [this, ←e]
theorem wp_val {P:Program} {o:Oper} {a:Act} {w w':World} {K:Act→World→Prop} {Q:Exit→Act→World→Prop} (v:Value) (hr:(execOp a.eval o).run P w= .ok (.value v) w') (h:K (a.put o.dst v) w'):o.wp P a w K Q:=by
 unfold Oper.wp;rw [hr];exact h
theorem wp_skip {P:Program} {o:Oper} {a:Act} {w w':World} {K:Act→World→Prop} {Q:Exit→Act→World→Prop} (hr:(execOp a.eval o).run P w= .ok .skip w') (h:K (a.put o.dst undef) w'):o.wp P a w K Q:=by
 unfold Oper.wp;rw [hr];exact h
theorem wp_call {P:Program} {o:Oper} {a:Act} {w w':World} {K:Act→World→Prop} {Q:Exit→Act→World→Prop} (f:FuncId) (args:Array Value) (hr:(execOp a.eval o).run P w= .ok (.enter f args) w') (h:Calls P f args w' (fun e w''=> ∃v,e= .returned v∧K (a.put o.dst v) w'')):o.wp P a w K Q:=by
 unfold Oper.wp;rw [hr]
 exact h.mono fun e w'' ⟨v,he,hk⟩=>by subst he;exact hk
end
end Go.Proofs.YtcfoolooemhbeaaGreat
namespace Go.Proofs.YtcfoolooemhbeaaGreat
open Go.RowKit
section
variable {P:Program} {ops:Array Oper} {Q:Exit→Act→World→Prop}
def dstB (ops:Array Oper) (D n:Nat):Bool:=(List.range n).all fun i=>((ops[i]?).map fun o=>o.dst==some (D+i)).getD false
theorem dstB_spec {D n:Nat} (h:dstB ops D n=true) {i:Nat} {o:Oper} (ho:ops[i]? =some o) (hi:i <n):o.dst=some (D+i):=by
 have h1:=List.all_eq_true.1 h i (List.mem_range.2 hi)
 rw [ho] at h1
 simpa using h1
def SA (c:List Value) (k1 k2:Nat) (p1 p2:Value→World→Prop) (i:Nat) (u:Nat→Value) (w:World):Prop:=
 if i=k1 then p1 (u k1) w else if i=k2 then p2 (u k2) w else u i=c.getD i undef
theorem SA.c {c:List Value} {k1 k2:Nat} {p1 p2:Value→World→Prop} {i:Nat} {u:Nat→Value} {w:World} (h1:i≠k1) (h2:i≠k2):SA c k1 k2 p1 p2 i u w↔u i=c.getD i undef:=by
 unfold SA;rw [if_neg h1,if_neg h2]
theorem SA.a {c:List Value} {k1 k2:Nat} {p1 p2:Value→World→Prop} {u:Nat→Value} {w:World}:SA c k1 k2 p1 p2 k1 u w↔p1 (u k1) w:=by
 unfold SA;rw [if_pos rfl]
theorem SA.b {c:List Value} {k1 k2:Nat} {p1 p2:Value→World→Prop} {u:Nat→Value} {w:World} (h:k1≠k2):SA c k1 k2 p1 p2 k2 u w↔p2 (u k2) w:=by
 unfold SA;rw [if_neg (fun e=>h e.symm),if_pos rfl]
theorem wp_region_B {id:Nat} {a:Act} {w:World} (D n k1 k2:Nat) (last:Oper) (hn:ops.size=n+1) (hlast:ops[n]? =some last) (hm:P.follows .mixedOrders=true) (hB:backB ops=true) (hG:plainB ops=true) (hC:childB ops=true) (hD:dstB ops D n=true) (hsz:D+n≤a.tmps.size)
  (hk1:k1 <n) (hk2:k2 <n) (hk:k1≠k2) (hldst:last.dst=none)
  (c:List Value) (p1 p2:Value→World→Prop) (EW ES:World→Prop) (LA:World→World→Prop)
  (h0:ES {w with drawn:=w.drawn+1}) (hES: ∀w,ES w→EW w)
  (s1: ∀v w w',p1 v w→Below w.heap.size w w'→p1 v w') (s2: ∀v w w',p2 v w→Below w.heap.size w w'→p2 v w') (sA: ∀v w w',ES w→p1 v w→LA w w'→p1 v w')
  (hpure: ∀(i:Nat) (o:Oper),ops[i]? =some o→i <n→i≠k1→i≠k2→ ∀w,EW w→ ∀ρ:Operand→Value,(∀v,ρ (.const v)=v)→(∀t,t <D→ρ (.tmp t)=a.eval (.tmp t))→(∀e ∈ o.after,Region.binds .any e=true→e.on≠k1→e.on≠k2→ρ (.tmp (D+e.on))=c.getD e.on undef)→(execOp ρ o).run P w= .ok (.value (c.getD i undef)) w)
  (hlit: ∀o,ops[k1]? =some o→ ∀w,EW w→ ∀ρ:Operand→Value,(∀v,ρ (.const v)=v)→(∀e ∈ o.after,Region.binds .any e=true→e.on≠k2→ρ (.tmp (D+e.on))=c.getD e.on undef)→ ∃v w',(execOp ρ o).run P w= .ok (.value v) w'∧EW w'∧(ES w→ES w')∧Below w.heap.size w w'∧p1 v w')
  (happ: ∀o,ops[k2]? =some o→ ∀w v,ES w→p1 v w→ ∀ρ:Operand→Value,ρ (.tmp (D+k1))=v→(∀e ∈ o.after,Region.binds .any e=true→e.on≠k1→ρ (.tmp (D+e.on))=c.getD e.on undef)→ ∃v w',(execOp ρ o).run P w= .ok (.value v) w'∧EW w'∧LA w w'∧p2 v w')
  (hpar: ∀o,ops[k2]? =some o→ ∃e ∈ o.after,e.on=k1∧Region.binds .any e=true)
  (hend: ∀u w,EW w→p2 (u k2) w→(∀i,i <n→i≠k1→i≠k2→u i=c.getD i undef)→ ∀ρ:Operand→Value,(∀v,ρ (.const v)=v)→(∀t,t <D→ρ (.tmp t)=a.eval (.tmp t))→(∀j,j <n→ρ (.tmp (D+j))=u j)→ ∃w',(execOp ρ last).run P w= .ok .skip w'∧Q .normal (mkAt a D n u) w'):(Code.region id ops true).wp P Q a w:=by
 refine wp_region_T n last hn hlast hm hB hG hC (mkAt a D n) _ (mkAt_self a hsz) (fun i o ho hi u v=>by rw [dstB_spec hD ho hi];exact mkAt_put a u hsz hi v) (SA c k1 k2 p1 p2)
  (fun l _ w=>EW w∧(l[k2]? =some false→ES w)) (fun j _ w w'=>if j=k2 then LA w w' else Below w.heap.size w w') ⟨hES _ h0,fun _=>h0⟩ ?_ ?_ ?_ ?_
 ·intro l i j u w w' hij hi hE hf hS hL
  by_cases hj:j=k2
  ·rw [if_pos hj] at hL
   subst hj
   by_cases h1:i=k1
   ·subst h1
    exact SA.a.2 (sA _ _ _ (hE.2 hf) (SA.a.1 hS) hL)
   ·exact (SA.c h1 hij).2 ((SA.c h1 hij).1 hS)
  ·rw [if_neg hj] at hL
   by_cases h1:i=k1
   ·subst h1
    exact SA.a.2 (s1 _ _ _ (SA.a.1 hS) hL)
   ·by_cases h2:i=k2
    ·subst h2
     exact (SA.b hk).2 (s2 _ _ _ ((SA.b hk).1 hS) hL)
    ·exact (SA.c h1 h2).2 ((SA.c h1 h2).1 hS)
 ·intro i o ho hi j u v w hij _ hS
  have e:=upd_ne (Ne.symm hij) u v
  unfold SA at hS ⊢
  by_cases h1:i=k1
  ·subst h1
   rw [if_pos rfl] at hS ⊢
   rw [e];exact hS
  ·rw [if_neg h1] at hS ⊢
   by_cases h2:i=k2
   ·subst h2
    rw [if_pos rfl] at hS ⊢
    rw [e];exact hS
   ·rw [if_neg h2] at hS ⊢
    rw [e];exact hS
 ·intro i o ho hi l u w hE hf hp K hK
  have q0: ∀v,(mkAt a D n u).eval (.const v)=v:=fun _=>rfl
  have q1: ∀t,t <D→(mkAt a D n u).eval (.tmp t)=a.eval (.tmp t):=fun t ht=>mkAt_eval a u hsz ht
  have q2: ∀e ∈ o.after,Region.binds .any e=true→(mkAt a D n u).eval (.tmp (D+e.on))=u e.on:=fun e he hb=>mkAt_eval_in a u hsz (by have:=backB_spec hB ho e he;omega)
  by_cases h1:i=k1
  ·subst h1
   obtain ⟨v,w',hr,hw',hs',hb,hp1⟩:=hlit o ho w hE.1 _ q0 (fun e he hbn hne=>by
    rw [q2 e he hbn]
    exact (SA.c (by have:=backB_spec hB ho e he;omega) hne).1 (hp e he hbn))
   exact wp_val v hr (hK v w' ⟨hw',fun hc=>hs' (hE.2 (by rwa [Array.getElem?_setIfInBounds_ne hk] at hc))⟩ (by rw [if_neg hk];exact hb) (SA.a.2 (by rw [upd_self];exact hp1)))
  ·by_cases h2:i=k2
   ·subst h2
    obtain ⟨e,he,hek,hbn⟩:=hpar o ho
    have hp1:p1 (u k1) w:=by have:=hp e he hbn;rw [hek] at this;exact SA.a.1 this
    obtain ⟨v,w',hr,hw',hl',hp2'⟩:=happ o ho w (u k1) (hE.2 hf) hp1 _ (by have:=q2 e he hbn;rwa [hek] at this) (fun e he hbn hne=>by
     rw [q2 e he hbn]
     exact (SA.c hne (by have:=backB_spec hB ho e he;omega)).1 (hp e he hbn))
    exact wp_val v hr (hK v w' ⟨hw',fun hc=>by
     rw [Array.getElem?_setIfInBounds_self] at hc
     split at hc<;>cases hc⟩ (by rw [if_pos rfl];exact hl') ((SA.b hk).2 (by rw [upd_self];exact hp2')))
   ·have hr:=hpure i o ho hi h1 h2 w hE.1 _ q0 q1 (fun e he hbn hn1 hn2=>by
     rw [q2 e he hbn]
     exact (SA.c hn1 hn2).1 (hp e he hbn))
    exact wp_val _ hr (hK _ w ⟨hE.1,fun hc=>hE.2 (by rwa [Array.getElem?_setIfInBounds_ne h2] at hc)⟩ (by rw [if_neg h2];exact Below.refl _ _) ((SA.c h1 h2).2 (upd_self _ _ _)))
 ·intro l u w hE hS K hK
  obtain ⟨w',hr,hq⟩:=hend u w hE.1 ((SA.b hk).1 (hS k2 hk2)) (fun i hi h1 h2=>(SA.c h1 h2).1 (hS i hi)) (mkAt a D n u).eval (fun _=>rfl) (fun t ht=>mkAt_eval a u hsz ht) (fun j hj=>mkAt_eval_in a u hsz hj)
  refine wp_skip hr ?_
  rw [hldst]
  exact hK _ _ hq
end
end Go.Proofs.YtcfoolooemhbeaaGreat
namespace Go.Proofs.YtcfoolooemhbeaaGreat
open Go.RowKit
section
variable {P:Program} {ops:Array Oper} {Q:Exit→Act→World→Prop}
def SC (c:List Value) (K:Nat→Bool) (p:Nat→Value→World→Prop) (i:Nat) (v:Value) (w:World):Prop:=if K i=true then p i v w else v=c.getD i undef
theorem SC.val {c:List Value} {K:Nat→Bool} {p:Nat→Value→World→Prop} {i:Nat} {v:Value} {w:World} (h:SC c K p i v w) (hk:K i=false):v=c.getD i undef:=by
 unfold SC at h;rwa [if_neg (by simp [hk])] at h
theorem SC.got {c:List Value} {K:Nat→Bool} {p:Nat→Value→World→Prop} {i:Nat} {v:Value} {w:World} (h:SC c K p i v w) (hk:K i=true):p i v w:=by
 unfold SC at h;rwa [if_pos hk] at h
theorem SC.ofV {c:List Value} {K:Nat→Bool} {p:Nat→Value→World→Prop} {i:Nat} {w:World} (hk:K i=false):SC c K p i (c.getD i undef) w:=by
 unfold SC;rw [if_neg (by simp [hk])]
theorem SC.ofP {c:List Value} {K:Nat→Bool} {p:Nat→Value→World→Prop} {i:Nat} {v:Value} {w:World} (hk:K i=true) (h:p i v w):SC c K p i v w:=by
 unfold SC;rwa [if_pos hk]
def RunsTo (P:Program) (ρ:Operand→Value) (o:Oper) (U:World) (Kk:Value→World→Prop):Prop:=
 (∃v V,(execOp ρ o).run P U= .ok (.value v) V∧Kk v V)∨(∃f args V,(execOp ρ o).run P U= .ok (.enter f args) V∧Calls P f args V fun e V'=> ∃v,e= .returned v∧Kk v V')
theorem RunsTo.wp {o:Oper} {a:Act} {U:World} {K:Act→World→Prop} (h:RunsTo P a.eval o U (fun v V=>K (a.put o.dst v) V)):o.wp P a U K Q:=by
 rcases h with ⟨v,V,hr,hk⟩ |⟨f,args,V,hr,hk⟩
 ·exact wp_val v hr hk
 ·exact wp_call f args hr hk
theorem RunsTo.mono {ρ:Operand→Value} {o:Oper} {U:World} {K K':Value→World→Prop} (h:RunsTo P ρ o U K) (hi: ∀v V,K v V→K' v V):RunsTo P ρ o U K':=by
 rcases h with ⟨v,V,hr,hk⟩ |⟨f,args,V,hr,hk⟩
 ·exact .inl ⟨v,V,hr,hi _ _ hk⟩
 ·exact .inr ⟨f,args,V,hr,hk.mono fun e V' ⟨v,he,h⟩=>⟨v,he,hi _ _ h⟩⟩
theorem RunsTo.val {ρ:Operand→Value} {o:Oper} {U V:World} {K:Value→World→Prop} (v:Value) (hr:(execOp ρ o).run P U= .ok (.value v) V) (h:K v V):RunsTo P ρ o U K:= .inl ⟨v,V,hr,h⟩
theorem RunsTo.call {ρ:Operand→Value} {o:Oper} {U V:World} {K:Value→World→Prop} (f:FuncId) (args:Array Value) (hr:(execOp ρ o).run P U= .ok (.enter f args) V) (h:Calls P f args V fun e V'=> ∃v,e= .returned v∧K v V'):RunsTo P ρ o U K:= .inr ⟨f,args,V,hr,h⟩
end
end Go.Proofs.YtcfoolooemhbeaaGreat
namespace Go.Proofs.YtcfoolooemhbeaaGreat
open Go.RowKit
section
variable {P:Program} {ops:Array Oper} {Q:Exit→Act→World→Prop}
def wantC (c:List Value) (o:Oper):Bool:=match o.guard with
 |none=>true
 |some (g,b)=>match c.getD g undef with
  | .bool v=>v==b
  |_=>false
def guardB (ops:Array Oper) (c:List Value) (K:Nat→Bool):Bool:=ops.all fun o=>match o.guard with
 |none=>true
 |some (g,_)=>(!K g)&&(match c.getD g undef with | .bool _=>true |_=>false)&&(o.after.any fun e=>e.on==g&&Region.binds .any e)
theorem guardB_spec {c:List Value} {K:Nat→Bool} (h:guardB ops c K=true) {i:Nat} {o:Oper} (ho:ops[i]? =some o) {g:Nat} {b:Bool} (hg:o.guard=some (g,b)):
  K g=false∧(∃v,c.getD g undef= .bool v)∧ ∃e ∈ o.after,e.on=g∧Region.binds .any e=true:=by
 have h1:=Array.all_eq_true_iff_forall_mem.1 h o (Array.mem_of_getElem? ho)
 rw [hg] at h1
 simp only [Bool.and_eq_true,Bool.not_eq_true'] at h1
 obtain ⟨⟨h2,h3⟩,h4⟩:=h1
 refine ⟨h2, ?_, ?_⟩
 ·revert h3
  cases c.getD g undef<;>intro h3<;>first |exact ⟨_,rfl⟩ |cases h3
 ·obtain ⟨k,hk,h5⟩:=Array.any_eq_true.1 h4
  simp only [Bool.and_eq_true,beq_iff_eq] at h5
  exact ⟨_,Array.getElem_mem hk,h5.1,h5.2⟩
end
end Go.Proofs.YtcfoolooemhbeaaGreat
namespace Go.Proofs.YtcfoolooemhbeaaGreat
open Go.RowKit
section
variable {P:Program} {ops:Array Oper} {Q:Exit→Act→World→Prop}
def mkL (a:Act) (D n r:Nat) (u:Nat→Value):Act:= {mkAt a D n u with tmps:=(mkAt a D n u).tmps.setIfInBounds r (u n)}
theorem mkAt_size (a:Act) {D n:Nat} (u:Nat→Value) (hs:D+n≤a.tmps.size):(mkAt a D n u).tmps.size=a.tmps.size:=by unfold mkAt;simp;omega
theorem mkAt_upd (a:Act) (D n:Nat) (u:Nat→Value) (v:Value):mkAt a D n (upd u n v)=mkAt a D n u:=by
 unfold mkAt
 have:(List.range n).map (upd u n v)=(List.range n).map u:=List.map_congr_left fun i hi=>upd_ne (by have:=List.mem_range.1 hi;omega) u v
 rw [this]
theorem mkL_put (a:Act) {D n r:Nat} (u:Nat→Value) (hs:D+n≤a.tmps.size) (hr:r <D) {i:Nat} (h:i <n) (v:Value):(mkL a D n r u).put (some (D+i)) v=mkL a D n r (upd u i v):=by
 have h1:=mkAt_put a u hs h v
 unfold mkL
 rw [←h1,upd_ne (show n≠i by omega)]
 show ({mkAt a D n u with tmps:=((mkAt a D n u).tmps.setIfInBounds r (u n)).setIfInBounds (D+i) v}:Act)= {mkAt a D n u with tmps:=((mkAt a D n u).tmps.setIfInBounds (D+i) v).setIfInBounds r (u n)}
 rw [Array.setIfInBounds_comm _ _ (by omega)]
theorem mkL_last (a:Act) {D n r:Nat} (u:Nat→Value) (v:Value):(mkL a D n r u).put (some r) v=mkL a D n r (upd u n v):=by
 unfold mkL
 rw [mkAt_upd,upd_self]
 show ({mkAt a D n u with tmps:=((mkAt a D n u).tmps.setIfInBounds r (u n)).setIfInBounds r v}:Act)=_
 rw [Array.setIfInBounds_setIfInBounds]
theorem mkL_get (a:Act) {D n r:Nat} (u:Nat→Value) {t:Nat} (h:t≠r):(mkL a D n r u).tmps[t]? =(mkAt a D n u).tmps[t]? :=by
 show ((mkAt a D n u).tmps.setIfInBounds r (u n))[t]? =_
 rw [Array.getElem?_setIfInBounds_ne (fun e=>h e.symm)]
theorem mkL_eval (a:Act) {D n r:Nat} (u:Nat→Value) (hs:D+n≤a.tmps.size) {t:Nat} (h:t <D) (hne:t≠r):(mkL a D n r u).eval (.tmp t)=a.eval (.tmp t):=by
 rw [←mkAt_eval a u hs h]
 show (mkL a D n r u).tmps.getD t undef=(mkAt a D n u).tmps.getD t undef
 rw [Array.getD_eq_getD_getElem?,Array.getD_eq_getD_getElem?,mkL_get a u hne]
theorem mkL_eval_in (a:Act) {D n r:Nat} (u:Nat→Value) (hs:D+n≤a.tmps.size) (hr:r <D) {i:Nat} (h:i <n):(mkL a D n r u).eval (.tmp (D+i))=u i:=by
 rw [←mkAt_eval_in a u hs h]
 show (mkL a D n r u).tmps.getD (D+i) undef=(mkAt a D n u).tmps.getD (D+i) undef
 rw [Array.getD_eq_getD_getElem?,Array.getD_eq_getD_getElem?,mkL_get a u (by omega)]
theorem mkL_res (a:Act) {D n r:Nat} (u:Nat→Value) (hs:D+n≤a.tmps.size) (hr:r <D):(mkL a D n r u).tmps[r]? =some (u n):=by
 show ((mkAt a D n u).tmps.setIfInBounds r (u n))[r]? =some (u n)
 rw [Array.getElem?_setIfInBounds,if_pos rfl,if_pos (by rw [mkAt_size a u hs];omega)]
theorem mkL_self (a:Act) {D n r:Nat} (hs:D+n≤a.tmps.size) (hr:r <D): ∃u,a=mkL a D n r u:=by
 refine ⟨fun i=>if i=n then a.tmps.getD r undef else a.tmps.getD (D+i) undef, ?_⟩
 have h0:=mkAt_self a hs
 have h1:mkAt a D n (fun i=>if i=n then a.tmps.getD r undef else a.tmps.getD (D+i) undef)=a:=by
  refine Eq.trans ?_ h0.symm
  unfold mkAt
  have:(List.range n).map (fun i=>if i=n then a.tmps.getD r undef else a.tmps.getD (D+i) undef)=(List.range n).map (fun i=>a.tmps.getD (D+i) undef):=List.map_congr_left fun i hi=>if_neg (by have:=List.mem_range.1 hi;omega)
  rw [this]
 unfold mkL
 rw [h1]
 simp only [if_true]
 have h2:a.tmps.setIfInBounds r (a.tmps.getD r undef)=a.tmps:=by
  apply Array.ext_getElem?
  intro t
  rw [Array.getElem?_setIfInBounds]
  by_cases h:r=t
  ·subst h
   rw [if_pos rfl,if_pos (by omega),Array.getD_eq_getD_getElem?,Array.getElem?_eq_getElem (by omega)]
   rfl
  ·rw [if_neg h]
 rw [h2]
theorem wp_region_H {id:Nat} {a:Act} {w:World} (D n r:Nat) (last:Oper) (hn:ops.size=n+1) (hlast:ops[n]? =some last) (hld:last.dst=some r) (hr:r <D) (hm:P.follows .mixedOrders=true) (hB:backB ops=true) (hD:dstB ops D n=true) (hsz:D+n≤a.tmps.size)
  (c:List Value) (K:Nat→Bool) (hgd:guardB ops c K=true) (p:Nat→Value→World→Prop) (EW:World→Prop)
  (h0:EW {w with drawn:=w.drawn+1}) (hEB: ∀U V,EW U→Below U.heap.size U V→EW V)
  (hst: ∀i v U V,K i=true→p i v U→Below U.heap.size U V→p i v V)
  (hun: ∀(i:Nat) (o:Oper),ops[i]? =some o→wantC c o=false→K i=false∧c.getD i undef=undef)
  (hop: ∀(i:Nat) (o:Oper),ops[i]? =some o→wantC c o=true→ ∀U,EW U→ ∀ρ:Operand→Value,(∀v,ρ (.const v)=v)→(∀f,ρ (.func f)= .func (.func f) #[] #[])→(∀t,t <D→t≠r→ρ (.tmp t)=a.eval (.tmp t))→(∀e ∈ o.after,Region.binds .any e=true→SC c K p e.on (ρ (.tmp (D+e.on))) U)→RunsTo P ρ o U (fun v V=>Below U.heap.size U V∧SC c K p i v V))
  (hend: ∀u U,EW U→(∀i,i <n+1→SC c K p i (u i) U)→Q .normal (mkL a D n r u) U):(Code.region id ops true).wp P Q a w:=by
 refine wp_region_any hm ?_
 obtain ⟨u0,hu0⟩:=mkL_self a hsz hr
 refine wpAny_inv (Inv:=fun l a' w=> ∃u,a'=mkL a D n r u∧EW w∧ ∀i,l[i]? =some true→SC c K p i (u i) w) hB ?_ ?_ _ _ _ _ (by simp) ?_ ?_
 ·rintro l a' w i o ⟨u,rfl,hE,hS⟩ hl ho hf hp
  have hio:=(Array.getElem?_eq_some_iff.1 ho).1
  have hupd: ∀v w',EW w'→Below w.heap.size w w'→SC c K p i v w'→ ∃u',(mkL a D n r u).put o.dst v=mkL a D n r u'∧EW w'∧ ∀k,(l.setIfInBounds i true)[k]? =some true→SC c K p k (u' k) w':=by
   intro v w' hE' hb hs
   refine ⟨upd u i v, ?_,hE',fun k hk=> ?_⟩
   ·by_cases hin:i <n
    ·rw [dstB_spec hD ho hin];exact mkL_put a u hsz hr hin v
    ·obtain rfl:i=n:=by omega
     rw [hlast] at ho
     injection ho with ho
     subst ho
     rw [hld]
     exact mkL_last a u v
   by_cases hki:k=i
   ·subst hki;rw [upd_self];exact hs
   ·rw [upd_ne hki]
    rw [Array.getElem?_setIfInBounds_ne (fun e=>hki e.symm)] at hk
    have h1:=hS k hk
    cases hkk:K k with
    |true=>exact SC.ofP hkk (hst k _ _ _ hkk (h1.got hkk) hb)
    |false=>
     have:=h1.val hkk
     rw [this]
     exact SC.ofV hkk
  have hw:Region.wanted o (yielded ops (mkL a D n r u).tmps)=wantC c o:=by
   unfold Region.wanted wantC
   rcases hg:o.guard with _ |⟨g,b⟩
   ·rfl
   ·obtain ⟨h1,⟨v,h2⟩,e,he,heg,hbn⟩:=guardB_spec hgd ho hg
    have hlt:=backB_spec hB ho e he
    rw [heg] at hlt
    have h3:=hS g (by rw [←heg];exact hp e he hbn)
    have h4:=h3.val h1
    rw [h2] at h4
    have hog:ops[g]? =some ops[g]:=Array.getElem?_eq_getElem (by omega)
    have hy:yielded ops (mkL a D n r u).tmps g=some v:=by
     unfold yielded
     rw [hog]
     simp only [Option.bind_some]
     rw [dstB_spec hD hog (by omega)]
     simp only [Option.bind_some]
     rw [mkL_get a u (by omega),mkAt_get a u hsz (D+g),if_neg (by omega),if_pos (by omega),show D+g -D=g by omega,h4]
    simp only [hy,h2]
    cases v<;>cases b<;>rfl
  unfold wpOp
  rw [ho]
  simp only [hw]
  cases hwc:wantC c o with
  |true=>
   simp only [if_true]
   refine .inl (RunsTo.wp ((hop i o ho hwc w hE _ (fun _=>rfl) (fun _=>rfl) (fun t ht hne=>mkL_eval a u hsz ht hne) (fun e he hb=> ?_)).mono fun v V ⟨hb,hs⟩=>hupd v V (hEB _ _ hE hb) hb hs))
   rw [mkL_eval_in a u hsz hr (by have:=backB_spec hB ho e he;omega)]
   exact hS e.on (hp e he hb)
  |false=>
   obtain ⟨h1,h2⟩:=hun i o ho hwc
   simp only [Bool.false_eq_true,if_false]
   refine hupd undef w hE (Below.refl _ _) ?_
   have:=SC.ofV (c:=c) (K:=K) (p:=p) (w:=w) h1
   rwa [h2] at this
 ·rintro l a' w ⟨u,rfl,hE,hS⟩ hl hall
  exact hend u w hE fun i hi=>hS i (hall i (by omega))
 ·have:(Array.replicate ops.size false).toList.count false=ops.size:=by simp
  omega
 ·refine ⟨u0,hu0,h0,fun i hi=> ?_⟩
  have:=(Array.getElem?_eq_some_iff.1 hi).2
  simp at this
end
end Go.Proofs.YtcfoolooemhbeaaGreat
