/-
  A region that draws its order, by an invariant: for each operation what holds of the value that it has left, once it has come up, in whatever order. It speaks of no program.
-/
import Derived.Orders
import Derived.Calls
import Derived.WalkKit
import Derived.Below
import Derived.Test.YteelncofiodflaaGreatCore
namespace Go.Proofs.YteelncofiodflaaGreat
open Go
section
variable {P:Program} {ops:Array Oper} {md:Region.Mode} {Q:Exit→Act→World→Prop}
def backB (ops:Array Oper):Bool:=(List.range ops.size).all fun i=>((ops[i]?).map fun o=>o.after.all fun e=>decide (e.on <i)).getD true
def plainB (ops:Array Oper):Bool:=ops.all fun o=>o.guard.isNone
theorem backB_spec (h:backB ops=true) {i:Nat} {o:Oper} (ho:ops[i]? =some o): ∀e ∈ o.after,e.on <i:=by
 intro e he
 unfold backB at h
 have hi:i <ops.size:=(Array.getElem?_eq_some_iff.1 ho).1
 have:=List.all_eq_true.1 h i (List.mem_range.2 hi)
 rw [ho] at this
 simp only [Option.map_some,Option.getD_some] at this
 exact of_decide_eq_true (Array.all_eq_true_iff_forall_mem.1 this e he)
theorem ready_spec {l:Array Bool} {i:Nat} (h:i ∈ Region.ready md ops l): ∃o,ops[i]? =some o∧l.getD i true=false∧ ∀e ∈ o.after,Region.binds md e=true→l.getD e.on false=true:=by
 unfold Region.ready at h
 obtain ⟨h1,h2⟩:=List.mem_filter.1 h
 have hi:=List.mem_range.1 h1
 have ho:ops[i]? =some ops[i]:=Array.getElem?_eq_getElem hi
 rw [ho] at h2
 simp only [Bool.and_eq_true,Option.map_some,Option.getD_some,Bool.not_eq_true'] at h2
 refine ⟨_,ho,h2.1,fun e he hb=> ?_⟩
 have h3:=Array.all_eq_true_iff_forall_mem.1 h2.2 e he
 rw [hb] at h3
 simpa using h3
theorem ready_of {l:Array Bool} {i:Nat} {o:Oper} (ho:ops[i]? =some o) (hl:l.getD i true=false) (hp: ∀e ∈ o.after,Region.binds md e=true→l.getD e.on false=true):i ∈ Region.ready md ops l:=by
 unfold Region.ready
 refine List.mem_filter.2 ⟨List.mem_range.2 (Array.getElem?_eq_some_iff.1 ho).1, ?_⟩
 rw [ho]
 simp only [hl,Bool.not_false,Option.map_some,Option.getD_some,Bool.true_and]
 refine Array.all_eq_true_iff_forall_mem.2 fun e he=> ?_
 cases hb:Region.binds md e
 ·rfl
 ·simpa using hp e he hb
theorem getD_some {l:Array Bool} {i:Nat} {d b:Bool} (h:l[i]? =some b):l.getD i d=b:=by
 rw [Array.getD_eq_getD_getElem?,h];rfl
theorem ready_nil (hB:backB ops=true) {l:Array Bool} (hl:l.size=ops.size) (hr:Region.ready md ops l= []): ∀i,i <ops.size→l[i]? =some true:=by
 intro i
 induction i using Nat.strongRecOn with
 |ind i ih=>
  intro hi
  have hli:l[i]? =some l[i]:=Array.getElem?_eq_getElem (by omega)
  cases hb:l[i] with
  |true=>rw [hli,hb]
  |false=>
   exfalso
   have ho:ops[i]? =some ops[i]:=Array.getElem?_eq_getElem hi
   have:i ∈ Region.ready md ops l:=ready_of ho (by rw [getD_some hli];exact hb) fun e he _=>by
    have h1:=backB_spec hB ho e he
    exact getD_some (ih e.on h1 (by omega))
   rw [hr] at this
   cases this
theorem count_set {l:Array Bool} {i:Nat} (h:l[i]? =some false):(l.setIfInBounds i true).toList.count false+1=l.toList.count false:=by
 have hi:i <l.toList.length:=by
  have:=(Array.getElem?_eq_some_iff.1 h).1
  simpa using this
 have hv:l.toList[i]=false:=by
  have:=(Array.getElem?_eq_some_iff.1 h).2
  simpa using this
 have hpos:0 <l.toList.count false:=List.count_pos_iff.2 (by rw [←hv];exact List.getElem_mem hi)
 have h2:=List.count_set (a:=true) (b:=false) hi
 rw [hv,if_pos (by rfl),if_neg (by decide)] at h2
 rw [Array.toList_setIfInBounds,h2]
 omega
theorem wpAny_inv {Inv:Array Bool→Act→World→Prop} (hB:backB ops=true)
  (hs: ∀l a w i o,Inv l a w→l.size=ops.size→ops[i]? =some o→l[i]? =some false→(∀e ∈ o.after,Region.binds md e=true→l[e.on]? =some true)→wpOp P ops Q i (Inv (l.setIfInBounds i true)) a w)
  (he: ∀l a w,Inv l a w→l.size=ops.size→(∀i,i <ops.size→l[i]? =some true)→Q .normal a w):
  ∀(fuel:Nat) (l:Array Bool) (a:Act) (w:World),l.size=ops.size→l.toList.count false≤fuel→Inv l a w→wpAny P md ops Q fuel l a w
 |0,l,a,w,hl,hc,hI=>by
  have hall: ∀i,i <ops.size→l[i]? =some true:=fun i hi=>by
   have hli:l[i]? =some l[i]:=Array.getElem?_eq_getElem (by omega)
   cases hb:l[i] with
   |true=>rw [hli,hb]
   |false=>
    exfalso
    have:0 <l.toList.count false:=List.count_pos_iff.2 (by rw [←hb];simp)
    omega
  refine ⟨?_,he l a w hI hl hall⟩
  cases hr:Region.ready md ops l with
  |nil=>rfl
  |cons i r=>
   exfalso
   obtain ⟨o,ho,h1,_⟩:=ready_spec (md:=md) (ops:=ops) (l:=l) (i:=i) (by rw [hr];simp)
   rw [getD_some (hall i (Array.getElem?_eq_some_iff.1 ho).1)] at h1
   cases h1
 |fuel+1,l,a,w,hl,hc,hI=>by
  refine ⟨fun hr=>he l a w hI hl (ready_nil hB hl hr),fun i hi=> ?_⟩
  obtain ⟨o,ho,h1,h2⟩:=ready_spec hi
  have hio:=(Array.getElem?_eq_some_iff.1 ho).1
  have hli:l[i]? =some l[i]:=Array.getElem?_eq_getElem (by omega)
  have hf:l[i]? =some false:=by rw [getD_some hli] at h1;rw [hli,h1]
  refine wpOp_mono (fun a' w' hI'=>wpAny_inv hB hs he fuel _ a' w' (by simpa using hl) (by have:=count_set hf;omega) hI') (hs l a w i o hI hl ho hf fun e he2 hb=> ?_)
  have h3:=h2 e he2 hb
  have h4:=backB_spec hB ho e he2
  have hle:l[e.on]? =some l[e.on]:=Array.getElem?_eq_getElem (by omega)
  rw [getD_some hle] at h3
  rw [hle,h3]
def upd (u:Nat→Value) (i:Nat) (v:Value):Nat→Value:=fun j=>if j=i then v else u j
theorem upd_self (u:Nat→Value) (i:Nat) (v:Value):upd u i v i=v:=if_pos rfl
theorem upd_ne {i j:Nat} (h:j≠i) (u:Nat→Value) (v:Value):upd u i v j=u j:=if_neg h
theorem wp_region_S {id:Nat} {a:Act} {w:World} (hm:P.follows .mixedOrders=true) (hB:backB ops=true) (hG:plainB ops=true)
  (mk:(Nat→Value)→Act) (u0:Nat→Value) (ha:a=mk u0) (hput: ∀(i:Nat) (o:Oper),ops[i]? =some o→ ∀u v,(mk u).put o.dst v=mk (upd u i v))
  (S:Nat→(Nat→Value)→World→Prop) (E:(Nat→Value)→World→Prop) (Le:Nat→(Nat→Value)→World→World→Prop)
  (hE0:E u0 {w with drawn:=w.drawn+1})
  (hst: ∀i j u w w',i≠j→E u w→S i u w→Le j u w w'→S i u w')
  (hloc: ∀(i:Nat) (o:Oper),ops[i]? =some o→ ∀j u v w,j≠i→(∀e ∈ o.after,Region.binds .any e=true→e.on≠j)→S i u w→S i (upd u j v) w)
  (hop: ∀(i:Nat) (o:Oper),ops[i]? =some o→ ∀u w,E u w→(∀e ∈ o.after,Region.binds .any e=true→S e.on u w)→ ∀K:Act→World→Prop,(∀v w',E (upd u i v) w'→Le i u w w'→S i (upd u i v) w'→K ((mk u).put o.dst v) w')→o.wp P (mk u) w K Q)
  (hend: ∀u w,E u w→(∀i,i <ops.size→S i u w)→Q .normal (mk u) w):(Code.region id ops true).wp P Q a w:=by
 refine wp_region_any hm ?_
 refine wpAny_inv (Inv:=fun l a w=>(∀(i:Nat) (o:Oper),ops[i]? =some o→l[i]? =some true→ ∀e ∈ o.after,Region.binds .any e=true→l[e.on]? =some true)∧ ∃u,a=mk u∧E u w∧ ∀i,l[i]? =some true→S i u w) hB ?_ ?_ _ _ _ _ (by simp) ?_ ?_
 ·rintro l a w i o ⟨hcl,u,rfl,hE,hS⟩ hl ho hf hp
  have hio:=(Array.getElem?_eq_some_iff.1 ho).1
  have hg:o.guard=none:=by
   have h1:=Array.all_eq_true_iff_forall_mem.1 hG o (Array.mem_of_getElem? ho)
   simpa using h1
  have hw:Region.wanted o (yielded ops (mk u).tmps)=true:=by simp [Region.wanted,hg]
  unfold wpOp
  rw [ho]
  simp only [hw,if_true]
  refine .inl (hop i o ho u w hE (fun e he hb=>hS e.on (hp e he hb)) _ fun v w' hE' hle hSi=> ?_)
  refine ⟨?_,upd u i v,hput i o ho u v,hE', ?_⟩
  ·intro k ok hok hk e he hb
   by_cases hki:k=i
   ·subst hki
    rw [ho] at hok
    injection hok with hok
    subst hok
    have hlt:=backB_spec hB ho e he
    rw [Array.getElem?_setIfInBounds_ne (by omega)]
    exact hp e he hb
   ·rw [Array.getElem?_setIfInBounds_ne (fun e=>hki e.symm)] at hk
    have h5:=hcl k ok hok hk e he hb
    by_cases hei:e.on=i
    ·rw [hei,Array.getElem?_setIfInBounds_self]
     rw [if_pos (by omega)]
    ·rw [Array.getElem?_setIfInBounds_ne (fun e=>hei e.symm)]
     exact h5
  ·intro k hk
   by_cases hki:k=i
   ·subst hki;exact hSi
   ·rw [Array.getElem?_setIfInBounds_ne (fun e=>hki e.symm)] at hk
    have hkl:k <ops.size:=by have:=(Array.getElem?_eq_some_iff.1 hk).1;omega
    have hok:ops[k]? =some ops[k]:=Array.getElem?_eq_getElem hkl
    refine hloc k _ hok i u v w' (fun e=>hki e.symm) (fun e he hb hei=> ?_) (hst k i _ _ _ hki hE (hS k hk) hle)
    have:=hcl k _ hok hk e he hb
    rw [hei,hf] at this
    cases this
 ·rintro l a w ⟨_,u,rfl,hE,hS⟩ hl hall
  exact hend u w hE fun i hi=>hS i (hall i hi)
 ·have:(Array.replicate ops.size false).toList.count false=ops.size:=by simp
  omega
 ·refine ⟨fun i o ho hi=> ?_,u0,ha,hE0,fun i hi=> ?_⟩
  ·have:=(Array.getElem?_eq_some_iff.1 hi).2
   simp at this
  ·have:=(Array.getElem?_eq_some_iff.1 hi).2
   simp at this
def mkAt (a:Act) (D k:Nat) (u:Nat→Value):Act:= {a with tmps:=(a.tmps.toList.take D++(List.range k).map u++a.tmps.toList.drop (D+k)).toArray}
theorem mkAt_get (a:Act) {D k:Nat} (u:Nat→Value) (hs:D+k≤a.tmps.size) (t:Nat):(mkAt a D k u).tmps[t]? =if t <D then a.tmps[t]? else if t <D+k then some (u (t -D)) else a.tmps[t]? :=by
 unfold mkAt
 simp only [List.getElem?_toArray]
 have hl:(a.tmps.toList.take D).length=D:=by simp;omega
 have hl2:(a.tmps.toList.take D++(List.range k).map u).length=D+k:=by simp;omega
 by_cases h1:t <D
 ·rw [if_pos h1,List.append_assoc,List.getElem?_append_left (by omega),List.getElem?_take_of_lt h1]
  simp
 ·rw [if_neg h1]
  by_cases h2:t <D+k
  ·rw [if_pos h2,List.getElem?_append_left (by omega),List.getElem?_append_right (by omega),hl]
   rw [List.getElem?_map,List.getElem?_range (by omega)]
   rfl
  ·rw [if_neg h2,List.getElem?_append_right (by omega),hl2,List.getElem?_drop,show D+k+(t -(D+k))=t by omega]
   simp
theorem mkAt_eval (a:Act) {D k:Nat} (u:Nat→Value) (hs:D+k≤a.tmps.size) {t:Nat} (h:t <D):(mkAt a D k u).eval (.tmp t)=a.eval (.tmp t):=by
 show (mkAt a D k u).tmps.getD t undef=a.tmps.getD t undef
 rw [Array.getD_eq_getD_getElem?,Array.getD_eq_getD_getElem?,mkAt_get a u hs t,if_pos h]
theorem mkAt_eval_in (a:Act) {D k:Nat} (u:Nat→Value) (hs:D+k≤a.tmps.size) {i:Nat} (h:i <k):(mkAt a D k u).eval (.tmp (D+i))=u i:=by
 show (mkAt a D k u).tmps.getD (D+i) undef=u i
 rw [Array.getD_eq_getD_getElem?,mkAt_get a u hs (D+i),if_neg (show ¬D+i <D by omega),if_pos (show D+i <D+k by omega),show D+i -D=i by omega]
 rfl
theorem mkAt_put (a:Act) {D k:Nat} (u:Nat→Value) (hs:D+k≤a.tmps.size) {i:Nat} (h:i <k) (v:Value):(mkAt a D k u).put (some (D+i)) v=mkAt a D k (upd u i v):=by
 have e:((mkAt a D k u).tmps.setIfInBounds (D+i) v)=(mkAt a D k (upd u i v)).tmps:=by
  apply Array.ext_getElem?
  intro t
  rw [Array.getElem?_setIfInBounds]
  have hsz:(mkAt a D k u).tmps.size=a.tmps.size:=by unfold mkAt;simp;omega
  rw [hsz,mkAt_get a u hs,mkAt_get a (upd u i v) hs]
  by_cases ht:D+i=t
  ·subst ht
   rw [if_pos rfl,if_pos (by omega),if_neg (by omega),if_pos (by omega),show D+i -D=i by omega,upd_self]
  ·rw [if_neg ht]
   by_cases h1:t <D
   ·rw [if_pos h1,if_pos h1]
   ·rw [if_neg h1,if_neg h1]
    by_cases h2:t <D+k
    ·rw [if_pos h2,if_pos h2,upd_ne (by omega)]
    ·rw [if_neg h2,if_neg h2]
 unfold Act.put
 show ({mkAt a D k u with tmps:=(mkAt a D k u).tmps.setIfInBounds (D+i) v}:Act)=_
 rw [e]
 rfl
theorem mkAt_self (a:Act) {D k:Nat} (hs:D+k≤a.tmps.size):a=mkAt a D k (fun i=>a.tmps.getD (D+i) undef):=by
 have e:a.tmps=(mkAt a D k (fun i=>a.tmps.getD (D+i) undef)).tmps:=by
  apply Array.ext_getElem?
  intro t
  rw [mkAt_get a _ hs]
  by_cases h1:t <D
  ·rw [if_pos h1]
  ·rw [if_neg h1]
   by_cases h2:t <D+k
   ·rw [if_pos h2,Array.getD_eq_getD_getElem?,show D+(t -D)=t by omega,Array.getElem?_eq_getElem (by omega)]
    rfl
   ·rw [if_neg h2]
 have:mkAt a D k (fun i=>a.tmps.getD (D+i) undef)= {a with tmps:=(mkAt a D k (fun i=>a.tmps.getD (D+i) undef)).tmps}:=rfl
 rw [this, ←e]
theorem wp_val {P:Program} {o:Oper} {a:Act} {w w':World} {K:Act→World→Prop} {Q:Exit→Act→World→Prop} (v:Value) (hr:(execOp a.eval o).run P w= .ok (.value v) w') (h:K (a.put o.dst v) w'):o.wp P a w K Q:=by
 unfold Oper.wp;rw [hr];exact h
theorem wp_skip {P:Program} {o:Oper} {a:Act} {w w':World} {K:Act→World→Prop} {Q:Exit→Act→World→Prop} (hr:(execOp a.eval o).run P w= .ok .skip w') (h:K (a.put o.dst undef) w'):o.wp P a w K Q:=by
 unfold Oper.wp;rw [hr];exact h
theorem wp_call {P:Program} {o:Oper} {a:Act} {w w':World} {K:Act→World→Prop} {Q:Exit→Act→World→Prop} (f:FuncId) (args:Array Value) (hr:(execOp a.eval o).run P w= .ok (.enter f args) w') (h:Calls P f args w' (fun e w''=> ∃v,e= .returned v∧K (a.put o.dst v) w'')):o.wp P a w K Q:=by
 unfold Oper.wp;rw [hr]
 exact h.mono fun e w'' ⟨v,he,hk⟩=>by subst he;exact hk
end
end Go.Proofs.YteelncofiodflaaGreat
namespace Go.Proofs.YteelncofiodflaaGreat
open Go.RowKit
section
variable {P:Program} {ops:Array Oper} {Q:Exit→Act→World→Prop}
def dstB (ops:Array Oper) (D n:Nat):Bool:=(List.range n).all fun i=>((ops[i]?).map fun o=>o.dst==some (D+i)).getD false
theorem dstB_spec {D n:Nat} (h:dstB ops D n=true) {i:Nat} {o:Oper} (ho:ops[i]? =some o) (hi:i <n):o.dst=some (D+i):=by
 have h1:=List.all_eq_true.1 h i (List.mem_range.2 hi)
 rw [ho] at h1
 simpa using h1
def SA (c:List Value) (k1 k2:Nat) (p1 p2:Value→World→Prop) (i:Nat) (u:Nat→Value) (w:World):Prop:=
 if i=k1 then p1 (u k1) w else if i=k2 then p2 (u k2) w else u i=c.getD i undef
theorem SA.c {c:List Value} {k1 k2:Nat} {p1 p2:Value→World→Prop} {i:Nat} {u:Nat→Value} {w:World} (h1:i≠k1) (h2:i≠k2):SA c k1 k2 p1 p2 i u w↔u i=c.getD i undef:=by
 unfold SA;rw [if_neg h1,if_neg h2]
end
end Go.Proofs.YteelncofiodflaaGreat
namespace Go.Proofs.YteelncofiodflaaGreat
open Go.RowKit
section
variable {P:Program} {ops:Array Oper} {Q:Exit→Act→World→Prop}
def SC (c:List Value) (K:Nat→Bool) (p:Nat→Value→World→Prop) (i:Nat) (v:Value) (w:World):Prop:=if K i=true then p i v w else v=c.getD i undef
theorem SC.val {c:List Value} {K:Nat→Bool} {p:Nat→Value→World→Prop} {i:Nat} {v:Value} {w:World} (h:SC c K p i v w) (hk:K i=false):v=c.getD i undef:=by
 unfold SC at h;rwa [if_neg (by simp [hk])] at h
theorem SC.got {c:List Value} {K:Nat→Bool} {p:Nat→Value→World→Prop} {i:Nat} {v:Value} {w:World} (h:SC c K p i v w) (hk:K i=true):p i v w:=by
 unfold SC at h;rwa [if_pos hk] at h
theorem SC.ofV {c:List Value} {K:Nat→Bool} {p:Nat→Value→World→Prop} {i:Nat} {w:World} (hk:K i=false):SC c K p i (c.getD i undef) w:=by
 unfold SC;rw [if_neg (by simp [hk])]
theorem SC.ofP {c:List Value} {K:Nat→Bool} {p:Nat→Value→World→Prop} {i:Nat} {v:Value} {w:World} (hk:K i=true) (h:p i v w):SC c K p i v w:=by
 unfold SC;rwa [if_pos hk]
def RunsTo (P:Program) (ρ:Operand→Value) (o:Oper) (U:World) (Kk:Value→World→Prop):Prop:=
 (∃v V,(execOp ρ o).run P U= .ok (.value v) V∧Kk v V)∨(∃f args V,(execOp ρ o).run P U= .ok (.enter f args) V∧Calls P f args V fun e V'=> ∃v,e= .returned v∧Kk v V')
theorem RunsTo.wp {o:Oper} {a:Act} {U:World} {K:Act→World→Prop} (h:RunsTo P a.eval o U (fun v V=>K (a.put o.dst v) V)):o.wp P a U K Q:=by
 rcases h with ⟨v,V,hr,hk⟩ |⟨f,args,V,hr,hk⟩
 ·exact wp_val v hr hk
 ·exact wp_call f args hr hk
theorem RunsTo.mono {ρ:Operand→Value} {o:Oper} {U:World} {K K':Value→World→Prop} (h:RunsTo P ρ o U K) (hi: ∀v V,K v V→K' v V):RunsTo P ρ o U K':=by
 rcases h with ⟨v,V,hr,hk⟩ |⟨f,args,V,hr,hk⟩
 ·exact .inl ⟨v,V,hr,hi _ _ hk⟩
 ·exact .inr ⟨f,args,V,hr,hk.mono fun e V' ⟨v,he,h⟩=>⟨v,he,hi _ _ h⟩⟩
theorem RunsTo.val {ρ:Operand→Value} {o:Oper} {U V:World} {K:Value→World→Prop} (v:Value) (hr:(execOp ρ o).run P U= .ok (.value v) V) (h:K v V):RunsTo P ρ o U K:= .inl ⟨v,V,hr,h⟩
theorem RunsTo.call {ρ:Operand→Value} {o:Oper} {U V:World} {K:Value→World→Prop} (f:FuncId) (args:Array Value) (hr:(execOp ρ o).run P U= .ok (.enter f args) V) (h:Calls P f args V fun e V'=> ∃v,e= .returned v∧K v V'):RunsTo P ρ o U K:= .inr ⟨f,args,V,hr,h⟩
end
end Go.Proofs.YteelncofiodflaaGreat
namespace Go.Proofs.YteelncofiodflaaGreat
open Go.RowKit
end Go.Proofs.YteelncofiodflaaGreat
namespace Go.Proofs.YteelncofiodflaaGreat
open Go.RowKit
section
variable {P:Program} {ops:Array Oper} {Q:Exit→Act→World→Prop}
def mkL (a:Act) (D n r:Nat) (u:Nat→Value):Act:= {mkAt a D n u with tmps:=(mkAt a D n u).tmps.setIfInBounds r (u n)}
theorem mkAt_upd (a:Act) (D n:Nat) (u:Nat→Value) (v:Value):mkAt a D n (upd u n v)=mkAt a D n u:=by
 unfold mkAt
 have:(List.range n).map (upd u n v)=(List.range n).map u:=List.map_congr_left fun i hi=>upd_ne (by have:=List.mem_range.1 hi;omega) u v
 rw [this]
theorem mkL_put (a:Act) {D n r:Nat} (u:Nat→Value) (hs:D+n≤a.tmps.size) (hr:r <D) {i:Nat} (h:i <n) (v:Value):(mkL a D n r u).put (some (D+i)) v=mkL a D n r (upd u i v):=by
 have h1:=mkAt_put a u hs h v
 unfold mkL
 rw [←h1,upd_ne (show n≠i by omega)]
 show ({mkAt a D n u with tmps:=((mkAt a D n u).tmps.setIfInBounds r (u n)).setIfInBounds (D+i) v}:Act)= {mkAt a D n u with tmps:=((mkAt a D n u).tmps.setIfInBounds (D+i) v).setIfInBounds r (u n)}
 rw [Array.setIfInBounds_comm _ _ (by omega)]
theorem mkL_last (a:Act) {D n r:Nat} (u:Nat→Value) (v:Value):(mkL a D n r u).put (some r) v=mkL a D n r (upd u n v):=by
 unfold mkL
 rw [mkAt_upd,upd_self]
 show ({mkAt a D n u with tmps:=((mkAt a D n u).tmps.setIfInBounds r (u n)).setIfInBounds r v}:Act)=_
 rw [Array.setIfInBounds_setIfInBounds]
theorem mkL_get (a:Act) {D n r:Nat} (u:Nat→Value) {t:Nat} (h:t≠r):(mkL a D n r u).tmps[t]? =(mkAt a D n u).tmps[t]? :=by
 show ((mkAt a D n u).tmps.setIfInBounds r (u n))[t]? =_
 rw [Array.getElem?_setIfInBounds_ne (fun e=>h e.symm)]
theorem mkL_eval (a:Act) {D n r:Nat} (u:Nat→Value) (hs:D+n≤a.tmps.size) {t:Nat} (h:t <D) (hne:t≠r):(mkL a D n r u).eval (.tmp t)=a.eval (.tmp t):=by
 rw [←mkAt_eval a u hs h]
 show (mkL a D n r u).tmps.getD t undef=(mkAt a D n u).tmps.getD t undef
 rw [Array.getD_eq_getD_getElem?,Array.getD_eq_getD_getElem?,mkL_get a u hne]
theorem mkL_eval_in (a:Act) {D n r:Nat} (u:Nat→Value) (hs:D+n≤a.tmps.size) (hr:r <D) {i:Nat} (h:i <n):(mkL a D n r u).eval (.tmp (D+i))=u i:=by
 rw [←mkAt_eval_in a u hs h]
 show (mkL a D n r u).tmps.getD (D+i) undef=(mkAt a D n u).tmps.getD (D+i) undef
 rw [Array.getD_eq_getD_getElem?,Array.getD_eq_getD_getElem?,mkL_get a u (by omega)]
theorem mkL_self (a:Act) {D n r:Nat} (hs:D+n≤a.tmps.size) (hr:r <D): ∃u,a=mkL a D n r u:=by
 refine ⟨fun i=>if i=n then a.tmps.getD r undef else a.tmps.getD (D+i) undef, ?_⟩
 have h0:=mkAt_self a hs
 have h1:mkAt a D n (fun i=>if i=n then a.tmps.getD r undef else a.tmps.getD (D+i) undef)=a:=by
  refine Eq.trans ?_ h0.symm
  unfold mkAt
  have:(List.range n).map (fun i=>if i=n then a.tmps.getD r undef else a.tmps.getD (D+i) undef)=(List.range n).map (fun i=>a.tmps.getD (D+i) undef):=List.map_congr_left fun i hi=>if_neg (by have:=List.mem_range.1 hi;omega)
  rw [this]
 unfold mkL
 rw [h1]
 simp only [if_true]
 have h2:a.tmps.setIfInBounds r (a.tmps.getD r undef)=a.tmps:=by
  apply Array.ext_getElem?
  intro t
  rw [Array.getElem?_setIfInBounds]
  by_cases h:r=t
  ·subst h
   rw [if_pos rfl,if_pos (by omega),Array.getD_eq_getD_getElem?,Array.getElem?_eq_getElem (by omega)]
   rfl
  ·rw [if_neg h]
 rw [h2]
end
end Go.Proofs.YteelncofiodflaaGreat
