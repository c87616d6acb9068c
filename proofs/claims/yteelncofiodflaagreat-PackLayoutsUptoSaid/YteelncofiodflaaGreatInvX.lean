/-
  A region that draws its order: reads that leave known values, calls and other operations that make memory and leave a value of which something is known, no last operation: one way, whatever order comes up. It speaks of no program.
-/
import Derived.Test.YteelncofiodflaaGreatInvZ
import Derived.Below
import Derived.Test.YteelncofiodflaaGreatCore
namespace Go.Proofs.YteelncofiodflaaGreat
open Go.RowKit
section
variable {P:Program} {ops:Array Oper} {Q:Exit→Act→World→Prop}
theorem wp_region_CA {id:Nat} {a:Act} {w:World} (D n:Nat) (hn:ops.size=n) (hm:P.follows .mixedOrders=true) (hB:backB ops=true) (hG:plainB ops=true) (hD:dstB ops D n=true) (hsz:D+n≤a.tmps.size)
  (c:List Value) (K:Nat→Bool) (p:Nat→Value→World→Prop) (EW:World→Prop)
  (h0:EW {w with drawn:=w.drawn+1}) (hEB: ∀U V,EW U→Below U.heap.size U V→EW V)
  (hst: ∀i v U V,K i=true→p i v U→Below U.heap.size U V→p i v V)
  (hop: ∀(i:Nat) (o:Oper),ops[i]? =some o→i <n→ ∀U,EW U→ ∀ρ:Operand→Value,(∀v,ρ (.const v)=v)→(∀f,ρ (.func f)= .func (.func f) #[] #[])→(∀t,t <D→ρ (.tmp t)=a.eval (.tmp t))→(∀e ∈ o.after,Region.binds .any e=true→SC c K p e.on (ρ (.tmp (D+e.on))) U)→RunsTo P ρ o U (fun v V=>Below U.heap.size U V∧SC c K p i v V))
  (hend: ∀u U,EW U→(∀i,i <n→SC c K p i (u i) U)→Q .normal (mkAt a D n u) U):(Code.region id ops true).wp P Q a w:=by
 refine wp_region_S hm hB hG (mkAt a D n) _ (mkAt_self a hsz) (fun i o ho u v=> ?_) (fun i u w=>SC c K p i (u i) w)
  (fun _ w=>EW w) (fun _ _ w w'=>Below w.heap.size w w') h0 ?_ ?_ ?_ ?_
 ·have hi:i <n:=by rw [←hn];exact (Array.getElem?_eq_some_iff.1 ho).1
  rw [dstB_spec hD ho hi];exact mkAt_put a u hsz hi v
 ·intro i j u w w' _ _ hS hb
  cases hk:K i with
  |true=>exact SC.ofP hk (hst i _ _ _ hk (hS.got hk) hb)
  |false=>
   have:=hS.val hk
   rw [this]
   exact SC.ofV hk
 ·intro i o ho j u v w hij _ hS
  show SC c K p i (upd u j v i) w
  rw [upd_ne (Ne.symm hij)]
  exact hS
 ·intro i o ho u w hE hp Kk hK
  have hi:i <n:=by rw [←hn];exact (Array.getElem?_eq_some_iff.1 ho).1
  refine RunsTo.wp ((hop i o ho hi w hE _ (fun _=>rfl) (fun _=>rfl) (fun t ht=>mkAt_eval a u hsz ht) (fun e he hb=> ?_)).mono fun v V ⟨hb,hs⟩=> ?_)
  ·rw [mkAt_eval_in a u hsz (by have:=backB_spec hB ho e he;omega)]
   exact hp e he hb
  ·exact hK v V (hEB _ _ hE hb) hb (by show SC c K p i (upd u i v i) V;rw [upd_self];exact hs)
 ·intro u w hE hS
  exact hend u w hE fun i hi=>hS i (by omega)
end
end Go.Proofs.YteelncofiodflaaGreat
namespace Go.Proofs.YteelncofiodflaaGreat
open Go
section
variable {P:Program} {ops:Array Oper} {Q:Exit→Act→World→Prop}
def backS (ops:Array Oper):Bool:=(List.range ops.size).all fun i=>((ops[i]?).map fun o=>o.after.all fun e=> !Region.binds .any e||decide (e.on <i)).getD true
theorem backS_spec (h:backS ops=true) {i:Nat} {o:Oper} (ho:ops[i]? =some o): ∀e ∈ o.after,Region.binds .any e=true→e.on <i:=by
 intro e he hb
 unfold backS at h
 have hi:i <ops.size:=(Array.getElem?_eq_some_iff.1 ho).1
 have:=List.all_eq_true.1 h i (List.mem_range.2 hi)
 rw [ho] at this
 simp only [Option.map_some,Option.getD_some] at this
 have h2:=Array.all_eq_true_iff_forall_mem.1 this e he
 rw [hb] at h2
 simpa using h2
theorem ready_nilS (hB:backS ops=true) {l:Array Bool} (hl:l.size=ops.size) (hr:Region.ready .any ops l= []): ∀i,i <ops.size→l[i]? =some true:=by
 intro i
 induction i using Nat.strongRecOn with
 |ind i ih=>
  intro hi
  have hli:l[i]? =some l[i]:=Array.getElem?_eq_getElem (by omega)
  cases hb:l[i] with
  |true=>rw [hli,hb]
  |false=>
   exfalso
   have ho:ops[i]? =some ops[i]:=Array.getElem?_eq_getElem hi
   have:i ∈ Region.ready .any ops l:=ready_of ho (by rw [getD_some hli];exact hb) fun e he hbn=>by
    have h1:=backS_spec hB ho e he hbn
    exact getD_some (ih e.on h1 (by omega))
   rw [hr] at this
   cases this
theorem wpAny_invA {Inv:Array Bool→Act→World→Prop} (hB:backS ops=true)
  (hs: ∀l a w i o,Inv l a w→l.size=ops.size→ops[i]? =some o→l[i]? =some false→(∀e ∈ o.after,Region.binds .any e=true→l[e.on]? =some true)→wpOp P ops Q i (Inv (l.setIfInBounds i true)) a w)
  (he: ∀l a w,Inv l a w→l.size=ops.size→(∀i,i <ops.size→l[i]? =some true)→Q .normal a w):
  ∀(fuel:Nat) (l:Array Bool) (a:Act) (w:World),l.size=ops.size→l.toList.count false≤fuel→Inv l a w→wpAny P .any ops Q fuel l a w
 |0,l,a,w,hl,hc,hI=>by
  have hall: ∀i,i <ops.size→l[i]? =some true:=fun i hi=>by
   have hli:l[i]? =some l[i]:=Array.getElem?_eq_getElem (by omega)
   cases hb:l[i] with
   |true=>rw [hli,hb]
   |false=>
    exfalso
    have:0 <l.toList.count false:=List.count_pos_iff.2 (by rw [←hb];simp)
    omega
  refine ⟨?_,he l a w hI hl hall⟩
  cases hr:Region.ready .any ops l with
  |nil=>rfl
  |cons i r=>
   exfalso
   obtain ⟨o,ho,h1,_⟩:=ready_spec (md:= .any) (ops:=ops) (l:=l) (i:=i) (by rw [hr];simp)
   rw [getD_some (hall i (Array.getElem?_eq_some_iff.1 ho).1)] at h1
   cases h1
 |fuel+1,l,a,w,hl,hc,hI=>by
  refine ⟨fun hr=>he l a w hI hl (ready_nilS hB hl hr),fun i hi=> ?_⟩
  obtain ⟨o,ho,h1,h2⟩:=ready_spec hi
  have hio:=(Array.getElem?_eq_some_iff.1 ho).1
  have hli:l[i]? =some l[i]:=Array.getElem?_eq_getElem (by omega)
  have hf:l[i]? =some false:=by rw [getD_some hli] at h1;rw [hli,h1]
  refine wpOp_mono (fun a' w' hI'=>wpAny_invA hB hs he fuel _ a' w' (by simpa using hl) (by have:=count_set hf;omega) hI') (hs l a w i o hI hl ho hf fun e he2 hb=> ?_)
  have h3:=h2 e he2 hb
  have h4:=backS_spec hB ho e he2 hb
  have hle:l[e.on]? =some l[e.on]:=Array.getElem?_eq_getElem (by omega)
  rw [getD_some hle] at h3
  rw [hle,h3]
theorem wp_region_SA {id:Nat} {a:Act} {w:World} (hm:P.follows .mixedOrders=true) (hB:backS ops=true) (hG:plainB ops=true)
  (mk:(Nat→Value)→Act) (u0:Nat→Value) (ha:a=mk u0) (hput: ∀(i:Nat) (o:Oper),ops[i]? =some o→ ∀u v,(mk u).put o.dst v=mk (upd u i v))
  (S:Nat→(Nat→Value)→World→Prop) (E:(Nat→Value)→World→Prop) (Le:Nat→(Nat→Value)→World→World→Prop)
  (hE0:E u0 {w with drawn:=w.drawn+1})
  (hst: ∀i j u w w',i≠j→E u w→S i u w→Le j u w w'→S i u w')
  (hloc: ∀(i:Nat) (o:Oper),ops[i]? =some o→ ∀j u v w,j≠i→(∀e ∈ o.after,Region.binds .any e=true→e.on≠j)→S i u w→S i (upd u j v) w)
  (hop: ∀(i:Nat) (o:Oper),ops[i]? =some o→ ∀u w,E u w→(∀e ∈ o.after,Region.binds .any e=true→S e.on u w)→ ∀K:Act→World→Prop,(∀v w',E (upd u i v) w'→Le i u w w'→S i (upd u i v) w'→K ((mk u).put o.dst v) w')→o.wp P (mk u) w K Q)
  (hend: ∀u w,E u w→(∀i,i <ops.size→S i u w)→Q .normal (mk u) w):(Code.region id ops true).wp P Q a w:=by
 refine wp_region_any hm ?_
 refine wpAny_invA (Inv:=fun l a w=>(∀(i:Nat) (o:Oper),ops[i]? =some o→l[i]? =some true→ ∀e ∈ o.after,Region.binds .any e=true→l[e.on]? =some true)∧ ∃u,a=mk u∧E u w∧ ∀i,l[i]? =some true→S i u w) hB ?_ ?_ _ _ _ _ (by simp) ?_ ?_
 ·rintro l a w i o ⟨hcl,u,rfl,hE,hS⟩ hl ho hf hp
  have hio:=(Array.getElem?_eq_some_iff.1 ho).1
  have hg:o.guard=none:=by
   have h1:=Array.all_eq_true_iff_forall_mem.1 hG o (Array.mem_of_getElem? ho)
   simpa using h1
  have hw:Region.wanted o (yielded ops (mk u).tmps)=true:=by simp [Region.wanted,hg]
  unfold wpOp
  rw [ho]
  simp only [hw,if_true]
  refine .inl (hop i o ho u w hE (fun e he hb=>hS e.on (hp e he hb)) _ fun v w' hE' hle hSi=> ?_)
  refine ⟨?_,upd u i v,hput i o ho u v,hE', ?_⟩
  ·intro k ok hok hk e he hb
   by_cases hki:k=i
   ·subst hki
    rw [ho] at hok
    injection hok with hok
    subst hok
    have hlt:=backS_spec hB ho e he hb
    rw [Array.getElem?_setIfInBounds_ne (by omega)]
    exact hp e he hb
   ·rw [Array.getElem?_setIfInBounds_ne (fun e=>hki e.symm)] at hk
    have h5:=hcl k ok hok hk e he hb
    by_cases hei:e.on=i
    ·rw [hei,Array.getElem?_setIfInBounds_self]
     rw [if_pos (by omega)]
    ·rw [Array.getElem?_setIfInBounds_ne (fun e=>hei e.symm)]
     exact h5
  ·intro k hk
   by_cases hki:k=i
   ·subst hki;exact hSi
   ·rw [Array.getElem?_setIfInBounds_ne (fun e=>hki e.symm)] at hk
    have hkl:k <ops.size:=by have:=(Array.getElem?_eq_some_iff.1 hk).1;omega
    have hok:ops[k]? =some ops[k]:=Array.getElem?_eq_getElem hkl
    refine hloc k _ hok i u v w' (fun e=>hki e.symm) (fun e he hb hei=> ?_) (hst k i _ _ _ hki hE (hS k hk) hle)
    have:=hcl k _ hok hk e he hb
    rw [hei,hf] at this
    cases this
 ·rintro l a w ⟨_,u,rfl,hE,hS⟩ hl hall
  exact hend u w hE fun i hi=>hS i (hall i hi)
 ·have:(Array.replicate ops.size false).toList.count false=ops.size:=by simp
  omega
 ·refine ⟨fun i o ho hi=> ?_,u0,ha,hE0,fun i hi=> ?_⟩
  ·have:=(Array.getElem?_eq_some_iff.1 hi).2
   simp at this
  ·have:=(Array.getElem?_eq_some_iff.1 hi).2
   simp at this
end
end Go.Proofs.YteelncofiodflaaGreat
namespace Go.Proofs.YteelncofiodflaaGreat
open Go.RowKit
section
variable {P:Program} {ops:Array Oper} {Q:Exit→Act→World→Prop}
def mkM (a:Act) (D n r j:Nat) (u:Nat→Value):Act:=mkL a D n r (fun i=>if i=n then u j else u i)
theorem mkM_put (a:Act) {D n r j:Nat} (u:Nat→Value) (hs:D+n≤a.tmps.size) (hr:r <D) (hj:n≤j) {i:Nat} (h:i <n) (v:Value):(mkM a D n r j u).put (some (D+i)) v=mkM a D n r j (upd u i v):=by
 unfold mkM
 rw [mkL_put a _ hs hr h v]
 congr 1
 funext k
 by_cases hk:k=n
 ·subst hk
  rw [upd_ne (by omega),if_pos rfl,if_pos rfl,upd_ne (by omega)]
 ·rw [if_neg hk]
  by_cases hki:k=i
  ·subst hki;rw [upd_self,upd_self]
  ·rw [upd_ne hki,upd_ne hki,if_neg hk]
theorem mkL_congr (a:Act) {D n r:Nat} (f g:Nat→Value) (h: ∀i,i <n+1→f i=g i):mkL a D n r f=mkL a D n r g:=by
 unfold mkL mkAt
 have h1:(List.range n).map f=(List.range n).map g:=List.map_congr_left fun i hi=>h i (by have:=List.mem_range.1 hi;omega)
 rw [h1,h n (by omega)]
theorem mkM_last (a:Act) {D n r j:Nat} (u:Nat→Value) (hj:n≤j) (v:Value):(mkM a D n r j u).put (some r) v=mkM a D n r j (upd u j v):=by
 unfold mkM
 rw [mkL_last]
 refine mkL_congr a _ _ fun i hi=> ?_
 show upd (fun i=>if i=n then u j else u i) n v i=if i=n then upd u j v j else upd u j v i
 by_cases hk:i=n
 ·subst hk;rw [upd_self,if_pos rfl,upd_self]
 ·rw [upd_ne hk,if_neg hk,if_neg hk,upd_ne (by omega)]
theorem mkM_none (a:Act) {D n r j k:Nat} (u:Nat→Value) (hk:n≤k) (hkj:k≠j) (v:Value):(mkM a D n r j u).put none v=mkM a D n r j (upd u k v):=by
 show mkM a D n r j u=_
 unfold mkM
 refine mkL_congr a _ _ fun i hi=> ?_
 show (if i=n then u j else u i)=if i=n then upd u k v j else upd u k v i
 by_cases hi2:i=n
 ·rw [if_pos hi2,if_pos hi2,upd_ne (Ne.symm hkj)]
 ·rw [if_neg hi2,if_neg hi2,upd_ne (by omega)]
theorem mkM_eval (a:Act) {D n r j:Nat} (u:Nat→Value) (hs:D+n≤a.tmps.size) {t:Nat} (h:t <D) (hne:t≠r):(mkM a D n r j u).eval (.tmp t)=a.eval (.tmp t):=mkL_eval a _ hs h hne
theorem mkM_eval_in (a:Act) {D n r j:Nat} (u:Nat→Value) (hs:D+n≤a.tmps.size) (hr:r <D) {i:Nat} (h:i <n):(mkM a D n r j u).eval (.tmp (D+i))=u i:=by
 unfold mkM
 rw [mkL_eval_in a _ hs hr h,if_neg (by omega)]
theorem mkM_self (a:Act) {D n r j:Nat} (hs:D+n≤a.tmps.size) (hr:r <D) (hj:n≤j): ∃u,a=mkM a D n r j u:=by
 obtain ⟨u,hu⟩:=mkL_self a hs hr
 refine ⟨fun i=>if i=j then u n else u i, ?_⟩
 unfold mkM
 refine hu.trans (mkL_congr a _ _ fun i hi=> ?_)
 show u i=if i=n then (if j=j then u n else u j) else (if i=j then u n else u i)
 by_cases hk:i=n
 ·subst hk;rw [if_pos rfl,if_pos rfl]
 ·rw [if_neg hk,if_neg (by omega)]
theorem wp_region_M {id:Nat} {a:Act} {w:World} (D n r ja js:Nat) (oa os:Oper) (hn:ops.size=n+2) (hja:ja=n∨ja=n+1) (hjs:js=n∨js=n+1) (hne:js≠ja) (hoa:ops[ja]? =some oa) (hos:ops[js]? =some os) (hda:oa.dst=some r) (hds:os.dst=none) (hr:r <D)
  (hm:P.follows .mixedOrders=true) (hB:backS ops=true) (hG:plainB ops=true) (hD:dstB ops D n=true) (hsz:D+n≤a.tmps.size)
  (c:List Value) (K:Nat→Bool) (p:Nat→Value→World→Prop) (EW RS:World→Prop) (St:World→World→Prop)
  (h0:EW {w with drawn:=w.drawn+1}) (hEB: ∀U V,EW U→Below U.heap.size U V→EW V) (hRB: ∀U V,RS U→Below U.heap.size U V→RS V)
  (hst: ∀i v U V,K i=true→p i v U→Below U.heap.size U V→p i v V) (hst2: ∀i v U V,K i=true→EW U→p i v U→St U V→p i v V)
  (hop: ∀(i:Nat) (o:Oper),ops[i]? =some o→i≠js→ ∀U,EW U→ ∀ρ:Operand→Value,(∀v,ρ (.const v)=v)→(∀f,ρ (.func f)= .func (.func f) #[] #[])→(∀t,t <D→t≠r→ρ (.tmp t)=a.eval (.tmp t))→(∀e ∈ o.after,Region.binds .any e=true→e.on <n→SC c K p e.on (ρ (.tmp (D+e.on))) U)→RunsTo P ρ o U (fun v V=>Below U.heap.size U V∧SC c K p i v V))
  (hstore: ∀os,ops[js]? =some os→ ∀U,EW U→ ∀ρ:Operand→Value,(∀v,ρ (.const v)=v)→(∀t,t <D→t≠r→ρ (.tmp t)=a.eval (.tmp t))→(∀e ∈ os.after,Region.binds .any e=true→e.on <n→SC c K p e.on (ρ (.tmp (D+e.on))) U)→ ∃V,(execOp ρ os).run P U= .ok .skip V∧EW V∧St U V∧RS V)
  (hend: ∀u U,EW U→RS U→(∀i,i <n+2→i≠js→SC c K p i (u i) U)→Q .normal (mkM a D n r ja u) U):(Code.region id ops true).wp P Q a w:=by
 have hjan:n≤ja:=by omega
 obtain ⟨u0,hu0⟩:=mkM_self a hsz hr hjan
 refine wp_region_SA hm hB hG (mkM a D n r ja) u0 hu0 (fun i o ho u v=> ?_) (fun i u w=>if i=js then RS w else SC c K p i (u i) w)
  (fun _ w=>EW w) (fun j _ w w'=>if j=js then St w w' else Below w.heap.size w w') h0 ?_ ?_ ?_ ?_
 ·have hio:i <n+2:=by rw [←hn];exact (Array.getElem?_eq_some_iff.1 ho).1
  by_cases hi:i <n
  ·rw [dstB_spec hD ho hi];exact mkM_put a u hsz hr hjan hi v
  ·by_cases hia:i=ja
   ·subst hia
    rw [hoa] at ho;injection ho with ho;subst ho
    rw [hda];exact mkM_last a u hjan v
   ·obtain rfl:i=js:=by omega
    rw [hos] at ho;injection ho with ho;subst ho
    rw [hds];exact mkM_none a u (by omega) hia v
 ·intro i j u w w' hij hE hS hle
  by_cases hi:i=js
  ·rw [if_pos hi] at hS ⊢
   rw [if_neg (by omega)] at hle
   exact hRB _ _ hS hle
  ·rw [if_neg hi] at hS ⊢
   cases hk:K i with
   |false=>
    have:=hS.val hk
    rw [this]
    exact SC.ofV hk
   |true=>
    by_cases hj:j=js
    ·rw [if_pos hj] at hle
     exact SC.ofP hk (hst2 i _ _ _ hk hE (hS.got hk) hle)
    ·rw [if_neg hj] at hle
     exact SC.ofP hk (hst i _ _ _ hk (hS.got hk) hle)
 ·intro i o ho j u v w hij _ hS
  by_cases hi:i=js
  ·rw [if_pos hi] at hS ⊢;exact hS
  ·rw [if_neg hi] at hS ⊢
   rw [upd_ne (Ne.symm hij)]
   exact hS
 ·intro i o ho u w hE hp Kk hK
  have hdep: ∀e ∈ o.after,Region.binds .any e=true→e.on <n→SC c K p e.on ((mkM a D n r ja u).eval (.tmp (D+e.on))) w:=by
   intro e he hb hlt
   rw [mkM_eval_in a u hsz hr hlt]
   have:=hp e he hb
   rwa [if_neg (by omega)] at this
  by_cases hi:i=js
  ·subst hi
   rw [hos] at ho;injection ho with ho;subst ho
   obtain ⟨V,hrun,h1,h2,h3⟩:=hstore _ hos w hE (mkM a D n r ja u).eval (fun _=>rfl) (fun t ht hne=>mkM_eval a u hsz ht hne) hdep
   exact wp_skip hrun (hK undef V h1 (by rw [if_pos rfl];exact h2) (by rw [if_pos rfl];exact h3))
  ·refine RunsTo.wp ((hop i o ho hi w hE _ (fun _=>rfl) (fun _=>rfl) (fun t ht hne=>mkM_eval a u hsz ht hne) hdep).mono fun v V ⟨hb,hs⟩=> ?_)
   exact hK v V (hEB _ _ hE hb) (by rw [if_neg hi];exact hb) (by rw [if_neg hi,upd_self];exact hs)
 ·intro u w hE hS
  refine hend u w hE ?_ fun i hi hne=> ?_
  ·have:=hS js (by omega)
   rwa [if_pos rfl] at this
  ·have:=hS i (by omega)
   rwa [if_neg hne] at this
end
end Go.Proofs.YteelncofiodflaaGreat
namespace Go.Proofs.YteelncofiodflaaGreat
open Go.RowKit
end Go.Proofs.YteelncofiodflaaGreat
namespace Go.Proofs.YteelncofiodflaaGreat
open Go.RowKit
end Go.Proofs.YteelncofiodflaaGreat
