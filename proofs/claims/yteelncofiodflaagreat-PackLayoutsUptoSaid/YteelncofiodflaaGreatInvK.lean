/-
  A region that draws its order inside a fence (a round too), where the value of each operation and the world behind each set of operations are known ahead. No call, no guard. It speaks of no program.
-/
import Derived.OrdersIn
import Derived.TacticsIn
import Derived.OwnWalkIn
import Derived.Test.YteelncofiodflaaGreatInvZ
namespace Go.Proofs.YteelncofiodflaaGreat
open Go
section
variable {F:Fence} {n:Nat} {P:Program} {ops:Array Oper} {Q:Exit→Act→World→Prop}
def calmOp:Op→Bool
 | .call _=>false
 | .defer _=>false
 |_=>true
def calmB (ops:Array Oper):Bool:=ops.all fun o=>calmOp o.op&&o.guard.isNone
def backA (ops:Array Oper):Bool:=(List.range ops.size).all fun i=>((ops[i]?).map fun o=>o.after.all fun e=> !(Region.binds .any e)||decide (e.on <i)).getD true
theorem backA_spec (h:backA ops=true) {i:Nat} {o:Oper} (ho:ops[i]? =some o): ∀e ∈ o.after,Region.binds .any e=true→e.on <i:=by
 intro e he hb
 unfold backA at h
 have hi:i <ops.size:=(Array.getElem?_eq_some_iff.1 ho).1
 have:=List.all_eq_true.1 h i (List.mem_range.2 hi)
 rw [ho] at this
 simp only [Option.map_some,Option.getD_some] at this
 have h2:=Array.all_eq_true_iff_forall_mem.1 this e he
 rw [hb] at h2
 simpa using h2
theorem ready_nilA (hB:backA ops=true) {l:Array Bool} (hl:l.size=ops.size) (hr:Region.ready .any ops l= []): ∀i,i <ops.size→l[i]? =some true:=by
 intro i
 induction i using Nat.strongRecOn with
 |ind i ih=>
  intro hi
  have hli:l[i]? =some l[i]:=Array.getElem?_eq_getElem (by omega)
  cases hb:l[i] with
  |true=>rw [hli,hb]
  |false=>
   exfalso
   have ho:ops[i]? =some ops[i]:=Array.getElem?_eq_getElem hi
   have:i ∈ Region.ready .any ops l:=ready_of ho (by rw [getD_some hli];exact hb) fun e he hbi=>by
    have h1:=backA_spec hB ho e he hbi
    exact getD_some (ih e.on h1 (by omega))
   rw [hr] at this
   cases this
theorem wpIn_region_known {id:Nat} {a:Act} {w:World} (hm:P.follows .mixedOrders=true) (hB:backA ops=true) (hc:calmB ops=true)
  (mk:(Nat→Value)→Act) (u0:Nat→Value) (ha:a=mk u0) (hput: ∀(i:Nat) (o:Oper),ops[i]? =some o→ ∀u v,(mk u).put o.dst v=mk (upd u i v))
  (val:Nat→Value) (Wd:Array Bool→World) (hW0:Wd (Array.replicate ops.size false)= {w with drawn:=w.drawn+1})
  (hop: ∀(i:Nat) (o:Oper),ops[i]? =some o→ ∀(l:Array Bool) u,l.size=ops.size→l[i]? =some false→(∀(j:Nat) (o':Oper),ops[j]? =some o'→l[j]? =some true→ ∀e ∈ o'.after,Region.binds .any e=true→l[e.on]? =some true)→(∀e ∈ o.after,Region.binds .any e=true→l[e.on]? =some true∧u e.on=val e.on)→
   ∃x,(execOp (mk u).eval o).run P (Wd l)= .ok x (Wd (l.setIfInBounds i true))∧(x= .value (val i)∨(x= .skip∧val i=undef)))
  (hend: ∀u (l:Array Bool),(∀j,j <ops.size→u j=val j)→l.size=ops.size→(∀j,j <ops.size→l[j]? =some true)→Q .normal (mk u) (Wd l)):(Code.region id ops true).wpIn F n P Q a w:=by
 refine wpIn_region_any hm ?_
 rw [←hW0,ha]
 have main: ∀(fuel:Nat) (l:Array Bool) (u:Nat→Value),l.size=ops.size→l.toList.count false≤fuel→(∀j,l[j]? =some true→u j=val j)→(∀(j:Nat) (o':Oper),ops[j]? =some o'→l[j]? =some true→ ∀e ∈ o'.after,Region.binds .any e=true→l[e.on]? =some true)→wpAnyIn F n P .any ops Q fuel l (mk u) (Wd l):=by
  intro fuel
  induction fuel with
  |zero=>
   intro l u hl hc0 hu _
   have hall: ∀i,i <ops.size→l[i]? =some true:=fun i hi=>by
    have hli:l[i]? =some l[i]:=Array.getElem?_eq_getElem (by omega)
    cases hb:l[i] with
    |true=>rw [hli,hb]
    |false=>
     exfalso
     have:0 <l.toList.count false:=List.count_pos_iff.2 (by rw [←hb];simp)
     omega
   refine ⟨?_,hend u l (fun j hj=>hu j (hall j hj)) hl hall⟩
   cases hr:Region.ready .any ops l with
   |nil=>rfl
   |cons i r=>
    exfalso
    obtain ⟨o,ho,h1,_⟩:=ready_spec (md:= .any) (ops:=ops) (l:=l) (i:=i) (by rw [hr];simp)
    rw [getD_some (hall i (Array.getElem?_eq_some_iff.1 ho).1)] at h1
    cases h1
  |succ fuel ih=>
   intro l u hl hcn hu hcl
   refine ⟨fun hr=>hend u l (fun j hj=>hu j (ready_nilA hB hl hr j hj)) hl (ready_nilA hB hl hr),fun i hi=> ?_⟩
   obtain ⟨o,ho,h1,h2⟩:=ready_spec hi
   have hio:=(Array.getElem?_eq_some_iff.1 ho).1
   have hli:l[i]? =some l[i]:=Array.getElem?_eq_getElem (by omega)
   have hf:l[i]? =some false:=by rw [getD_some hli] at h1;rw [hli,h1]
   have hco:calmOp o.op=true∧o.guard=none:=by
    have h:=Array.all_eq_true_iff_forall_mem.1 hc o (Array.mem_of_getElem? ho)
    simp only [Bool.and_eq_true,Option.isNone_iff_eq_none] at h
    exact h
   have hab:o.about P (Wd l) (mk u).eval=none:=by
    unfold Oper.about
    have:=hco.1
    cases hop2:o.op<;>first |rfl |(rw [hop2] at this;cases this)
   have hdep: ∀e ∈ o.after,Region.binds .any e=true→l[e.on]? =some true:=fun e he hb=>by
    have h3:=h2 e he hb
    have h4:=backA_spec hB ho e he hb
    have hle:l[e.on]? =some l[e.on]:=Array.getElem?_eq_getElem (by omega)
    rw [getD_some hle] at h3
    rw [hle,h3]
   obtain ⟨x,hrun,hx⟩:=hop i o ho l u hl hf hcl (fun e he hb=>⟨hdep e he hb,hu e.on (hdep e he hb)⟩)
   have hstay: ∀j,l[j]? =some true→(l.setIfInBounds i true)[j]? =some true:=fun j hj=>by
    rw [Array.getElem?_setIfInBounds]
    split
    ·rename_i e;subst e;rw [hf] at hj;cases hj
    ·exact hj
   have hnext: ∀v,v=val i→wpAnyIn F n P .any ops Q fuel (l.setIfInBounds i true) ((mk u).put o.dst v) (Wd (l.setIfInBounds i true)):=by
    rintro v rfl
    rw [hput i o ho]
    refine ih _ _ (by simpa using hl) (by have:=count_set hf;omega) (fun j hj=> ?_) (fun j o' hj' hj e he hb=> ?_)
    rotate_left
    ·by_cases e1:j=i
     ·subst e1;rw [ho] at hj';cases hj';exact hstay _ (hdep e he hb)
     ·rw [Array.getElem?_setIfInBounds,if_neg (fun h=>e1 h.symm)] at hj
      exact hstay _ (hcl j o' hj' hj e he hb)
    by_cases e:j=i
    ·subst e;exact upd_self _ _ _
    ·rw [upd_ne e]
     refine hu j ?_
     rw [Array.getElem?_setIfInBounds,if_neg (fun h=>e h.symm)] at hj
     exact hj
   unfold wpOpIn
   rw [ho]
   simp only [Region.wanted,hco.2,if_true]
   refine ⟨fun f hf2=>(by rw [hab] at hf2;cases hf2), ?_⟩
   rw [Oper.semAt_plain F _ _ (fun c hc2=>by have:=hco.1;rw [hc2] at this;cases this),hrun]
   rcases hx with rfl |⟨rfl,hv⟩
   ·exact hnext _ rfl
   ·exact hnext _ hv.symm
 exact main _ _ _ (by simp) (by simp) (fun j hj=>by
  have hj2:=(Array.getElem?_eq_some_iff.1 hj)
  obtain ⟨h1,h2⟩:=hj2
  simp at h2) (fun j o' _ hj=>by
  obtain ⟨h1,h2⟩:=Array.getElem?_eq_some_iff.1 hj
  simp at h2)
end
end Go.Proofs.YteelncofiodflaaGreat
