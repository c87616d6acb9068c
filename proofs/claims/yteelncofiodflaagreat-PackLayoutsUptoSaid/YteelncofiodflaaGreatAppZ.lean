/-
  append of zeros to a row of bytes of the call's own ('append(b, make([]byte, n)...)'). It speaks of no program; no condition but on sizes.
-/
import Derived.Lib.AppendZeros
import Derived.Lib.AppendZerosOnto
import Derived.Lib.AppendStr
import Derived.Test.YteelncofiodflaaGreatCore
namespace Go.Proofs.YteelncofiodflaaGreat
open Go.RowKit
section
variable {P:Program} (w:World)
theorem zeroCells_one (z:Value) (hz:z.cells= #[z]) (k:Nat):(Builtin.zeroCells z.cells k).toList=List.replicate k z:=by
 unfold Builtin.zeroCells
 rw [hz]
 simp only [List.size_toArray,List.length_singleton,Nat.mul_one,Nat.mod_one,Array.toList_map,Array.toList_range]
 apply List.ext_getElem
 ·simp
 ·intro i h1 h2
  simp
theorem run_append_room_zeros (t tn ty e:TypeId) (i:TypeInfo) (z:Value) (kq kn:IntKind) (ht:P.underlying t=some (.slice e)) (htn:P.underlying tn=some (.int kn)) (hi:P.info? e=some i) (hz:i.zero=some z) (hs1:i.size=1) (hb1:i.bytes=1) (hzc:z.cells= #[z]) (hz1:z.oneCell'=true)
  (g n cap:Nat) (cur:Array Value) (hg:w.heap[g]? =some (.cells cur e (0,0))) (k:Nat) (hk:0 <k) (hk2:k≤16777216) (hroom:n+k≤cap) (hfit:n+k≤cur.size):
  (Builtin.append_ #[t,tn] ty #[.slice (some ⟨g,0,none⟩) n cap, .int kq k]).run P w= .ok (.slice (some ⟨g,0,none⟩) (n+k) cap) (w.setRow g (cur.toList.take n++List.replicate k z++cur.toList.drop (n+k)).toArray):=by
 have hst:=run_storeCells_at P g n e (List.replicate k z) 0 cur w hg (by simpa using hfit) (fun v hv=>by rw [List.eq_of_mem_replicate hv];exact hz1)
 simp only [Nat.add_zero,List.length_replicate] at hst
 have hw:IntKind.i64.wrap (k:Int)=k:=by rw [IntKind.wrap_i64];omega
 have h48i: ¬(281474976710656 <(k:Int)):=by omega
 have hneg: ¬((k:Int) <0):=by omega
 have hk0:k≠0:=by omega
 have hzl:=zeroCells_one z hzc k
 simp [Builtin.append_,run_underlying ht,run_underlying htn,sizeOf,typeInfo,zeroValue,hi,hz,hs1,hb1,asInt,asIntOf,hw,hk0,hneg,h48i,hroom,Addr.add_lit,hzl,hst]
theorem run_append_own_zeros (base:Nat) (t tn ty e:TypeId) (i:TypeInfo) (z:Value) (kq kn:IntKind) (ht:P.underlying t=some (.slice e)) (htn:P.underlying tn=some (.int kn)) (hi:P.info? e=some i) (hz:i.zero=some z) (hs1:i.size=1) (hb1:i.bytes=1) (hzc:z.cells= #[z]) (hz1:z.oneCell'=true)
  (v:Value) (n:Nat) (xs:List Value) (hown:w.ownsRow base e 1 v n xs) (k:Nat) (hk:0 <k) (h63:n+k≤16777216) (hbase:base≤w.heap.size):
  ∃v' w',(Builtin.append_ #[t,tn] ty #[v, .int kq k]).run P w= .ok v' w'∧w'.ownsRow base e 1 v' (n+k) (xs++List.replicate k z)∧w.grownBy w' v.ownBlock:=by
 have hxl:xs.length=n:=by simpa using hown.1
 have hlen:(xs++List.replicate k z).length=(n+k)*1:=by rw [List.length_append,hxl,List.length_replicate,Nat.mul_one]
 have hzl:=zeroCells_one z hzc
 have hza:Builtin.zeroCells z.cells k=(List.replicate k z).toArray:=by rw [←hzl k]
 have grown: ∀(old:Nat),old <n+k→ ∀(row:Option Nat),
   (w.drew.alloc (.cells (xs.toArray++Builtin.zeroCells z.cells k++Builtin.zeroCells z.cells (grownCap w (n+k) old e -(n+k))) e)).ownsRow base e 1 (.slice (some ⟨w.heap.size,0,none⟩) (n+k) (grownCap w (n+k) old e)) (n+k) (xs++List.replicate k z)∧
   w.grownBy (w.drew.alloc (.cells (xs.toArray++Builtin.zeroCells z.cells k++Builtin.zeroCells z.cells (grownCap w (n+k) old e -(n+k))) e)) row:=by
  intro old ho row
  have hge:=grownCap_ge w (n+k) old e
  have hcm:grownCap w (n+k) old e≤maxLen:=grownCap_le_maxLen w (n+k) old e (by unfold maxLen;omega)
  refine ⟨⟨hlen, .inr ⟨w.heap.size,_,_,rfl,hbase,heap_alloc_new w.drew _,hge,hcm, ?_, ?_⟩⟩,⟨rfl,rfl,rfl,by simp,fun j hj _=>Below.heap_alloc w.drew _ j hj⟩⟩
  ·have h1:=congrArg List.length (hzl (grownCap w (n+k) old e -(n+k)))
   rw [List.length_replicate,Array.length_toList] at h1
   rw [hza]
   simp only [Array.size_append,List.size_toArray,List.length_replicate,hxl,h1]
   omega
  ·rw [hza]
   simp only [Array.toList_append]
   rw [←hlen]
   exact List.take_left
 rcases hown.2 with ⟨rfl,rfl⟩ |⟨g,cap,cur,rfl,hbg,hg,hnc,hcm,hcs,htake⟩
 ·have hx:xs= []:=List.eq_nil_of_length_eq_zero hxl
  subst hx
  have hr:=Lib.run_append_grow_zeros (P:=P) w t tn ty e i z kq kn ht htn hi hz none 0 0 [] (by simp [Builtin.firstCells]) k hk (by omega) (by omega) (by omega) (by rw [hb1];omega) (growslice_fits (by omega) (by rw [hb1];omega))
  have hgr:=grown 0 (by omega) (Value.ownBlock (.slice none 0 0))
  exact ⟨_,_,hr,hgr.1,hgr.2⟩
 ·by_cases hroom:n+k≤cap
  ·have hfit:n+k≤cur.size:=by rw [hcs];omega
   have hr:=run_append_room_zeros (P:=P) w t tn ty e i z kq kn ht htn hi hz hs1 hb1 hzc hz1 g n cap cur hg k hk (by omega) hroom hfit
   refine ⟨_,_,hr,⟨hlen, .inr ⟨g,cap,_,rfl,hbg,setRow_heap w g cur _ e _ hg,hroom,hcm, ?_, ?_⟩⟩,⟨rfl,rfl,rfl,by simp,fun j _ hj=>setRow_other w g j _ (fun e=>hj (by simp [Value.ownBlock,e]))⟩⟩
   ·simp only [List.size_toArray,List.length_append,List.length_take,List.length_drop,Array.length_toList,List.length_replicate]
    omega
   ·rw [Nat.mul_one] at htake
    rw [htake, ←hlen]
    exact List.take_left
  ·have holds: ∀j u,xs[j]? =some u→w.cell? ((⟨g,0,none⟩:Addr).add j)=some u:=hown.cells (g:=g) rfl
   have hold:=run_firstCells_some (P:=P) w.drew i.size n ⟨g,0,none⟩ n cap xs (by rw [hs1];omega) (by simpa using holds)
   have hr:=Lib.run_append_grow_zeros (P:=P) w t tn ty e i z kq kn ht htn hi hz (some ⟨g,0,none⟩) n cap xs hold k hk (by omega) (by omega) (by omega) (by rw [hb1];omega) (growslice_fits (by omega) (by rw [hb1];omega))
   have hgr:=grown cap (by omega) (Value.ownBlock (.slice (some ⟨g,0,none⟩) n cap))
   exact ⟨_,_,hr,hgr.1,hgr.2⟩
theorem wpList_append_zeros {ops:Array Oper} {rest:List Oper} {o:Oper} {a:Act} {Q:Exit→Act→World→Prop} (hgd:o.guard=none) (s x:Operand) (t tn:TypeId)
  (ho:o.op= .call {callee:= .builtin .append,args:= #[s,x],argTypes:= #[t,tn]})
  (base:Nat) (e:TypeId) (i:TypeInfo) (z:Value) (kq kn:IntKind) (ht:P.underlying t=some (.slice e)) (htn:P.underlying tn=some (.int kn)) (hi:P.info? e=some i) (hz:i.zero=some z) (hs1:i.size=1) (hb1:i.bytes=1) (hzc:z.cells= #[z]) (hz1:z.oneCell'=true)
  (v:Value) (n:Nat) (xs:List Value) (hs:a.eval s=v) (hown:w.ownsRow base e 1 v n xs) (k:Nat) (hx:a.eval x= .int kq k) (hk:0 <k) (h63:n+k≤16777216) (hbase:base≤w.heap.size)
  (h: ∀v' w',w'.ownsRow base e 1 v' (n+k) (xs++List.replicate k z)→w.grownBy w' v.ownBlock→wpList P ops Q rest (a.put o.dst v') w'):wpList P ops Q (o::rest) a w:=by
 refine wpList_plain hgd fun K hK=> ?_
 obtain ⟨v',w',hr,h2,h3⟩:=run_append_own_zeros (P:=P) w base t tn o.type e i z kq kn ht htn hi hz hs1 hb1 hzc hz1 v n xs hown k hk h63 hbase
 unfold Oper.wp execOp
 simp only [ho,resolve,invoke,builtin,Sem.run_bind,Sem.run_pure,Result.andThen_ok,List.map_toArray,List.map_cons,List.map_nil,hs,hx,hr]
 exact hK _ _ (h v' w' h2 h3)
end
end Go.Proofs.YteelncofiodflaaGreat
