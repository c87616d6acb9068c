/-
  Slice expressions of slices that read as lists, as run equations; an insertion into a sorted list; an append at a step of a region that draws its order. It speaks of no program.
-/
import Derived.Deep.AppendLies
import Derived.Test.YtcfoolooemhbeaaGreatCore
namespace Go.Proofs.YtcfoolooemhbeaaGreat
open Go.RowKit
theorem run_sizeOf {P:Program} {e:TypeId} {i:TypeInfo} {sz:Nat} (hi:P.info? e=some i) (hs:i.size=sz) (W:World):(sizeOf e).run P W= .ok sz W:=by
 simp [sizeOf,typeInfo,hi,hs]
theorem slice_pre {P:Program} {t:TypeId} {sz:Nat} (ht:P.underlying t=some (.slice (P.elem t))) (hz: ∀W,(sizeOf (P.elem t)).run P W= .ok sz W) {w:World} {B:Nat} {A:Option Addr} {n c:Nat} {xs:List Value} (h:Rd w B sz A n xs) (hc:n≤c) (m:Nat) (hm:m≤n):
  ∃A1 c1,(∀W,(Instr.slice t (.slice A n c) none (some (.int .i64 m)) none).run P W= .ok (.slice A1 m c1) W)∧Rd w B sz A1 m (xs.take (m*sz))∧m≤c1∧c1≤c:=by
 refine ⟨if c=0 then A else A.map (·.add (0*sz)),c,fun W=> ?_,⟨?_,fun h0=> ?_⟩,by omega,Nat.le_refl _⟩
 ·rw [run_slice_h (P:=P) W t A n c ht .i64 m (by omega) (by omega),hz]
  simp [Result.andThen,sliced]
 ·rw [List.length_take,h.1]
  exact Nat.min_eq_left (Nat.mul_le_mul_right _ hm)
 ·obtain ⟨b,o,rfl,hb,hcell⟩:=h.2 (by omega)
  refine ⟨b,o, ?_,hb,fun j u hu=>hcell j u ?_⟩
  ·rw [if_neg (by omega)]
   simp [addr_add]
  ·rw [List.getElem?_take] at hu
   split at hu
   ·exact hu
   ·cases hu
theorem slice_suf {P:Program} {t:TypeId} {sz:Nat} (ht:P.underlying t=some (.slice (P.elem t))) (hz: ∀W,(sizeOf (P.elem t)).run P W= .ok sz W) {w:World} {B:Nat} {A:Option Addr} {n c:Nat} {xs:List Value} (h:Rd w B sz A n xs) (hc:n≤c) (m:Nat) (hm:m≤n):
  ∃A1 c1,(∀W,(Instr.slice t (.slice A n c) (some (.int .i64 m)) none none).run P W= .ok (.slice A1 (n -m) c1) W)∧Rd w B sz A1 (n -m) (xs.drop (m*sz))∧n -m≤c1∧c1≤c:=by
 refine ⟨if c=m then A else A.map (·.add (m*sz)),c -m,fun W=> ?_,⟨?_,fun h0=> ?_⟩,by omega,by omega⟩
 ·rw [run_slice_l (P:=P) W t A n c ht .i64 m (by omega) (by omega),hz]
  simp [Result.andThen,sliced]
 ·rw [List.length_drop,h.1,Nat.sub_mul]
 ·obtain ⟨b,o,rfl,hb,hcell⟩:=h.2 (by omega)
  refine ⟨b,o+m*sz, ?_,hb,fun j u hu=> ?_⟩
  ·rw [if_neg (by omega)]
   simp [addr_add]
  ·rw [List.getElem?_drop] at hu
   have:=hcell _ u hu
   rwa [←Nat.add_assoc] at this
theorem ins_pw {α:Type} {R:α→α→Prop} (tr: ∀a b c,R a b→R b c→R a c) {o:List α} (h:o.Pairwise R) (x:α) (m:Nat) (h1: ∀y ∈ o.drop m,R x y) (h2:m=0∨ ∃y,o[m -1]? =some y∧R y x):(o.take m++x::o.drop m).Pairwise R:=by
 have hs:o.take m++o.drop m=o:=List.take_append_drop m o
 rw [←hs] at h
 obtain ⟨p1,p2,p3⟩:=List.pairwise_append.1 h
 refine List.pairwise_append.2 ⟨p1,List.pairwise_cons.2 ⟨h1,p2⟩,fun a ha b hb=> ?_⟩
 have hax:R a x:=by
  rcases h2 with rfl |⟨y,hy,hyx⟩
  ·simp at ha
  ·rcases Nat.eq_zero_or_pos m with rfl |hm
   ·simp at ha
   ·obtain ⟨i,hi⟩:=List.getElem?_of_mem ha
    rw [List.getElem?_take] at hi
    split at hi
    ·rename_i him
     rcases Nat.lt_or_ge i (m -1) with hlt |hge
     ·have hp:=List.pairwise_iff_getElem.1 (hs▸h)
      obtain ⟨hi1,rfl⟩:=List.getElem?_eq_some_iff.1 hi
      obtain ⟨hy1,rfl⟩:=List.getElem?_eq_some_iff.1 hy
      exact tr _ _ _ (hp i (m -1) hi1 hy1 hlt) hyx
     ·have:i=m -1:=by omega
      subst this
      rw [hy] at hi
      injection hi with hi
      subst hi
      exact hyx
    ·cases hi
 rcases List.mem_cons.1 hb with rfl |hb
 ·exact hax
 ·exact tr _ _ _ hax (h1 b hb)
theorem ins_perm {α:Type} (o:List α) (x:α) (m:Nat):(o.take m++x::o.drop m).Perm (x::o):=by
 have:=List.perm_middle (a:=x) (l₁:=o.take m) (l₂:=o.drop m)
 rwa [List.take_append_drop] at this
theorem own_litV (w:World) (base:Nat) (E:TypeId) (l:List Value) (b n:Nat) (hb:base≤w.heap.size) (hbk:w.heap.size=b) (hl:l.length≤maxLen) (hn:n=l.length) (cs:Array Value) (hc:cs=l.toArray):
  (w.alloc (.cells cs E)).ownsRow base E 1 (.slice (some ⟨b,0,none⟩) n n) l.length l:=by
 subst hbk hn hc
 exact ⟨by simp, .inr ⟨w.heap.size,l.length,l.toArray,rfl,hb,heap_alloc_new w _,Nat.le_refl _,hl,by simp,by rw [Nat.mul_one];rw [List.take_of_length_le (by simp)]⟩⟩
theorem step_appR {P:Program} (V:World) {w:World} {o:Oper} {a:Act} {K:Act→World→Prop} {Q:Exit→Act→World→Prop} {ys:Nat→Option Bool} (T E:TypeId) (i:TypeInfo) (z:Value) (bytes:Nat) (hT:P.underlying T=some (.slice E)) (hi:P.info? E=some i) (hz0:i.zero=some z) (hz1:i.size=1) (hz2:i.bytes=bytes) (hzs:z.cells.size=1)
  (hwt:Region.wanted o ys=true) (s x:Operand) (ho:o.op= .call {callee:= .builtin .append,args:= #[s,x],argTypes:= #[T,T]})
  (xs:List Value) (hown:w.ownsRow V.heap.size E 1 (a.eval s) xs.length xs)
  (B:Nat) (A:Option Addr) (m c:Nat) (news:List Value) (hx:a.eval x= .slice A m c) (hr:Rd w B 1 A m news) (h1: ∀u ∈ news,u.oneCell'=true)
  (hlen:(xs.length+m)*bytes≤140737488355328) (hlen2:xs.length+m≤maxLen) (hB:Below V.heap.size V w)
  (h: ∀v' w',w'.ownsRow V.heap.size E 1 v' (xs++news).length (xs++news)→w.grownBy w' (a.eval s).ownBlock→Below V.heap.size V w'→K (a.put o.dst v') w'):
  if Region.wanted o ys=true then Oper.wp P o a w K Q else K (a.put o.dst undef) w:=by
 rw [if_pos hwt]
 obtain ⟨v',w',hrun,h2,h3⟩:=run_append_rd (P:=P) w V.heap.size T o.type E i z 1 bytes hT hi hz0 hz1 hz2 hzs (by decide) (a.eval s) xs.length _ hown B A m c _ hr h1 hlen2 hlen hB.size
 unfold Oper.wp execOp
 simp only [ho,resolve,invoke,builtin,Sem.run_bind,Sem.run_pure,Result.andThen_ok,List.map_toArray,List.map_cons,List.map_nil,hx,hrun]
 have hm:news.length=m:=by simpa using hr.1
 exact h _ _ (by rw [List.length_append,hm];exact h2) h3 (below_own hB h3 hown hB.size)
theorem step_appO {P:Program} (V:World) {w:World} {o:Oper} {a:Act} {K:Act→World→Prop} {Q:Exit→Act→World→Prop} {ys:Nat→Option Bool} (T E:TypeId) (i:TypeInfo) (z:Value) (bytes:Nat) (hT:P.underlying T=some (.slice E)) (hi:P.info? E=some i) (hz0:i.zero=some z) (hz1:i.size=1) (hz2:i.bytes=bytes) (hzs:z.cells.size=1)
  (hwt:Region.wanted o ys=true) (s x:Operand) (ho:o.op= .call {callee:= .builtin .append,args:= #[s,x],argTypes:= #[T,T]})
  (xs:List Value) (hown:w.ownsRow V.heap.size E 1 (a.eval s) xs.length xs)
  (news:List Value) (hr:w.ownsRow V.heap.size E 1 (a.eval x) news.length news) (h1: ∀u ∈ news,u.oneCell'=true)
  (hlen:(xs.length+news.length)*bytes≤140737488355328) (hlen2:xs.length+news.length≤maxLen) (hB:Below V.heap.size V w)
  (h: ∀v' w',w'.ownsRow V.heap.size E 1 v' (xs++news).length (xs++news)→w.grownBy w' (a.eval s).ownBlock→Below V.heap.size V w'→K (a.put o.dst v') w'):
  if Region.wanted o ys=true then Oper.wp P o a w K Q else K (a.put o.dst undef) w:=by
 obtain ⟨A,c,hx,_,_,hrd⟩:=own_form hr
 exact step_appR V T E i z bytes hT hi hz0 hz1 hz2 hzs hwt s x ho xs hown w.heap.size A news.length c news hx hrd h1 hlen hlen2 hB h
end Go.Proofs.YtcfoolooemhbeaaGreat
