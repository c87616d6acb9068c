/-
  What walks of range-over-func loops at records share. It speaks of no program.
-/
import Derived.RangeFuncGives
import Derived.RangeFuncBound
import Derived.RangeFuncSeq
import Derived.WalkKit
import Derived.OwnWalkIn
import Derived.TacticsInMore
import Derived.RegionIn
import Derived.LoopNIn
import Derived.LoopIn
import Derived.Maps.AppendAt
import Derived.Shelf.Abstract
import Derived.Test.YteelncofiodflaaGreatCore
namespace Go.Proofs.YteelncofiodflaaGreat
open Go.RowKit Go.Maps Go.Shelf
def SeqB {α:Type} (F:Fence) (n:Nat) (P:Program) (g:Nat) (lb:Array Value) (enc:α→Value) (xs:List α) (w:World):Prop:=
 ∀(l:Nat) (J:List α→World→Prop) (W:World),Below w.heap.size w W→AbidesFrom W.heap.size J→(∀pre W1,J pre W1→Below w.heap.size w W1)→
  (∀pre x W1,J pre W1→pre.length <xs.length→YieldAt F (n -1) P l #[enc x] W1 fun e W'=>e= .returned (.bool true)∧J (pre++ [x]) W'∧KeepsWalks W1 W')→
  J [] W→
  CallsIn F n P g (#[.func (.yield l) #[] #[]]++lb) W fun e W'=>(∃v,e= .returned v)∧J xs W'
theorem oR_abides {W W':World} {row:Option Nat} {base:Nat} {e:TypeId} {size:Nat} {v:Value} {k:Nat} {xs:List Value} (h:W.ownsRow base e size v k xs) (hg:W.grownBy W' row)
  (hrow: ∀r,row=some r→ ∃o:Obj,W.heap[r]? =some o∧o.isWalk=true):W'.ownsRow base e size v k xs:=by
 refine h.kept hg ?_
 rcases h.2 with ⟨rfl,_⟩ |⟨g,cap,cur,rfl,_,hgb,_⟩
 ·exact .inl rfl
 ·refine .inr fun e'=> ?_
  obtain ⟨o,ho,hw⟩:=hrow g (by simpa [Value.ownBlock] using e'.symm)
  rw [hgb] at ho;cases ho;cases hw
theorem gB_putObj (W:World) (l:Nat) (o:Obj):W.grownBy (W.putObj l o) (some l):=
 ⟨rfl,rfl,rfl,by simp,fun k _ hk=>World.putObj_heap_other (fun e=>hk (by rw [e]))⟩
theorem gB_setCell0 (W:World) (b:Nat) (v:Value):W.grownBy (W.setCell ⟨b,0,none⟩ v) (some b):=
 ⟨rfl,rfl,rfl,(KeepsWalks.setCell W _ v).size,fun k _ hk=>Below.heap_setCell _ _ _ k (fun e=>hk (by rw [e]))⟩
theorem gB_alloc (W:World) (o:Obj):W.grownBy (W.alloc o) none:=⟨rfl,rfl,rfl,by simp,fun k hk _=>Below.heap_alloc _ _ k hk⟩
theorem oR_ne {W:World} {base:Nat} {e:TypeId} {size:Nat} {v:Value} {k:Nat} {xs:List Value} (h:W.ownsRow base e size v k xs) {j:Nat} {o:Obj} (hj:W.heap[j]? =some o) (hno: ∀cur,o≠ .cells cur e (0,0)):
  v.ownBlock=none∨v.ownBlock≠some j:=by
 rcases h.2 with ⟨rfl,_⟩ |⟨g,cap,cur,rfl,_,hgb,_⟩
 ·exact .inl rfl
 ·refine .inr fun e'=> ?_
  have:g=j:=by simpa [Value.ownBlock] using e'
  subst this;rw [hgb] at hj;cases hj;exact hno cur rfl
theorem c_of_box {W:World} {B:Nat} {v:Value} {t:TypeId} (h:W.heap[B]? =some (.cells #[v] t (0,0))):W.cell? ⟨B,0,none⟩=some v∧W.frozen? ⟨B,0,none⟩=false:=by
 constructor<;>simp [World.cell?,World.frozen?,h]
theorem h_setCell_box {W:World} {B:Nat} {v:Value} {t:TypeId} (v':Value) (h:W.heap[B]? =some (.cells #[v] t (0,0))):(W.setCell ⟨B,0,none⟩ v').heap[B]? =some (.cells #[v'] t (0,0)):=by
 obtain ⟨hlt,hk⟩:=Array.getElem?_eq_some_iff.1 h
 show (W.heap.modify B _)[B]? =_
 rw [Array.getElem?_eq_getElem (by rw [Array.size_modify];exact hlt),Array.getElem_modify_self,hk]
 rfl
theorem oR_not_walk {W:World} {base:Nat} {e:TypeId} {size:Nat} {v:Value} {k:Nat} {xs:List Value} (h:W.ownsRow base e size v k xs): ∀(j:Nat) (o:Obj),v.ownBlock=some j→W.heap[j]? =some o→o.isWalk=false:=by
 intro j o hj ho
 rcases h.2 with ⟨rfl,_⟩ |⟨g,cap,cur,rfl,_,hgb,_⟩
 ·simp [Value.ownBlock] at hj
 ·have:g=j:=by simpa [Value.ownBlock] using hj
  subst this;rw [hgb] at ho;cases ho;rfl
end Go.Proofs.YteelncofiodflaaGreat
