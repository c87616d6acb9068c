/-
  slices.Equal at the records of a configuration, slices.EqualFunc at channels, walked: whether two rows hold the same records.
-/
import Derived.BigQuiet
import Derived.Test.YteelncofiodflaaGreatNrmP
import Derived.Test.YteelncofiodflaaGreatCore
namespace Go.Proofs.YteelncofiodflaaGreat
open Go.RowKit
noncomputable def eqC {α:Type} (a b:α):Bool:= @decide (a=b) (Classical.propDecidable _)
theorem eqC_yes {α:Type} {a b:α} (h:a=b):eqC a b=true:=by unfold eqC;exact @decide_eq_true _ (Classical.propDecidable _) h
theorem eqC_no {α:Type} {a b:α} (h: ¬a=b):eqC a b=false:=by unfold eqC;exact @decide_eq_false _ (Classical.propDecidable _) h
theorem names_ne {a b:ByteArray} (h: ¬a=b): ¬a.toList=b.toList:=fun e=>h (beqb_true (by rw [beq_toListBytes,e];exact beq_self_eq_true _))
theorem at_ne {α:Type} {l m:List α} {k:Nat} {x y:α} (hx:l[k]? =some x) (hy:m[k]? =some y) (h: ¬x=y): ¬l=m:=fun e=>by
 rw [e,hy] at hx;injection hx with hx;exact h hx.symm
end Go.Proofs.YteelncofiodflaaGreat
namespace Go.Proofs.YteelncofiodflaaGreat
open Go.RowKit
theorem dests_le {c:Cfg} {N:Nat} (ht:c.total≤N): ∀x ∈ c.chans,x.dests.length≤N:=fun x hx=>by
 obtain ⟨k,hk⟩:=List.getElem?_of_mem hx
 have h2:=sumDests_next hk
 have h3:sumDests c.chans=sumDests (c.chans.take (k+1))+sumDests (c.chans.drop (k+1)):=by
  unfold sumDests
  rw [←List.sum_append, ←List.map_append,List.take_append_drop]
 unfold Cfg.total at ht
 omega
end Go.Proofs.YteelncofiodflaaGreat
