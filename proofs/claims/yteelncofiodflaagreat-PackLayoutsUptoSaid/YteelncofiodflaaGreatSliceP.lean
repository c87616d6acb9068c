/-
  Slice expressions of slices that read as lists, as run equations; an insertion into a sorted list; an append at a step of a region that draws its order. It speaks of no program.
-/
import Derived.Deep.AppendLies
import Derived.Test.YteelncofiodflaaGreatCore
namespace Go.Proofs.YteelncofiodflaaGreat
open Go.RowKit
theorem run_sizeOf {P:Program} {e:TypeId} {i:TypeInfo} {sz:Nat} (hi:P.info? e=some i) (hs:i.size=sz) (W:World):(sizeOf e).run P W= .ok sz W:=by
 simp [sizeOf,typeInfo,hi,hs]
theorem slice_pre {P:Program} {t:TypeId} {sz:Nat} (ht:P.underlying t=some (.slice (P.elem t))) (hz: ∀W,(sizeOf (P.elem t)).run P W= .ok sz W) {w:World} {B:Nat} {A:Option Addr} {n c:Nat} {xs:List Value} (h:Rd w B sz A n xs) (hc:n≤c) (m:Nat) (hm:m≤n):
  ∃A1 c1,(∀W,(Instr.slice t (.slice A n c) none (some (.int .i64 m)) none).run P W= .ok (.slice A1 m c1) W)∧Rd w B sz A1 m (xs.take (m*sz))∧m≤c1∧c1≤c:=by
 refine ⟨if c=0 then A else A.map (·.add (0*sz)),c,fun W=> ?_,⟨?_,fun h0=> ?_⟩,by omega,Nat.le_refl _⟩
 ·rw [run_slice_h (P:=P) W t A n c ht .i64 m (by omega) (by omega),hz]
  simp [Result.andThen,sliced]
 ·rw [List.length_take,h.1]
  exact Nat.min_eq_left (Nat.mul_le_mul_right _ hm)
 ·obtain ⟨b,o,rfl,hb,hcell⟩:=h.2 (by omega)
  refine ⟨b,o, ?_,hb,fun j u hu=>hcell j u ?_⟩
  ·rw [if_neg (by omega)]
   simp [addr_add]
  ·rw [List.getElem?_take] at hu
   split at hu
   ·exact hu
   ·cases hu
end Go.Proofs.YteelncofiodflaaGreat
