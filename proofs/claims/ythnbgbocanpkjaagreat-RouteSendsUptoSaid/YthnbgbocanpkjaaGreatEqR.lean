/-
  slices.Equal at the records of a configuration, slices.EqualFunc at channels, walked: whether two rows hold the same records.
-/
import Derived.BigQuiet
import Derived.Test.YthnbgbocanpkjaaGreatNormP
import Derived.Test.YthnbgbocanpkjaaGreatCore
namespace Go.Proofs.YthnbgbocanpkjaaGreat
open Go.RowKit
noncomputable def eqC {α : Type} (a b : α) : Bool := @decide (a = b) (Classical.propDecidable _)
theorem eqC_yes {α : Type} {a b : α} (h : a = b) : eqC a b = true := by unfold eqC; exact @decide_eq_true _ (Classical.propDecidable _) h
theorem eqC_no {α : Type} {a b : α} (h : ¬ a = b) : eqC a b = false := by unfold eqC; exact @decide_eq_false _ (Classical.propDecidable _) h
theorem eqC_iff {α : Type} {a b : α} : eqC a b = true ↔ a = b := by
  constructor
  · intro h
    rcases Classical.em (a = b) with h1 | h1
    · exact h1
    · rw [eqC_no h1] at h; cases h
  · exact eqC_yes
theorem names_ne {a b : ByteArray} (h : ¬ a = b) : ¬ a.toList = b.toList := fun e => h (beqb_true (by rw [beq_toListBytes, e]; exact beq_self_eq_true _))
theorem at_ne {α : Type} {l m : List α} {k : Nat} {x y : α} (hx : l[k]? = some x) (hy : m[k]? = some y) (h : ¬ x = y) : ¬ l = m := fun e => by
  rw [e, hy] at hx; injection hx with hx; exact h hx.symm
end Go.Proofs.YthnbgbocanpkjaaGreat
