/-
  conf.Same, walked: whether two configurations have the same records.
-/
import Derived.Test.YthnbgbocanpkjaaGreatEqR
import Derived.Test.YthnbgbocanpkjaaGreatCore
namespace Go.Proofs.YthnbgbocanpkjaaGreat
open Go.RowKit
theorem cfg_ne {a b : Cfg} {v : Bool} (hv : eqC a b = v) (h : ¬ a = b) : v = false := by rw [← hv]; exact eqC_no h
theorem dests_le {c : Cfg} {N : Nat} (ht : c.total ≤ N) : ∀ x ∈ c.chans, x.dests.length ≤ N := fun x hx => by
  obtain ⟨k, hk⟩ := List.getElem?_of_mem hx
  have h2 := sumDests_next hk
  have h3 : sumDests c.chans = sumDests (c.chans.take (k + 1)) + sumDests (c.chans.drop (k + 1)) := by
    unfold sumDests
    rw [← List.sum_append, ← List.map_append, List.take_append_drop]
  unfold Cfg.total at ht
  omega
end Go.Proofs.YthnbgbocanpkjaaGreat
