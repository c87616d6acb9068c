/-
  A sorted list has no runs exactly if its numbers are all different. Plain lists; no condition.
-/
import Derived.Test.YtgkodbejnbfakaaCompact
import Derived.Test.YtgkodbejnbfakaaOrd
namespace Go.Proofs.Ytgkodbejnbfakaa
open Go.RowKit Go.Sort Go.Lib
theorem strict_nodup : ∀ (l : List Int), l.Pairwise (· ≤ ·) → ((∀ j, 0 < j → j < l.length → l[j]! ≠ l[j - 1]!) ↔ l.Nodup)
  | [], _ => by simp
  | [x], _ => by
    simp
    intro j h1 h2
    omega
  | x :: y :: r, h => by
    have hp := List.pairwise_cons.1 h
    have ih := strict_nodup (y :: r) hp.2
    rw [List.nodup_cons, ← ih]
    constructor
    · intro hk
      refine ⟨fun hm => ?_, fun j hj hl => ?_⟩
      · have hxy : x ≠ y := fun e => hk 1 (by omega) (by simp) (by simp [e])
        have hle : x ≤ y := hp.1 y (by simp)
        have hy := (List.pairwise_cons.1 hp.2).1
        rcases List.mem_cons.1 hm with e | hm
        · exact hxy e
        · have := hy x hm
          omega
      · have := hk (j + 1) (by omega) (by simpa using hl)
        obtain ⟨i, rfl⟩ : ∃ i, j = i + 1 := ⟨j - 1, by omega⟩
        simpa using this
    · intro ⟨hx, hk⟩ j hj hl
      obtain ⟨i, rfl⟩ : ∃ i, j = i + 1 := ⟨j - 1, by omega⟩
      rcases i with _ | i
      · simp
        intro e
        exact hx (by simp [e])
      · have := hk (i + 1) (by omega) (by simpa using hl)
        simpa using this
theorem sort_sorted (l : List Int) : (sortInts l).Pairwise (· ≤ ·) := by
  have := List.pairwise_mergeSort (le := fun x y : Int => decide (x ≤ y)) (fun a b c h1 h2 => by simp at *; omega) (fun a b => by simp; omega) l
  exact this.imp (by simp)
theorem sort_perm (l : List Int) : (sortInts l).Perm l := List.mergeSort_perm _ _
theorem runs_rep (l : List Int) : (compactUpTo (sortInts l).toArray (sortInts l).length).length = l.length ↔ rep l < 0 := by
  rw [rep_neg, ← (sort_perm l).nodup_iff, ← strict_nodup _ (sort_sorted l), ← (sort_perm l).length_eq]
  unfold compactUpTo
  rw [List.length_map]
  conv => lhs; rhs; rw [← List.length_range (n := (sortInts l).length)]
  rw [List.length_filter_eq_length_iff]
  constructor
  · intro h j h1 h2
    have := h j (by simpa using h2)
    rw [keeps, decide_eq_true_eq] at this
    rcases this with h0 | h0
    · omega
    · simpa using h0
  · intro h j hj
    rw [keeps, decide_eq_true_eq]
    rcases Nat.eq_zero_or_pos j with h0 | h0
    · exact Or.inl h0
    · exact Or.inr (by simpa using h j h0 (by simpa using hj))
end Go.Proofs.Ytgkodbejnbfakaa
