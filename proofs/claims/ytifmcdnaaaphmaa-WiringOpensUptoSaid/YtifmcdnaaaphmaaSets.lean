/-
  Plain laws on lists of numbers: sorting and compacting gives the strictly ascending list of the members; such a list is one alone. It speaks of no program; no condition.
-/
import Derived.Lib.SlicesCompact
import Derived.Lib.RowBridge
namespace Go.Proofs.Ytifmcdnaaaphmaa
open Go.Lib
theorem asc_unique : ∀ {l m : List Int}, l.Pairwise (· < ·) → m.Pairwise (· < ·) → (∀ x, x ∈ l ↔ x ∈ m) → l = m
  | [], [], _, _, _ => rfl
  | [], b :: m, _, _, h => absurd ((h b).2 (by simp)) (by simp)
  | a :: l, [], _, _, h => absurd ((h a).1 (by simp)) (by simp)
  | a :: l, b :: m, hl, hm, h => by
    rw [List.pairwise_cons] at hl hm
    have e : a = b := by
      have h1 : a ∈ b :: m := (h a).1 (by simp)
      have h2 : b ∈ a :: l := (h b).2 (by simp)
      rcases List.mem_cons.1 h1 with h1 | h1
      · exact h1
      · rcases List.mem_cons.1 h2 with h2 | h2
        · exact h2.symm
        · have := hm.1 a h1
          have := hl.1 b h2
          omega
    subst e
    congr 1
    refine asc_unique hl.2 hm.2 fun x => ?_
    constructor
    · intro hx
      have := hl.1 x hx
      rcases List.mem_cons.1 ((h x).1 (by simp [hx])) with h1 | h1
      · omega
      · exact h1
    · intro hx
      have := hm.1 x hx
      rcases List.mem_cons.1 ((h x).2 (by simp [hx])) with h1 | h1
      · omega
      · exact h1
theorem cu_mem (d : Array Int) (x : Int) : ∀ m, x ∈ compactUpTo d m ↔ ∃ j, j < m ∧ d[j]! = x
  | 0 => by simp [compactUpTo]
  | m + 1 => by
    rw [compactUpTo_succ, List.mem_append, cu_mem d x m]
    by_cases hk : keeps d m = true
    · rw [if_pos hk, List.mem_singleton]
      constructor
      · rintro (⟨j, h1, h2⟩ | h)
        · exact ⟨j, by omega, h2⟩
        · exact ⟨m, by omega, h.symm⟩
      · rintro ⟨j, h1, h2⟩
        rcases Nat.lt_or_ge j m with h | h
        · exact .inl ⟨j, h, h2⟩
        · obtain rfl : j = m := by omega
          exact .inr h2.symm
    · rw [if_neg hk]
      simp only [List.not_mem_nil, or_false]
      constructor
      · rintro ⟨j, h1, h2⟩
        exact ⟨j, by omega, h2⟩
      · rintro ⟨j, h1, h2⟩
        rcases Nat.lt_or_ge j m with h | h
        · exact ⟨j, h, h2⟩
        · obtain rfl : j = m := by omega
          unfold keeps at hk
          rw [decide_eq_true_eq] at hk
          have h0 : j ≠ 0 := fun e => hk (.inl e)
          have h3 : d[j]! = d[j - 1]! := Classical.byContradiction fun e => hk (.inr e)
          exact ⟨j - 1, by omega, by rw [← h3, h2]⟩
theorem cu_asc (d : Array Int) (hs : ∀ i j, i ≤ j → j < d.size → d[i]! ≤ d[j]!) : ∀ m, m ≤ d.size → (compactUpTo d m).Pairwise (· < ·)
  | 0, _ => by simp [compactUpTo]
  | m + 1, hm => by
    rw [compactUpTo_succ]
    by_cases hk : keeps d m = true
    · rw [if_pos hk, List.pairwise_append]
      refine ⟨cu_asc d hs m (by omega), by simp, fun a ha b hb => ?_⟩
      rw [List.mem_singleton] at hb
      subst hb
      obtain ⟨j, h1, h2⟩ := (cu_mem d a m).1 ha
      unfold keeps at hk
      rw [decide_eq_true_eq] at hk
      have h3 : d[m]! ≠ d[m - 1]! := by
        rcases hk with h | h
        · omega
        · exact h
      have h4 := hs j (m - 1) (by omega) (by omega)
      have h5 := hs (m - 1) m (by omega) (by omega)
      omega
    · rw [if_neg hk, List.append_nil]
      exact cu_asc d hs m (by omega)
def sortI (l : List Int) : List Int := l.mergeSort fun x y => decide (x ≤ y)
theorem sortI_len (l : List Int) : (sortI l).length = l.length := by simp [sortI]
theorem sortI_perm (l : List Int) : (sortI l).Perm l := List.mergeSort_perm _ _
theorem sortI_le (l : List Int) : (sortI l).Pairwise (· ≤ ·) := by
  have := List.pairwise_mergeSort (le := fun x y : Int => decide (x ≤ y)) (fun a b c h1 h2 => by simp at *; omega) (fun a b => by simp; omega) l
  exact this.imp (by simp)
theorem set_mem (l : List Int) (x : Int) : x ∈ compact (sortI l) ↔ x ∈ l := by
  unfold compact
  rw [cu_mem, ← (sortI_perm l).mem_iff]
  constructor
  · rintro ⟨j, h1, h2⟩
    rw [getElem!_pos _ j (by simpa using h1)] at h2
    rw [← h2]; simp
  · intro h
    obtain ⟨j, hj, e⟩ := List.getElem_of_mem h
    exact ⟨j, hj, by rw [getElem!_pos _ j (by simpa using hj)]; simpa using e⟩
theorem set_asc (l : List Int) : (compact (sortI l)).Pairwise (· < ·) := by
  unfold compact
  refine cu_asc _ (fun i j hij hj => ?_) _ (by simp)
  have hj' : j < (sortI l).length := by simpa using hj
  rw [getElem!_pos _ i (by simp; omega), getElem!_pos _ j (by simpa using hj')]
  rcases Nat.eq_or_lt_of_le hij with rfl | h
  · exact Int.le_refl _
  · have := List.pairwise_iff_getElem.1 (sortI_le l) i j (by omega) hj' h
    simpa using this
end Go.Proofs.Ytifmcdnaaaphmaa
