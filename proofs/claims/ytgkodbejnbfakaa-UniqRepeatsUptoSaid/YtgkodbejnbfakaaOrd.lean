/-
  Whether a list repeats does not depend on its order; a list behind itself repeats at once. Plain lists; no program in sight; no condition.
-/
import Derived.Test.YtgkodbejnbfakaaAlive13
import Derived.Test.YtgkodbejnbfakaaLaw13a
namespace Go.Proofs.Ytgkodbejnbfakaa
open Go.RowKit
theorem repFrom_neg {α : Type} [DecidableEq α] : ∀ (l seen : List α) (i : Nat), repFrom seen i l < 0 ↔ l.Nodup ∧ ∀ x ∈ l, x ∉ seen
  | [], seen, i => by simp [repFrom]
  | x :: r, seen, i => by
    unfold repFrom
    by_cases h : x ∈ seen
    · rw [if_pos h]
      constructor
      · intro h0; omega
      · intro ⟨_, h1⟩; exact absurd h (h1 x (by simp))
    · rw [if_neg h, repFrom_neg r]
      rw [List.nodup_cons]
      constructor
      · intro ⟨h1, h2⟩
        refine ⟨⟨fun hx => h2 x hx (by simp), h1⟩, fun y hy => ?_⟩
        rcases List.mem_cons.1 hy with rfl | hy
        · exact h
        · exact fun hs => h2 y hy (by simp [hs])
      · intro ⟨⟨h1, h2⟩, h3⟩
        refine ⟨h2, fun y hy hs => ?_⟩
        rcases List.mem_append.1 hs with hs | hs
        · exact h3 y (by simp [hy]) hs
        · obtain rfl : y = x := by simpa using hs
          exact h1 hy
theorem rep_neg {α : Type} [DecidableEq α] (l : List α) : rep l < 0 ↔ l.Nodup := by
  unfold rep
  rw [repFrom_neg]
  simp
theorem rep_rev {α : Type} [DecidableEq α] (l : List α) : rep l.reverse < 0 ↔ rep l < 0 := by rw [rep_neg, rep_neg]; exact (List.reverse_perm l).nodup_iff
theorem repFrom_range {α : Type} [DecidableEq α] : ∀ (l seen : List α) (i : Nat), repFrom seen i l = -1 ∨ (i : Int) ≤ repFrom seen i l
  | [], _, _ => Or.inl rfl
  | x :: r, seen, i => by
    unfold repFrom
    split
    · exact Or.inr (by omega)
    · rcases repFrom_range r (seen ++ [x]) (i + 1) with h | h
      · exact Or.inl h
      · exact Or.inr (by omega)
theorem repFrom_app {α : Type} [DecidableEq α] : ∀ (l seen l' : List α) (i : Nat), repFrom seen i l < 0 → repFrom seen i (l ++ l') = repFrom (seen ++ l) (i + l.length) l'
  | [], seen, l', i, _ => by simp
  | x :: r, seen, l', i, h => by
    have hx : ¬ x ∈ seen := fun hx => by
      unfold repFrom at h
      rw [if_pos hx] at h
      omega
    unfold repFrom at h
    rw [if_neg hx] at h
    rw [List.cons_append, repFrom, if_neg hx, repFrom_app r _ l' (i + 1) h, List.append_assoc, List.length_cons]
    congr 1
    omega
theorem rep_twice {α : Type} [DecidableEq α] (l : List α) (h : rep l < 0) : rep (l ++ l) = if 0 < l.length then (l.length : Int) else -1 := by
  unfold rep at h ⊢
  rw [repFrom_app l [] l 0 h]
  cases l with
  | nil => rfl
  | cons x r =>
    rw [List.nil_append, repFrom, if_pos (by simp), if_pos (by simp)]
    simp
def Cfg.rev (c : Cfg) : Cfg := { c with parts := c.parts.reverse, ports := c.ports.reverse, chans := c.chans.reverse }
theorem sumDests_rev (l : List Chn) : sumDests l.reverse = sumDests l := by
  unfold sumDests
  rw [List.map_reverse, List.sum_reverse]
theorem Cfg.rev_small {c : Cfg} (h : c.small) : c.rev.small := by
  obtain ⟨h1, h2, h3⟩ := h
  refine ⟨?_, fun p hp => h2 p (by simpa [Cfg.rev] using hp), fun p hp => h3 p (by simpa [Cfg.rev] using hp)⟩
  unfold Cfg.total at h1 ⊢
  simp only [Cfg.rev, List.length_reverse, sumDests_rev]
  exact h1
theorem Cfg.rev_ok {c : Cfg} (h : c.ok) : c.rev.ok := by
  obtain ⟨h0, h1, h2, h3, h4, h5⟩ := h
  exact ⟨h0, fun p hp => h1 p (by simpa [Cfg.rev] using hp), h2, h3, fun p hp => h4 p (by simpa [Cfg.rev] using hp), fun p hp => h5 p (by simpa [Cfg.rev] using hp)⟩
theorem or_neg {a b : Int} : (if 0 ≤ a then a else b) < 0 ↔ a < 0 ∧ b < 0 := by split <;> omega
theorem firstOf_one (s i : Int) : (firstOf s [i] = noFlt ∧ i < 0) ∨ (firstOf s [i] = ⟨18, s, i⟩ ∧ 0 ≤ i) := by
  unfold firstOf
  by_cases h : 0 ≤ i
  · exact Or.inr ⟨if_pos h, h⟩
  · exact Or.inl ⟨by rw [if_neg h]; rfl, by omega⟩
theorem rev_parts (c : Cfg) : refParts c.rev < 0 ↔ refParts c < 0 := by
  unfold refParts
  rw [or_neg, or_neg]
  simp only [Cfg.rev, List.map_reverse, rep_rev]
theorem rev_ports (c : Cfg) : refPorts c.rev < 0 ↔ refPorts c < 0 := by
  unfold refPorts
  rw [or_neg, or_neg]
  simp only [Cfg.rev, List.map_reverse, rep_rev]
theorem rev_chans (c : Cfg) : rep (c.rev.chans.map (·.id)) < 0 ↔ rep (c.chans.map (·.id)) < 0 := by simp only [Cfg.rev, List.map_reverse, rep_rev]
theorem side {s i j : Int} (h : i < 0 ↔ j < 0) : (firstOf s [i] = ⟨0, 0, 0⟩ ∧ j < 0) ∨ (∃ k, firstOf s [i] = ⟨18, s, k⟩ ∧ decide (j < 0) = false) := by
  rcases firstOf_one s i with ⟨h1, h2⟩ | ⟨h1, h2⟩
  · exact Or.inl ⟨h1, h.1 h2⟩
  · exact Or.inr ⟨i, h1, decide_eq_false (by omega)⟩
theorem ord_parts (c : Cfg) : (ckParts c.rev = ⟨0, 0, 0⟩ ∧ refParts c < 0) ∨ (∃ k, ckParts c.rev = ⟨18, 1, k⟩ ∧ decide (refParts c < 0) = false) := side (rev_parts c)
theorem ord_ports (c : Cfg) : (ckPorts c.rev = ⟨0, 0, 0⟩ ∧ refPorts c < 0) ∨ (∃ k, ckPorts c.rev = ⟨18, 4, k⟩ ∧ decide (refPorts c < 0) = false) := side (rev_ports c)
theorem ord_chans (c : Cfg) : (ckChans c.rev = ⟨0, 0, 0⟩ ∧ rep (c.chans.map (·.id)) < 0) ∨ (∃ k, ckChans c.rev = ⟨18, 5, k⟩ ∧ decide (rep (c.chans.map (·.id)) < 0) = false) := side (rev_chans c)
theorem few_bound {c : Cfg} (h : few c = true) : c.total ≤ 120 ∧ (∀ p ∈ c.parts, p.name.size ≤ 100) ∧ (∀ p ∈ c.ports, p.name.size ≤ 100) := by
  unfold few at h
  simp only [Bool.and_eq_true, List.all_eq_true, decide_eq_true_eq] at h
  exact ⟨h.2, h.1.1, h.1.2⟩
end Go.Proofs.Ytgkodbejnbfakaa
