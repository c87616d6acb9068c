/-
  slices.Sort and slices.Compact of numbers of the kind int in memory of the call's own (nil too).
-/
import Derived.Test.YtifmcdnaaaphmaaLayInts
import Derived.Test.YtifmcdnaaaphmaaRef18e
import Derived.Test.YtifmcdnaaaphmaaSets
import Derived.Sort.OwnSortedInts
import Derived.Lib.OwnBridge
import Derived.Lib.RowBridge
namespace Go.Proofs.Ytifmcdnaaaphmaa
open Go.RowKit Go.Sort Go.Lib Go.Shelf
theorem below_of_grown {w w' : World} {base g : Nat} (h : w.grownBy w' (some g)) (hb : base ≤ g) (hs : base ≤ w.heap.size) : Below base w w' :=
  ⟨h.os, h.tape, h.output, h.size, fun k hk => h.block k (by omega) (fun e => by injection e; omega)⟩
theorem sortI_own {w : World} {base : Nat} {v : Value} {l : List Int} (h : w.ownsRow base 3 1 v l.length (l.map (Value.int .i64))) (hl : l.length ≤ 1099511627776) :
    Calls Try.prog 49 #[v] w fun r w' => r = .returned (.tuple #[]) ∧ w'.ownsRow base 3 1 v l.length ((sortI l).map (Value.int .i64)) ∧ w.grownBy w' v.ownBlock := by
  rcases h.2 with ⟨rfl, hn⟩ | ⟨g, cap, cur, rfl, hb, hh, hc1, hc2, hc3, hc4⟩
  · have hnil : l = [] := List.eq_nil_of_length_eq_zero hn
    subst hnil
    refine (Any.slices_Sort_int_none Try.laySortI none 0 w).mono ?_
    rintro r w' ⟨rfl, rfl⟩
    exact ⟨rfl, by simpa [sortI] using h, World.grownBy.refl _ _⟩
  · have hH := holds_of_blockI (ss := l) hh (by simpa using hc4)
    have hlt : g < w.heap.size := (Array.getElem?_eq_some_iff.1 hh).1
    refine (Any.slices_Sort_int Try.laySortI g 0 cap l w hH hlt (by omega)).mono ?_
    rintro r w' ⟨rfl, n, os, rfl⟩
    exact ⟨rfl, ownsRow_sortedI (ts := sortI l) (sortI_len l) hb hh hc1 hc2 hc3, grownBy_sortedI _⟩
theorem compactI_own {w : World} {base : Nat} {v : Value} {l : List Int} (h : w.ownsRow base 3 1 v l.length (l.map (Value.int .i64))) (hl : l.length ≤ 1099511627776) :
    Calls Try.prog 50 #[v] w fun r w' => ∃ v', r = .returned v' ∧ w'.ownsRow base 3 1 v' (Lib.compact l).length ((Lib.compact l).map (Value.int .i64)) ∧ w.grownBy w' v.ownBlock ∧ v'.ownBlock = v.ownBlock := by
  rcases h.2 with ⟨rfl, hn⟩ | ⟨g, cap, cur, rfl, hb, hh, hc1, hc2, hc3, hc4⟩
  · have hnil : l = [] := List.eq_nil_of_length_eq_zero hn
    subst hnil
    refine (Any.slices_Compact_int_empty Try.layCompactI none 0 w).mono ?_
    rintro r w' ⟨rfl, rfl⟩
    exact ⟨_, rfl, by rw [show Lib.compact ([] : List Int) = [] from rfl]; exact h, World.grownBy.refl _ _, rfl⟩
  · have hH := holds_of_blockI (ss := l) hh (by simpa using hc4)
    have hlt : g < w.heap.size := (Array.getElem?_eq_some_iff.1 hh).1
    have hlen : (Lib.compact l).length ≤ l.length := compact_length_le l
    refine (Any.slices_Compact_int Try.layCompactI g 0 cap l w hH (by omega) hc1).mono ?_
    rintro r w' ⟨rfl, q, rfl⟩
    refine ⟨_, rfl, ?_, ⟨rfl, rfl, rfl, by simp [putRow, mapBlock, Sort.ahead], fun k hk hne => ?_⟩, rfl⟩
    · have := ownsRow_putRow (q := q) (k := (Lib.compact l).length) (ys := Lib.compact l ++ List.replicate (l.length - (Lib.compact l).length) 0) h (by simp; omega) hlen
      simpa using this
    · have : g ≠ k := fun e => hne (by rw [e]; rfl)
      simp [putRow, mapBlock, Sort.ahead, Array.getElem?_modify, this]
end Go.Proofs.Ytifmcdnaaaphmaa
