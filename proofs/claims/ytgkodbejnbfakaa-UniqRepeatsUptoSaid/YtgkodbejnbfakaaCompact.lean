/-
  How long slices.Compact of numbers in memory of the call's own is; for a sorted list: as long as the list exactly if its numbers are all different.
-/
import Derived.Test.YtgkodbejnbfakaaLayCompact
import Derived.Shelf.SlicesE.Compact
import Derived.Ground.SlgnProg
import Derived.Test.YtgkodbejnbfakaaSortT
namespace Go.Proofs.Ytgkodbejnbfakaa
open Go.RowKit Go.Sort Go.Shelf Go.Lib
theorem compact_nil (w : World) : Calls Try.prog 35 #[.slice none 0 0] w fun r w' => r = .returned (.slice none 0 0) ∧ w' = w := by
  go_enter Try.func35, Try.ntmps35
  go_wp2
  go_ret
  exact ⟨rfl, rfl⟩
theorem compact_own {w : World} {base : Nat} {v : Value} {l : List Int} (h : w.ownsRow base 30 1 v l.length (l.map (Value.int .u16))) (hl : l.length ≤ 4194304) :
    Calls Try.prog 35 #[v] w fun r w' => ∃ A c, r = .returned (.slice A (compactUpTo l.toArray l.length).length c) ∧ Below base w w' := by
  rcases h.2 with ⟨rfl, hn⟩ | ⟨g, cap, cur, rfl, hb, hh, hc1, hc2, hc3, hc4⟩
  · have hnil : l = [] := List.eq_nil_of_length_eq_zero hn
    subst hnil
    refine (compact_nil w).mono ?_
    rintro r w' ⟨rfl, rfl⟩
    exact ⟨none, 0, rfl, Below.refl _ _⟩
  · have hH : Holds (Value.int .u16) w g 0 l.toArray := fun j hj => by
      have hlt : j < l.length := by simpa using hj
      refine ⟨?_, by simp [World.frozen?, hh]⟩
      rw [Nat.zero_add, cell_of_row w g j cur 30 (0, 0) hh]
      have : (cur.toList.take (l.length * 1))[j]? = some (.int .u16 l[j]) := by rw [hc4]; simp [hlt]
      rw [List.getElem?_take_of_lt (by omega), Array.getElem?_toList] at this
      rw [this]
      simp [hlt]
    have := AnyE.slices_Compact Try.layCompact (Value.int .u16) (fun _ => rfl) (EqlAt.intD _ _ _) (NeqAt.intD _ _ _) 0 (fun w => by kernel_rfl) g 0 cap l.toArray w hH (by simp; omega) (by simpa using hc1)
    simp only [List.size_toArray] at this
    refine this.mono ?_
    rintro r w' ⟨rfl, q, rfl⟩
    refine ⟨_, _, rfl, ⟨rfl, rfl, rfl, by simp, fun k hk => ?_⟩⟩
    unfold putRow mapBlock
    simp only [heap_ahead, Array.getElem?_modify]
    rw [if_neg (by omega)]
end Go.Proofs.Ytgkodbejnbfakaa
