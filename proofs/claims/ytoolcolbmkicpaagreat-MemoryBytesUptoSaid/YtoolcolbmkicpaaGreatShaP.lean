/-
  The partitions that share addresses with a partition, as plain lists: what pairs of regions give, in order, is what the reference lists. It speaks of no program.
-/
import Derived.Test.YtoolcolbmkicpaaGreatSwpB
import Derived.Test.YtoolcolbmkicpaaGreatMemQ
namespace Go.Proofs.YtoolcolbmkicpaaGreat
open Go.RowKit
/-- whether two different partitions have an address in common -/
def meetsB (l : List Reg) (a b : Int) : Bool := !(a == b) && l.any fun x => x.part == a && l.any fun y => y.part == b && meetS (spnOf x) (spnOf y)
theorem meetsB_iff {l : List Reg} {a b : Int} : meetsB l a b = true ↔ a ≠ b ∧ ∃ x ∈ l, x.part = a ∧ ∃ y ∈ l, y.part = b ∧ meetS (spnOf x) (spnOf y) = true := by
  unfold meetsB
  simp only [Bool.and_eq_true, Bool.not_eq_true', beq_eq_false_iff_ne, ne_eq, List.any_eq_true, beq_iff_eq]
theorem meetsB_comm (l : List Reg) (a b : Int) : meetsB l a b = meetsB l b a := by
  rw [Bool.eq_iff_iff, meetsB_iff, meetsB_iff]
  constructor
  · rintro ⟨h, x, hx, h1, y, hy, h2, h3⟩
    exact ⟨fun e => h e.symm, y, hy, h2, x, hx, h1, by rw [meetS_comm]; exact h3⟩
  · rintro ⟨h, x, hx, h1, y, hy, h2, h3⟩
    exact ⟨fun e => h e.symm, y, hy, h2, x, hx, h1, by rw [meetS_comm]; exact h3⟩
/-- the reference's list up to a number -/
def shTo (l : List Reg) (p : Int) (n : Nat) : List Int := ((List.range n).map fun (i : Nat) => (i : Int)).filter fun b => meetsB l p b
theorem shTo_next (l : List Reg) (p : Int) (n : Nat) : shTo l p (n + 1) = if meetsB l p (n : Int) then shTo l p n ++ [(n : Int)] else shTo l p n := by
  unfold shTo
  rw [List.range_succ, List.map_append, List.filter_append]
  by_cases h : meetsB l p (n : Int) = true
  · rw [if_pos h]
    simp [h]
  · rw [if_neg h]
    simp [h]
theorem shTo_mem {l : List Reg} {p : Int} {n : Nat} {b : Int} : b ∈ shTo l p n ↔ (0 ≤ b ∧ b < (n : Int)) ∧ meetsB l p b = true := by
  unfold shTo
  rw [List.mem_filter, List.mem_map]
  constructor
  · rintro ⟨⟨i, hi, rfl⟩, h⟩
    have := List.mem_range.1 hi
    exact ⟨⟨by omega, by omega⟩, h⟩
  · rintro ⟨⟨h0, h1⟩, h⟩
    exact ⟨⟨b.toNat, List.mem_range.2 (by omega), by omega⟩, h⟩
theorem shTo_asc (l : List Reg) (p : Int) (n : Nat) : (shTo l p n).Pairwise (· < ·) := by
  unfold shTo
  refine List.Pairwise.filter _ ?_
  rw [List.pairwise_map]
  exact List.pairwise_lt_range.imp fun {a b} h => by omega
theorem shTo_len (l : List Reg) (p : Int) (n : Nat) : (shTo l p n).length ≤ n := by
  unfold shTo
  refine Nat.le_trans (List.length_filter_le _ _) ?_
  simp
/-- what one pair adds -/
def pairB (l : List Reg) (p : Int) (q : Pr) (y : Int) : Bool := match l[q.i.toNat]?, l[q.j.toNat]? with
  | some a, some b => (a.part == p && b.part == y) || (b.part == p && a.part == y)
  | _, _ => false
/-- what pairs give -/
def pairsB (l : List Reg) (p : Int) (L : List Pr) (y : Int) : Bool := L.any fun q => pairB l p q y
theorem pairs_shared {l : List Reg} {L : List Pr} (hsp : ∀ r ∈ l, okSp r.base r.size) (h : PairsOf (itemsOf (l.map spnOf)) L) {p y : Int} (hne : y ≠ p) : pairsB l p L y = meetsB l p y := by
  have hit : ∀ {x : Itm}, x ∈ itemsOf (l.map spnOf) ↔ ∃ (k : Nat) (r : Reg), l[k]? = some r ∧ x = ⟨r.base, r.size, (k : Int)⟩ := by
    intro x
    rw [List.mem_iff_getElem?]
    constructor
    · rintro ⟨k, hk⟩
      obtain ⟨s, hs, rfl⟩ := itemsOf_at.1 hk
      rw [List.getElem?_map] at hs
      obtain ⟨r, hr, rfl⟩ := Option.map_eq_some_iff.1 hs
      exact ⟨k, r, hr, rfl⟩
    · rintro ⟨k, r, hr, rfl⟩
      exact ⟨k, itemsOf_at.2 ⟨spnOf r, by rw [List.getElem?_map, hr]; rfl, rfl⟩⟩
  have hmt : ∀ {a b : Reg}, a ∈ l → b ∈ l → (meetS (spnOf a) (spnOf b) = true ↔ (a.base ≤ b.base + b.size - 1 ∧ b.base ≤ a.base + a.size - 1)) := by
    intro a b ha hb
    have h1 := (hsp a ha).2.1
    have h2 := (hsp b hb).2.1
    unfold meetS hasS spnOf
    simp only [Bool.or_eq_true, Bool.and_eq_true, decide_eq_true_eq]
    omega
  rw [Bool.eq_iff_iff, meetsB_iff]
  unfold pairsB
  rw [List.any_eq_true]
  constructor
  · rintro ⟨q, hq, hb⟩
    obtain ⟨x, hx, z, hz, hxz, h1, h2, rfl⟩ := (h q).1 hq
    obtain ⟨i, a, ha, rfl⟩ := hit.1 hx
    obtain ⟨j, b, hb', rfl⟩ := hit.1 hz
    have ham := List.mem_of_getElem? ha
    have hbm := List.mem_of_getElem? hb'
    unfold lastOf at h1 h2
    simp only at h1 h2 hxz
    have hm := (hmt ham hbm).2 ⟨h1, h2⟩
    have hij : i ≠ j := fun e => hxz (by rw [e])
    refine ⟨fun e => hne e.symm, ?_⟩
    unfold pairB prOf at hb
    simp only at hb
    by_cases hlt : i < j
    · have e1 : (min (i : Int) (j : Int)).toNat = i := by omega
      have e2 : (max (i : Int) (j : Int)).toNat = j := by omega
      rw [e1, e2, ha, hb'] at hb
      simp only [Bool.or_eq_true, Bool.and_eq_true, beq_iff_eq] at hb
      rcases hb with ⟨g1, g2⟩ | ⟨g1, g2⟩
      · exact ⟨a, ham, g1, b, hbm, g2, hm⟩
      · exact ⟨b, hbm, g1, a, ham, g2, by rw [meetS_comm]; exact hm⟩
    · have e1 : (min (i : Int) (j : Int)).toNat = j := by omega
      have e2 : (max (i : Int) (j : Int)).toNat = i := by omega
      rw [e1, e2, ha, hb'] at hb
      simp only [Bool.or_eq_true, Bool.and_eq_true, beq_iff_eq] at hb
      rcases hb with ⟨g1, g2⟩ | ⟨g1, g2⟩
      · exact ⟨b, hbm, g1, a, ham, g2, by rw [meetS_comm]; exact hm⟩
      · exact ⟨a, ham, g1, b, hbm, g2, hm⟩
  · rintro ⟨_, a, ha, g1, b, hb, g2, hm⟩
    obtain ⟨i, hi⟩ := List.mem_iff_getElem?.1 ha
    obtain ⟨j, hj⟩ := List.mem_iff_getElem?.1 hb
    have hij : i ≠ j := fun e => by
      subst e
      rw [hi] at hj
      injection hj with hj
      subst hj
      exact hne (g2.symm.trans g1)
    have hm2 := (hmt ha hb).1 hm
    refine ⟨prOf ⟨a.base, a.size, (i : Int)⟩ ⟨b.base, b.size, (j : Int)⟩, (h _).2 ⟨_, hit.2 ⟨i, a, hi, rfl⟩, _, hit.2 ⟨j, b, hj, rfl⟩, by simp only; omega, by unfold lastOf; simp only; omega, by unfold lastOf; simp only; omega, rfl⟩, ?_⟩
    unfold pairB prOf
    simp only
    by_cases hlt : i < j
    · have e1 : (min (i : Int) (j : Int)).toNat = i := by omega
      have e2 : (max (i : Int) (j : Int)).toNat = j := by omega
      rw [e1, e2, hi, hj]
      simp [g1, g2]
    · have e1 : (min (i : Int) (j : Int)).toNat = j := by omega
      have e2 : (max (i : Int) (j : Int)).toNat = i := by omega
      rw [e1, e2, hi, hj]
      simp [g1, g2]
end Go.Proofs.YtoolcolbmkicpaaGreat
