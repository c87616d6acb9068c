/-
  A row of records of the call's own, sorted by slices.SortFunc: from a row to the shelf's form and back.
-/
import Derived.Shelf.SlSortCmp.WholeK
import Derived.Shelf.SlSortCmp.NoneTotal
import Derived.Lib.OwnBridge
import Derived.Test.YtldchpmilknlmaaGreatAppend
namespace Go.Proofs.YtldchpmilknlmaaGreat
open Go.RowKit Go.Sort Go.Shelf
theorem own_lessM {w : World} {b b' : Nat} {e : TypeId} {size n : Nat} {v : Value} {xs : List Value} (h : w.ownsRow b e size v n xs) (hb : b' ≤ b) : w.ownsRow b' e size v n xs := by
  refine ⟨h.1, ?_⟩
  rcases h.2 with h2 | ⟨g, cap, cur, rfl, hg, r⟩
  · exact .inl h2
  · exact .inr ⟨g, cap, cur, rfl, by omega, r⟩
theorem flatMap_len {α : Type} {enc : α → List Value} {k : Nat} (hk : ∀ x, (enc x).length = k) : ∀ l : List α, (l.flatMap enc).length = l.length * k
  | [] => by simp
  | x :: r => by rw [List.flatMap_cons, List.length_append, hk, flatMap_len hk r, List.length_cons, Nat.succ_mul, Nat.add_comm]
section
variable {α : Type} [Inhabited α] {enc : α → List Value} {k : Nat}
theorem flatK_list (hk : ∀ x, (enc x).length = k) (d : Array α) : (flatK enc k d).toList = d.toList.flatMap enc := by
  apply List.ext_getElem?
  intro t
  have hlen : (d.toList.flatMap enc).length = d.size * k := by
    rw [flatMap_len hk]; simp
  by_cases ht : t < d.size * k
  · have hkp : 0 < k := Nat.pos_of_ne_zero (by intro e; rw [e] at ht; simp at ht)
    have hq : t / k < d.size := (Nat.div_lt_iff_lt_mul hkp).2 ht
    have hm : t % k < k := Nat.mod_lt _ hkp
    have e : t / k * k + t % k = t := by rw [Nat.mul_comm]; exact Nat.div_add_mod t k
    have h1 := flat_at enc k hk d.toList (t / k) d[t / k] (t % k) (by simp [hq]) hm
    rw [e] at h1
    rw [h1, Array.getElem?_toList]
    have h2 := get_flatK enc k d t ht
    have hs : t < (flatK enc k d).size := by simpa using ht
    rw [Array.getElem?_eq_getElem hs]
    rw [getElem!_pos _ t hs] at h2
    rw [h2, getElem!_pos d _ hq]
    have hm' : t % k < (enc d[t / k]).length := by rw [hk]; exact hm
    rw [getElem!_pos (enc d[t / k]) (t % k) hm', List.getElem?_eq_getElem hm']
  · rw [List.getElem?_eq_none (by simp; omega), List.getElem?_eq_none (by omega)]
theorem holdsK_own (hk : ∀ x, (enc x).length = k) {w : World} {base cap g n : Nat} {e : TypeId} {l : List α} (hn : n = l.length) (h : w.ownsRow base e k (.slice (some ⟨g, 0, none⟩) n cap) n (l.flatMap enc)) : HoldsK enc k w g 0 l.toArray := by
  subst hn
  obtain ⟨h1, h2 | ⟨g', cap', cur, e1, hb, hh, hc1, hc2, hc3, ht⟩⟩ := h
  · obtain ⟨h2, _⟩ := h2; cases h2
  · injection e1 with e1 _ _
    injection e1 with e1
    injection e1 with e1
    subst e1
    intro j hj
    have hj' : j < l.length * k := by simpa using hj
    refine ⟨?_, by simp [World.frozen?, hh]⟩
    have h3 : (cur.toList.take (l.length * k))[j]? = (l.flatMap enc)[j]? := by rw [ht]
    rw [List.getElem?_take_of_lt hj'] at h3
    simp only [World.cell?, hh, Nat.zero_add, Option.isSome_none, Bool.false_eq_true, if_false]
    rw [← Array.getElem?_toList, h3]
    have h4 := flatK_list hk l.toArray
    simp only at h4
    rw [← h4, Array.getElem?_toList, Array.getElem?_eq_getElem hj, getElem!_pos (flatK enc k l.toArray) j hj]
    rfl
theorem take_putId (cur F : Array Value) (h : F.size ≤ cur.size) : (putCells id 0 F cur).toList.take F.size = F.toList := by
  apply List.ext_getElem?
  intro j
  by_cases hj : j < F.size
  · rw [List.getElem?_take_of_lt hj, Array.getElem?_toList, Array.getElem?_toList]
    simp [putCells, hj, show j < cur.size by omega]
  · rw [List.getElem?_take_eq_none (by omega), List.getElem?_eq_none (by simp; omega)]
theorem ownK_sorted (hk : ∀ x, (enc x).length = k) {w : World} {base cap g n m : Nat} {e : TypeId} {l : List α} {os : Array Obj} {d : Array α} (h : w.ownsRow base e k (.slice (some ⟨g, 0, none⟩) n cap) n (l.flatMap enc)) (hd : d.size = n) :
    (sortWorldK enc k w g 0 m d os).ownsRow base e k (.slice (some ⟨g, 0, none⟩) n cap) n (d.toList.flatMap enc) := by
  obtain ⟨h1, h2 | ⟨g', cap', cur, e1, hb, hh, hc1, hc2, hc3, ht⟩⟩ := h
  · obtain ⟨h2, _⟩ := h2; cases h2
  · injection e1 with e1 _ e2
    injection e1 with e1
    injection e1 with e1
    subst e1; subst e2
    have hlt : g < w.heap.size := (Array.getElem?_eq_some_iff.1 hh).1
    have hle : n * k ≤ cap * k := Nat.mul_le_mul_right k hc1
    have hF : (flatK enc k d).size = n * k := by rw [size_flatK, hd]
    refine ⟨?_, .inr ⟨g, cap, putCells id 0 (flatK enc k d) cur, rfl, hb, ?_, hc1, hc2, by simp [putCells, hc3], ?_⟩⟩
    · rw [← flatK_list hk, Array.length_toList, hF]
    · unfold sortWorldK putRowK
      rw [heap_grow_old _ _ (by simpa using hlt)]
      simp [putRow, mapBlock, Sort.ahead, Array.getElem?_modify, hh, onCells]
    · have := take_putId cur (flatK enc k d) (by rw [hF, hc3]; exact hle)
      rw [hF] at this
      rw [this, flatK_list hk]
theorem belowK_sorted {w0 w : World} {B g m : Nat} {os : Array Obj} {d : Array α} (h : Below B w0 w) (hB : B ≤ w0.heap.size) (hg : B ≤ g) : Below B w0 (sortWorldK enc k w g 0 m d os) := by
  have h2 := Go.Lib.below_putRow (enc := id) (q := m) (d := flatK enc k d) h hg
  unfold sortWorldK putRowK
  exact ⟨h2.os, h2.tape, h2.output, Nat.le_trans h2.size (by simp [grow]), fun j hj => (heap_grow_old _ _ (Nat.lt_of_lt_of_le hj (Nat.le_trans hB h2.size))).trans (h2.block j hj)⟩
end
end Go.Proofs.YtldchpmilknlmaaGreat
