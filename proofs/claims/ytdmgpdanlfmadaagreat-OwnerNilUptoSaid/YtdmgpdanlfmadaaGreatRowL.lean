/-
  A row of regions that is being changed from its start on: what is ahead is as it was.
-/
import Derived.Test.YtdmgpdanlfmadaaGreatOwnZ
namespace Go.Proofs.YtdmgpdanlfmadaaGreat
open Go.RowKit
def RowL (W : World) (lo hi : Nat) (A : Option Addr) (l : List Reg) (k : Nat) : Prop :=
  l.length ≤ k ∨ ∃ g cur, A = some ⟨g, 0, none⟩ ∧ lo ≤ g ∧ g < hi ∧ Blk W g 41 cur ∧ ∀ j, k * 5 ≤ j → j < l.length * 5 → cur[j]? = (l.flatMap Reg.cells)[j]?
theorem RowL.start {W : World} {base n c : Nat} {A : Option Addr} {l : List Reg} (h : W.ownsRow base 41 5 (.slice A n c) n (l.flatMap Reg.cells)) (hn : n = l.length) : RowL W base W.heap.size A l 0 := by
  rcases h.2 with ⟨h2, h3⟩ | ⟨g, cap, cur, e, hg, r⟩
  · left; omega
  · right
    injection e with e1 _ _
    obtain ⟨hh, _, _, _, ht⟩ := r
    refine ⟨g, cur, e1, hg, (Array.getElem?_eq_some_iff.1 hh).1, hh, fun j _ hj => ?_⟩
    rw [← ht, List.getElem?_take, if_pos (by omega), Array.getElem?_toList]
theorem RowL.up {W V : World} {lo hi k : Nat} {A : Option Addr} {l : List Reg} (h : RowL W lo hi A l k) (hb : Below hi W V) : RowL V lo hi A l k := by
  rcases h with h | ⟨g, cur, e, h1, h2, h3, h4⟩
  · exact .inl h
  · exact .inr ⟨g, cur, e, h1, h2, h3.below hb h2, h4⟩
theorem RowL.set_ {W : World} {lo hi k d g : Nat} {l : List Reg} (h : RowL W lo hi (some ⟨g, 0, none⟩) l k) (hd : d < 5) (u : Value) : RowL (W.setCell ⟨g, k * 5 + d, none⟩ u) lo hi (some ⟨g, 0, none⟩) l (k + 1) := by
  rcases h with h | ⟨g2, cur, e, h1, h2, h3, h4⟩
  · exact .inl (by omega)
  · injection e with e
    injection e with e
    subst e
    refine .inr ⟨g, _, rfl, h1, h2, h3.set_ (k * 5 + d) u, fun j hj hl => ?_⟩
    rw [Array.getElem?_setIfInBounds_ne (by omega)]
    exact h4 j (by omega) hl
theorem RowL.at_ {W : World} {lo hi k : Nat} {A : Option Addr} {l : List Reg} {r : Reg} (h : RowL W lo hi A l k) (hr : l[k]? = some r) : ∃ g, A = some ⟨g, 0, none⟩ ∧ lo ≤ g ∧ g < hi ∧ g < W.heap.size ∧ W.cell? ⟨g, k * 5, none⟩ = some (.int .u64 r.base) ∧ W.cell? ⟨g, k * 5 + 1, none⟩ = some (.int .u64 r.size) ∧ ∀ i, W.frozen? ⟨g, i, none⟩ = false := by
  have hlt : k < l.length := (List.getElem?_eq_some_iff.1 hr).1
  rcases h with h | ⟨g, cur, e, h1, h2, h3, h4⟩
  · omega
  · refine ⟨g, e, h1, h2, h3.lt, ?_, ?_, fun i => h3.frozen i⟩
    · rw [h3.cell, h4 (k * 5) (by omega) (by omega)]
      have := flat_at Reg.cells 5 (fun _ => rfl) l k r 0 hr (by omega)
      rw [Nat.add_zero] at this
      rw [this]; rfl
    · rw [h3.cell, h4 (k * 5 + 1) (by omega) (by omega), flat_at Reg.cells 5 (fun _ => rfl) l k r 1 hr (by omega)]
      rfl
end Go.Proofs.YtdmgpdanlfmadaaGreat
