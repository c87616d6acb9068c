/-
  What the reference of layer 13 (uniq) computes, walked once.
-/
import Derived.Test.YtldchpmilknlmaaGreatRef05
namespace Go.Proofs.YtldchpmilknlmaaGreat
open Go.RowKit
/-- the first index from i on at which p holds, or -1 -/
def idxFrom {α : Type} (p : α → Bool) : Nat → List α → Int
  | _, [] => -1
  | i, x :: r => if p x then i else idxFrom p (i + 1) r
def idx {α : Type} (p : α → Bool) (l : List α) : Int := idxFrom p 0 l
theorem idx_hit {α : Type} {p : α → Bool} {l : List α} {k : Nat} {x : α} {v : Int} (h : v = idxFrom p k (l.drop k)) (hx : l[k]? = some x) (hp : p x = true) : v = k := by
  rw [h, drop_cons hx, idxFrom, if_pos hp]
theorem idx_miss {α : Type} {p : α → Bool} {l : List α} {k : Nat} {x : α} {v : Int} (h : v = idxFrom p k (l.drop k)) (hx : l[k]? = some x) (hp : p x = false) : v = idxFrom p (k + 1) (l.drop (k + 1)) := by
  rw [h, drop_cons hx, idxFrom, if_neg (by rw [hp]; decide)]
theorem idx_end {α : Type} {p : α → Bool} {l : List α} {v : Int} (h : v = idxFrom p l.length (l.drop l.length)) : v = -1 := by
  rw [h, List.drop_length, idxFrom]
theorem below_drewN {B : Nat} {a w : World} (h : Below B a w) (n : Nat) : Below B a (w.drewN n) := ⟨h.os, h.tape, h.output, h.size, h.block⟩
theorem beqb_cases (a b : ByteArray) : (a == b) = true ∨ (a == b) = false := by cases (a == b) <;> simp
theorem beq_cases (a b : Int) : (a == b) = true ∨ (a == b) = false := by cases (a == b) <;> simp

/-- the first index at which an element stands that stood before, or -1 -/
def repFrom {α : Type} [DecidableEq α] : List α → Nat → List α → Int
  | _, _, [] => -1
  | seen, i, x :: r => if x ∈ seen then i else repFrom (seen ++ [x]) (i + 1) r
def rep {α : Type} [DecidableEq α] (l : List α) : Int := repFrom [] 0 l
theorem rep_hit {α : Type} [DecidableEq α] {l : List α} {i : Nat} {x : α} {v : Int} (h : v = repFrom (l.take i) i (l.drop i)) (hx : l[i]? = some x) (hm : x ∈ l.take i) : v = i := by
  rw [h, drop_cons hx, repFrom, if_pos hm]
theorem rep_miss {α : Type} [DecidableEq α] {l : List α} {i : Nat} {x : α} {v : Int} (h : v = repFrom (l.take i) i (l.drop i)) (hx : l[i]? = some x) (hm : x ∉ l.take i) : v = repFrom (l.take (i + 1)) (i + 1) (l.drop (i + 1)) := by
  rw [h, drop_cons hx, repFrom, if_neg hm, take_next hx]
theorem rep_end {α : Type} [DecidableEq α] {l : List α} {v : Int} (h : v = repFrom (l.take l.length) l.length (l.drop l.length)) : v = -1 := by
  rw [h, List.drop_length, repFrom]
theorem mem_take_of {α : Type} {l : List α} {i k : Nat} {x : α} (hk : l[k]? = some x) (h : k < i) : x ∈ l.take i := by
  refine List.mem_of_getElem? (i := k) ?_
  rw [List.getElem?_take, if_pos h]
  exact hk
theorem not_mem_next {α : Type} {l : List α} {k : Nat} {x y : α} (hk : l[k]? = some y) (h : x ∉ l.take k) (hne : y ≠ x) : x ∉ l.take (k + 1) := by
  rw [take_next hk, List.mem_append, List.mem_singleton]
  rintro (h1 | h1)
  · exact h h1
  · exact hne h1.symm
end Go.Proofs.YtldchpmilknlmaaGreat
