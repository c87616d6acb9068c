/-
  Worlds that have only grown, by draws and new blocks: what a comparison leaves behind. It speaks of no program.
-/
import Derived.Sort.Grow
import Derived.Test.YtldchpmilknlmaaGreatCmpC
namespace Go.Proofs.YtldchpmilknlmaaGreat
open Go.RowKit Go.Sort
def Grown (W V : World) : Prop := ∃ q os, V = grow (W.drewN q) os
theorem Grown.refl (W : World) : Grown W W := ⟨0, #[], by simp [grow, World.drewN]⟩
theorem Grown.trans {A B C : World} (h : Grown A B) (k : Grown B C) : Grown A C := by
  obtain ⟨q, os, rfl⟩ := h
  obtain ⟨p, us, rfl⟩ := k
  exact ⟨q + p, os ++ us, by simp [grow, World.drewN, Array.append_assoc, Nat.add_assoc]⟩
theorem Grown.alloc {A B : World} (h : Grown A B) (o : Obj) : Grown A (B.alloc o) := h.trans ⟨0, #[o], by rw [alloc_eq_grow]; simp [grow, World.drewN]⟩
theorem Grown.drew {A B : World} (h : Grown A B) : Grown A B.drew := h.trans ⟨1, #[], by rw [grow_empty]; rfl⟩
theorem Grown.drewN {A B : World} (h : Grown A B) (n : Nat) : Grown A (B.drewN n) := h.trans ⟨n, #[], by rw [grow_empty]⟩
theorem Grown.below {A B : World} (h : Grown A B) : Below A.heap.size A B := by
  obtain ⟨q, os, rfl⟩ := h
  refine ⟨rfl, rfl, rfl, by simp [grow, World.drewN], fun k hk => ?_⟩
  simp only [grow, World.drewN]
  exact Array.getElem?_append_left hk
theorem orNew (l : List Int) (vs : Array Value) (n : Nat) (hvs : vs = (l.map (Value.int .i64)).toArray) (hn : n = l.length) (hl : l.length ≤ 1048576) (W0 V : World) (bl : Nat) (hV : V = (W0.alloc (.cells vs 3)).drew) (hbl : bl = W0.heap.size) :
    Calls Tryz.prog 83 #[.slice (some ⟨bl, 0, none⟩) n n] V fun e w' => e = .returned (.int .i64 (orL l)) ∧ w' = V := by
  subst hn hbl hV hvs
  refine cmpOrL_ok l _ _ _ hl ⟨by simp, fun _ => ⟨_, _, rfl, by show W0.heap.size < (W0.alloc _).heap.size; simp, fun j u hu => ?_⟩⟩
  have := World.news_of_block (heap_alloc_new W0 (.cells (l.map (Value.int .i64)).toArray 3)) j u (by simpa using hu)
  rw [addr_add] at this
  exact this
end Go.Proofs.YtldchpmilknlmaaGreat
