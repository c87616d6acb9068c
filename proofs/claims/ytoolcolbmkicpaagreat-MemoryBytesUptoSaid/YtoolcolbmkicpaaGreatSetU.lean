/-
  A map[uint16]bool of the call's own as a set of numbers: made, stored into, deleted from. No condition but on its size.
-/
import Derived.Test.YtoolcolbmkicpaaGreatCore
import Derived.Maps.Own
import Derived.Maps.OwnSet
namespace Go.Proofs.YtoolcolbmkicpaaGreat
open Go.RowKit Go.Maps
theorem lawU16 : Keyed Tryz.prog 30 := Go.Maps.int_keyed Tryz.underlying30
/-- block b is a map of at most n entries whose keys are the numbers of S -/
def SetU (w : World) (b n : Nat) (S : Int → Bool) : Prop := ∃ D : DataW Unit, w.ownsMap Tryz.prog 30 (plainElem Tryz.prog 4) b n D ∧ ∀ x, has D (.int .u16 x) = S x
section
variable {w w' : World} {b n : Nat} {S : Int → Bool}
theorem SetU.made (w : World) : SetU (w.alloc (.map #[] 0)) w.heap.size 0 (fun _ => false) := ⟨.map [], World.ownsMap_made _ _ _ _, fun _ => rfl⟩
theorem SetU.lt (h : SetU w b n S) : b < w.heap.size := by obtain ⟨D, h, _⟩ := h; exact h.lt
theorem SetU.block (h : SetU w b n S) (hb : w'.heap[b]? = w.heap[b]?) : SetU w' b n S := by
  obtain ⟨D, ⟨es, clock, h1, h2⟩, h3⟩ := h
  exact ⟨D, ⟨es, clock, hb.trans h1, h2⟩, h3⟩
theorem SetU.below {B : Nat} (h : SetU w b n S) (hb : Below B w w') (hB : b < B) : SetU w' b n S := h.block (hb.block b hB)
theorem SetU.up (h : SetU w b n S) (hb : Below w.heap.size w w') : SetU w' b n S := h.below hb h.lt
theorem SetU.ne (h : SetU w b n S) {c o : Nat} {v : Value} (hc : w.cell? ⟨c, o, none⟩ = some v) : c ≠ b := by
  rintro rfl
  obtain ⟨D, ⟨es, clock, hh, _⟩, _⟩ := h
  simp [World.cell?, hh] at hc
theorem lit_ne {x y : Int} (h : x ≠ y) : (Lit.int .u16 x) ≠ .int .u16 y := fun e => h (by injection e)
theorem SetU.put (h : SetU w b n S) (hn : n < maxLen) {x : Int} (hx : (Lit.int .u16 x).wf = true) :
    ∃ w', (Instr.mapUpdate 63 (.map (some b)) (.int .u16 x) (.bool true)).run Tryz.prog w = .ok () w' ∧ SetU w' b (n + 1) (fun y => S y || y == x) ∧ w.grownBy w' (some b) ∧ w'.heap.size = w.heap.size := by
  obtain ⟨D, hD, hS⟩ := h
  obtain ⟨w', h1, h2, h3⟩ := hD.store lawU16 Tryz.underlying63 hn (Go.Maps.keyOf_int_mk Tryz.underlying30 hx) (plainElem_bool Tryz.underlying4 true)
  refine ⟨w', h1, ⟨_, h2, fun y => ?_⟩, h3.grown, ?_⟩
  · by_cases hy : y = x
    · subst hy
      rw [has_put_same hD.isMap (by first | trivial | exact hx | simp [WideAt.IsKeyLit])]; simp
    · rw [has_put_other (lit_ne hy), hS y]; simp [hy]
  · obtain ⟨_, _, _, _, _, rfl⟩ := h3
    simp [ChangeMaps.setBlock]
theorem SetU.del (h : SetU w b n S) {x : Int} (hx : (Lit.int .u16 x).wf = true) (ty : TypeId) :
    ∃ w', (Builtin.delete_ #[63, 30] ty #[.map (some b), .int .u16 x]).run Tryz.prog w = .ok (.tuple #[]) w' ∧ SetU w' b n (fun y => S y && !(y == x)) ∧ w.grownBy w' (some b) ∧ w'.heap.size = w.heap.size := by
  obtain ⟨D, hD, hS⟩ := h
  obtain ⟨w', h1, h2, h3⟩ := hD.drop lawU16 Tryz.underlying63 (Go.Maps.keyOf_int_mk Tryz.underlying30 hx) ty
  refine ⟨w', h1, ⟨_, h2, fun y => ?_⟩, h3.grown, ?_⟩
  · by_cases hy : y = x
    · subst hy; rw [has_del_same]; simp
    · rw [has_del_other (lit_ne hy), hS y]; simp [hy]
  · obtain ⟨_, _, _, _, _, rfl⟩ := h3
    simp [ChangeMaps.setBlock]
end
end Go.Proofs.YtoolcolbmkicpaaGreat
