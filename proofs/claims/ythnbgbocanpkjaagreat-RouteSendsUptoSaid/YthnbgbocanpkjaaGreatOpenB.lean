/-
  An argument of bytes reads as a list of numbers. No condition.
-/
import Derived.Test.YthnbgbocanpkjaaGreatCore
namespace Go.Proofs.YthnbgbocanpkjaaGreat
open Go.RowKit Go.ChangeShapes Go.WideShapes Go.ChangeAt Go.Deep
open Go.ChangeMaps (open_string shut_string)
section
variable {H : Type} {enc : TypeId × Value → H} {w : World} {base : Nat} {spare : Nat → Bool} {held : Bool}
theorem open_u8s {n : Nat} {cs : List Value} {y : DataW H × List MemPlace} (h : DataW.trod enc Tryz.prog w base spare held n 35 cs = some y) :
    ∃ (A : Option Addr) (c : Nat) (l : List Int), cs = [.slice A l.length c] ∧ l.length ≤ c ∧ c ≤ maxLen ∧ Rd w w.heap.size 1 A l.length (l.map (Value.int .u8)) ∧ (∀ x ∈ l, wU8 x) ∧ l.length + 1 ≤ Rows.uptoBulk y.1 := by
  obtain ⟨A, c, l, rows, h1, h2, h3, h4, h5, h6, h7⟩ := open_list (α := Int) (rel := fun x c => c = [Value.int .u8 x]) (ok := wU8) (g := fun _ => 0) Tryz.underlying35 cellsU8 (by omega) (fun n cs y hy => by
    obtain ⟨v, e, d, hw⟩ := DataW.trod_int Tryz.underlying5 hy
    exact ⟨v, e, hw, by subst d; simp [Rows.uptoBulk]⟩) h
  have hr := rowsOf_flat h4
  rw [← List.map_eq_flatMap] at hr
  refine ⟨A, c, l, h1, h2, h3, by rw [hr] at h5; simpa using h5, h6, by omega⟩
end
end Go.Proofs.YthnbgbocanpkjaaGreat
