/-
  How an Access and a pair of numbers read, as arguments of the laws of layer 17.
-/
import Derived.Test.YticdjnbkeiilfaaGreatCore
namespace Go.Proofs.YticdjnbkeiilfaaGreat
open Go.RowKit Go.ChangeShapes Go.WideShapes Go.ChangeAt
theorem okWide_arrM {P : Program} {w : World} {r : Reach} {base : Nat} {t e : TypeId} {n : Nat} {v : Value} (ht : P.underlying t = some (.array n e)) (h : Value.okWide P w r base t v) : ∃ cs, v = .agg cs ∧ cs.size = P.cellsOf t := by
  simp only [Value.okWide, ht] at h
  obtain ⟨cs, h1, h2, _⟩ := h
  exact ⟨cs, h1, h2⟩
theorem len2M {α : Type} {l : List α} (h : l.length = 2) : ∃ a b, l = [a, b] := by
  rcases l with _ | ⟨a, _ | ⟨b, _ | ⟨c, t⟩⟩⟩ <;> simp_all
section
variable {H : Type} {enc : TypeId × Value → H} {w : World} {base : Nat} {spare : Nat → Bool} {held : Bool}
theorem cellsPair : Tryz.prog.cellsOf 60 = 2 := by kernel_rfl
theorem open_pair {n : Nat} {cs : List Value} {y : DataW H × List MemPlace} (h : DataW.trod enc Tryz.prog w base spare held n 60 cs = some y) : ∃ p q : Int, cs = [.int .u16 p, .int .u16 q] ∧ wU16 p ∧ wU16 q ∧ y.2 = [] := by
  obtain ⟨xs, m, _, hx, hl, hlen, hf⟩ := DataW.trod_array Tryz.underlying60 h
  rw [cellsPair] at hl
  obtain ⟨c0, c1, rfl⟩ := len2M hl
  obtain ⟨y0, y1, rfl⟩ := len2M hlen
  have h0 := hf 0 (by decide)
  simp [cellsU16] at h0
  obtain ⟨v0, e0, d0, w0⟩ := DataW.trod_int Tryz.underlying37 h0
  simp at e0
  subst e0 d0
  have h1 := hf 1 (by decide)
  simp [cellsU16] at h1
  obtain ⟨v1, e1, d1, w1⟩ := DataW.trod_int Tryz.underlying37 h1
  simp at e1
  subst e1 d1
  subst hx
  exact ⟨v0, v1, rfl, w0, w1, rfl⟩
end
end Go.Proofs.YticdjnbkeiilfaaGreat
