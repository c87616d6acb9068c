/-
  How an Access and a pair of numbers read, as arguments of the laws of layer 17.
-/
import Derived.Test.YtaakcpdpkcadjaaOpen
namespace Go.Proofs.Ytaakcpdpkcadjaa
open Go.RowKit Go.ChangeShapes Go.WideShapes Go.ChangeAt
theorem okWide_arrM {P : Program} {w : World} {r : Reach} {base : Nat} {t e : TypeId} {n : Nat} {v : Value} (ht : P.underlying t = some (.array n e)) (h : Value.okWide P w r base t v) : ∃ cs, v = .agg cs ∧ cs.size = P.cellsOf t := by
  simp only [Value.okWide, ht] at h
  obtain ⟨cs, h1, h2, _⟩ := h
  exact ⟨cs, h1, h2⟩
theorem len2M {α : Type} {l : List α} (h : l.length = 2) : ∃ a b, l = [a, b] := by
  rcases l with _ | ⟨a, _ | ⟨b, _ | ⟨c, t⟩⟩⟩ <;> simp_all
section
variable {H : Type} {enc : TypeId × Value → H} {w : World} {base : Nat} {spare : Nat → Bool} {held : Bool}
theorem cellsAcc : Try.prog.cellsOf 46 = 3 := by kernel_rfl
theorem open_acc {n : Nat} {cs : List Value} {y : DataW H × List MemPlace} (h : DataW.trod enc Try.prog w base spare held n 46 cs = some y) : ∃ b z m : Int, cs = [.int .u64 b, .int .u64 z, .int .u8 m] ∧ wU64 b ∧ wU64 z ∧ wU8 m ∧ y.2 = [] := by
  obtain ⟨xs, m, _, hx, hl, hlen, hf⟩ := DataW.trod_struct Try.underlying46 h
  rw [cellsAcc] at hl
  obtain ⟨c0, c1, c2, rfl⟩ := len3 hl
  obtain ⟨y0, y1, y2, rfl⟩ := len3 (hlen.trans rfl)
  have h0 := hf 0 _ rfl
  simp [cellsU64] at h0
  obtain ⟨v0, e0, d0, w0⟩ := DataW.trod_int Try.underlying22 h0
  simp at e0
  subst e0 d0
  have h1 := hf 1 _ rfl
  simp [cellsU64] at h1
  obtain ⟨v1, e1, d1, w1⟩ := DataW.trod_int Try.underlying22 h1
  simp at e1
  subst e1 d1
  have h2 := hf 2 _ rfl
  simp [cellsU8] at h2
  obtain ⟨v2, e2, d2, w2⟩ := DataW.trod_int Try.underlying5 h2
  simp at e2
  subst e2 d2
  subst hx
  exact ⟨v0, v1, v2, rfl, w0, w1, w2, rfl⟩
theorem cellsPair : Try.prog.cellsOf 49 = 2 := by kernel_rfl
theorem open_pair {n : Nat} {cs : List Value} {y : DataW H × List MemPlace} (h : DataW.trod enc Try.prog w base spare held n 49 cs = some y) : ∃ p q : Int, cs = [.int .u16 p, .int .u16 q] ∧ wU16 p ∧ wU16 q ∧ y.2 = [] := by
  obtain ⟨xs, m, _, hx, hl, hlen, hf⟩ := DataW.trod_array Try.underlying49 h
  rw [cellsPair] at hl
  obtain ⟨c0, c1, rfl⟩ := len2M hl
  obtain ⟨y0, y1, rfl⟩ := len2M hlen
  have h0 := hf 0 (by decide)
  simp [cellsU16] at h0
  obtain ⟨v0, e0, d0, w0⟩ := DataW.trod_int Try.underlying41 h0
  simp at e0
  subst e0 d0
  have h1 := hf 1 (by decide)
  simp [cellsU16] at h1
  obtain ⟨v1, e1, d1, w1⟩ := DataW.trod_int Try.underlying41 h1
  simp at e1
  subst e1 d1
  subst hx
  exact ⟨v0, v1, rfl, w0, w1, rfl⟩
end
end Go.Proofs.Ytaakcpdpkcadjaa
