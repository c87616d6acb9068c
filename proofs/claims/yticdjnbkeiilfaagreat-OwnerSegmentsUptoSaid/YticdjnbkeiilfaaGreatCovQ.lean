/-
  All addresses of a segment have the same regions: plain. It speaks of no program's text.
-/
import Derived.Test.YticdjnbkeiilfaaGreatOwnI
namespace Go.Proofs.YticdjnbkeiilfaaGreat
section
variable {l : List Reg}
/-- all addresses of a range have the same regions -/
theorem seg_same (h : SegsOk l (mapL l)) (hl : okR l) {x y a b : Int} (h0 : 0 ≤ x) (h1 : x ≤ 18446744073709551615) (hv : refSeg (segsL l) x = (a, b)) (h2 : a ≤ y) (h3 : y ≤ b) : (l.filter fun r => covR r y) = (l.filter fun r => covR r x) := by
  obtain ⟨j, s, _, hj, q1, q2, q3⟩ := h.find h0 h1
  have hr := h.refSeg hl hj q1 q2
  rw [hv] at hr
  injection hr with e1 e2
  have ht := endSeg_top h hj
  have := h.same_seg hj (x := y) (by omega) (by omega) (by have := ht.2; omega)
  rw [← atK_regs, ← atK_regs, ← this, ← q3]
theorem seg_in (h : SegsOk l (mapL l)) (hl : okR l) {x a b : Int} (h0 : 0 ≤ x) (h1 : x ≤ 18446744073709551615) (hv : refSeg (segsL l) x = (a, b)) : 0 ≤ a ∧ a ≤ b ∧ b ≤ 18446744073709551615 := by
  obtain ⟨j, s, _, hj, q1, q2, q3⟩ := h.find h0 h1
  have hr := h.refSeg hl hj q1 q2
  rw [hv] at hr
  injection hr with e1 e2
  have ht := endSeg_top h hj
  have h4 := h.lo_le (i := 0) (j := j) (by omega) (List.getElem?_eq_some_iff.1 hj).1
  rw [(seg_first h).2, loAt_at hj] at h4
  subst e1 e2
  exact ⟨h4, ht.1, ht.2⟩
end
end Go.Proofs.YticdjnbkeiilfaaGreat
