/-
  Rows in memory of the call's own: what they share, at any element type. No condition.
-/
import Derived.Test.YtldchpmilknlmaaGreatMrgSt
namespace Go.Proofs.YtldchpmilknlmaaGreat
open Go.RowKit
theorem infoPartition : (Tryz.prog.info? 36).map (fun i => (i.zero, i.size, i.bytes)) = some (some (.agg #[.int .u16 0, .string .empty, .int .u64 0, .int .u64 0]), 4, 40) := by kernel_rfl
theorem infoWindow : (Tryz.prog.info? 38).map (fun i => (i.zero, i.size, i.bytes)) = some (some (.agg #[.int .u64 0, .int .u64 0, .int .u16 0]), 3, 24) := by kernel_rfl
theorem infoRegion : (Tryz.prog.info? 40).map (fun i => (i.zero, i.size, i.bytes)) = some (some (.agg #[.int .u64 0, .int .u64 0, .int .u16 0, .int .u8 0, .bool false]), 5, 24) := by kernel_rfl
theorem infoPort : (Tryz.prog.info? 43).map (fun i => (i.zero, i.size, i.bytes)) = some (some (.agg #[.int .u16 0, .int .u16 0, .string .empty, .bool false, .bool false, .int .u32 0]), 6, 32) := by kernel_rfl
theorem infoChannel : (Tryz.prog.info? 46).map (fun i => (i.zero, i.size, i.bytes)) = some (some (.agg #[.int .u16 0, .int .u16 0, .slice none 0 0]), 3, 32) := by kernel_rfl
theorem onePar (l : List Par) : ∀ u ∈ l.flatMap Par.cells, u.oneCell' = true := by
  intro u hu
  obtain ⟨x, _, hx⟩ := List.mem_flatMap.1 hu
  simp [Par.cells] at hx
  rcases hx with rfl | rfl | rfl | rfl <;> rfl
theorem oneWin (l : List Win) : ∀ u ∈ l.flatMap Win.cells, u.oneCell' = true := by
  intro u hu
  obtain ⟨x, _, hx⟩ := List.mem_flatMap.1 hu
  simp [Win.cells] at hx
  rcases hx with rfl | rfl | rfl <;> rfl
theorem oneReg (l : List Reg) : ∀ u ∈ l.flatMap Reg.cells, u.oneCell' = true := by
  intro u hu
  obtain ⟨x, _, hx⟩ := List.mem_flatMap.1 hu
  simp [Reg.cells] at hx
  rcases hx with rfl | rfl | rfl | rfl | rfl <;> rfl
theorem onePrt (l : List Prt) : ∀ u ∈ l.flatMap Prt.cells, u.oneCell' = true := by
  intro u hu
  obtain ⟨x, _, hx⟩ := List.mem_flatMap.1 hu
  simp [Prt.cells] at hx
  rcases hx with rfl | rfl | rfl | rfl | rfl | rfl <;> rfl
theorem own_base0 {w : World} {base : Nat} {e : TypeId} {size n : Nat} {v : Value} {xs : List Value} (h : w.ownsRow base e size v n xs) : w.ownsRow 0 e size v n xs := by
  refine ⟨h.1, ?_⟩
  rcases h.2 with h2 | ⟨g, cap, cur, rfl, hb, r⟩
  · exact .inl h2
  · exact .inr ⟨g, cap, cur, rfl, Nat.zero_le _, r⟩
theorem own_base {w : World} {base B : Nat} {e : TypeId} {size n : Nat} {v : Value} {xs : List Value} (h : w.ownsRow base e size v n xs) (hB : B ≤ base) : w.ownsRow B e size v n xs := by
  refine ⟨h.1, ?_⟩
  rcases h.2 with h2 | ⟨g, cap, cur, rfl, hb, r⟩
  · exact .inl h2
  · exact .inr ⟨g, cap, cur, rfl, Nat.le_trans hB hb, r⟩
theorem own_but {w w' : World} {base : Nat} {e t : TypeId} {size n g0 : Nat} {v : Value} {xs : List Value} {cs : Array Value} (h : w.ownsRow base e size v n xs) (hB : Blk w g0 t cs) (hne : t ≠ e) (hk : ∀ g, g ≠ g0 → w'.heap[g]? = w.heap[g]?) : w'.ownsRow base e size v n xs := by
  refine ⟨h.1, ?_⟩
  rcases h.2 with h2 | ⟨g, cap, cur, rfl, hb, hh, r⟩
  · exact .inl h2
  · refine .inr ⟨g, cap, cur, rfl, hb, (hk g ?_).trans hh, r⟩
    rintro rfl
    unfold Blk at hB
    rw [hB] at hh
    injection hh with hh
    injection hh with _ hh
    exact hne hh
theorem own_slice {w : World} {base : Nat} {e : TypeId} {size n c : Nat} {A : Option Addr} {xs : List Value} (h : w.ownsRow base e size (.slice A n c) n xs) : (n ≤ c ∧ c ≤ maxLen) ∧ Rd w w.heap.size size A n xs := by
  obtain ⟨A', c', e, h1, h2, h3⟩ := own_form h
  injection e with e1 _ e2
  subst e1 e2
  exact ⟨⟨h1, h2⟩, h3⟩
theorem rd_none {w : World} {B sz n : Nat} {xs : List Value} (h : Rd w B sz none n xs) : n = 0 := by
  rcases Nat.eq_zero_or_pos n with h0 | h0
  · exact h0
  · obtain ⟨b, o, e, _⟩ := h.2 h0
    cases e
end Go.Proofs.YtldchpmilknlmaaGreat
