/-
  The library's sort at uint16, walked: insertion sort, heap sort. No condition but on the size.
-/
import Derived.Test.YtgkodbejnbfakaaSortB
import Derived.Deep.Cut
namespace Go.Proofs.Ytgkodbejnbfakaa
open Go.RowKit Go.Sort
theorem rev_go (i j : Nat) (d : Array Int) (h : i < j) : reverseLoop i j d = reverseLoop (i + 1) (j - 1) (swp d i j) := by rw [reverseLoop, if_pos h]
theorem rev_stop (i j : Nat) (d : Array Int) (h : ¬ i < j) : reverseLoop i j d = d := by rw [reverseLoop, if_neg h]
set_option maxRecDepth 100000 in
set_option maxHeartbeats 4000000 in
theorem revr_ok (W0 w : World) (e : TypeId) (blk off n cap a b : Nat) (d : Array Int) (hA : Arr W0 w e blk off n d) (hab : a < b) (hb : b ≤ n) (hn : n ≤ 4194304) :
    Calls Try.prog 61 #[.slice (some ⟨blk, off, none⟩) n cap, .int .i64 a, .int .i64 b] w fun r w' => r = .returned (.tuple #[]) ∧ Arr W0 w' e blk off n (Sort.reverseRange d a b) := by
  have H0 := Lib.hid hA
  clear hA
  have hb1 : ((b : Int) - 1) = ((b - 1 : Nat) : Int) := by omega
  go_enter Try.func61, Try.ntmps61
  go_wp2
  try rw [hb1]
  generalize hB : ((b - 1 : Nat) : Int) = B1
  have HB1 := Lib.hid hB
  clear hB hb1
  go_loopg [6, 7] b (fun kk s2 s3 wr => ∃ (i j : Nat) (jz : Int) (dk : Array Int), s2 = .int .i64 i ∧ s3 = .int .i64 jz ∧ ((i : Int) < jz → jz = j ∧ j < n) ∧ (¬ (i : Int) < jz → ¬ i < j) ∧ j - i ≤ kk ∧ i ≤ 4194304 ∧ -1 ≤ jz ∧ jz ≤ 4194304 ∧ Hid (Arr W0 wr e blk off n dk) ∧ Hid (reverseLoop i j dk = reverseLoop a (b - 1) d))
  case atStart => exact ⟨a, b - 1, B1, d, rfl, rfl, fun h => ⟨HB1.out.symm, by omega⟩, fun h => by have := HB1.out; omega, by omega, by omega, by have := HB1.out; omega, by have := HB1.out; omega, H0, Lib.hid rfl⟩
  case round =>
    obtain ⟨i, j, jz, dk, rfl, rfl, h1, h2, hkk, hi, hj0, hj1, hK, HO⟩ := hrel
    have hz := hK.out.dsize
    by_cases hlt : (i : Int) < jz
    · obtain ⟨rfl, hjn⟩ := h1 hlt
      have hij : i < j := by omega
      have hin : i < n := by omega
      obtain ⟨G, hG, hcw, hfw⟩ := hK.out.fam
      have HG := Lib.hid hG
      clear hG
      have hne : i ≠ j := by omega
      clear h1 h2
      go_upto_region 3 with (fail)
      go_region
      all_goals
        go_wp2
        go_roundg (j - 1 - (i + 1))
        case measure => omega
        case rel =>
          refine ⟨i + 1, j - 1, (j : Int) - 1, swp dk i j, by go_num, rfl, fun h => ⟨by omega, by omega⟩, fun h => by omega, by omega, by omega, by omega, by omega, Lib.hid ?_, Lib.hid ?_⟩
          · simp only [HG.out]
            exact (hK.out.swap 0 hin hjn).same rfl rfl rfl rfl
          · rw [← HO.out, rev_go i j dk hij]
    · have hnj := h2 hlt
      go_wp2
      go_end0
      exact ⟨rfl, by rw [Sort.reverseRange, ← HO.out, rev_stop _ _ _ hnj]; exact hK.out⟩
/-- an array under sort, and beside it the count of swaps in a block of the call's own -/
structure Piv (W0 W : World) (e : TypeId) (blk off n : Nat) (d : Array Int) (g : Nat) (K : Int) : Prop where
  arr : Arr W0 W e blk off n d
  far : W0.heap.size ≤ g
  cnt : ∃ s : Int, W.cell? ⟨g, 0, none⟩ = some (.int .i64 s) ∧ 0 ≤ s ∧ s ≤ K
  free : W.frozen? ⟨g, 0, none⟩ = false
theorem Piv.more {W0 W : World} {e : TypeId} {blk off n g : Nat} {d : Array Int} {K K' : Int} (h : Piv W0 W e blk off n d g K) (hK : K ≤ K') : Piv W0 W e blk off n d g K' := by
  obtain ⟨a, b, ⟨s, c1, c2, c3⟩, f⟩ := h
  exact ⟨a, b, ⟨s, c1, c2, by omega⟩, f⟩
theorem Piv.drewN {W0 W : World} {e : TypeId} {blk off n g : Nat} {d : Array Int} {K : Int} (h : Piv W0 W e blk off n d g K) (q : Nat) : Piv W0 (W.drewN q) e blk off n d g K := ⟨h.arr.drewN q, h.far, h.cnt, h.free⟩
theorem Arr.away {W0 W : World} {e : TypeId} {blk off n g o : Nat} {d : Array Int} (h : Arr W0 W e blk off n d) (hg : W0.heap.size ≤ g) (v : Value) : Arr W0 (W.setCell ⟨g, o, none⟩ v) e blk off n d := by
  have hl := h.lt
  obtain ⟨a, b, c, s, ot, ⟨cur0, cur, r1, r2, r⟩, z⟩ := h
  exact ⟨a, b, c, by simpa [World.setCell] using s, fun k hk hne => (Below.heap_setCell _ _ _ k (by show k ≠ g; omega)).trans (ot k hk hne), ⟨cur0, cur, r1, (Below.heap_setCell _ _ _ blk (by show blk ≠ g; omega)).trans r2, r⟩, z⟩
theorem inc_cell {W : World} {g : Nat} {v : Value} (hc : W.cell? ⟨g, 0, none⟩ = some v) (u : Value) : (W.setCell ⟨g, 0, none⟩ u).cell? ⟨g, 0, none⟩ = some u := by
  obtain ⟨c, e, fr, h1, h2⟩ := cells_of_cell? hc
  have h3 : (W.setCell ⟨g, 0, none⟩ u).heap[g]? = some (.cells (c.setIfInBounds 0 u) e fr) := by simp [World.setCell, Array.getElem?_modify, h1]
  have hl := (Array.getElem?_eq_some_iff.1 h2).1
  rw [cell_of_row _ g 0 _ e fr h3, Array.getElem?_setIfInBounds, if_pos rfl, if_pos hl]
theorem Piv.inc {W0 W : World} {e : TypeId} {blk off n g : Nat} {d : Array Int} {K s : Int} (h : Piv W0 W e blk off n d g K) (hc : W.cell? ⟨g, 0, none⟩ = some (.int .i64 s)) : Piv W0 (W.setCell ⟨g, 0, none⟩ (.int .i64 (s + 1))) e blk off n d g (K + 1) := by
  obtain ⟨s', c1, c2, c3⟩ := h.cnt
  rw [hc] at c1
  injection c1 with c1
  injection c1 with _ c1
  subst c1
  have hf := h.free
  refine ⟨h.arr.away h.far _, h.far, ⟨s + 1, ?_, by omega, by omega⟩, ?_⟩
  · exact inc_cell hc _
  · simpa using hf
set_option maxRecDepth 100000 in
set_option maxHeartbeats 2000000 in
theorem order2_ok (W0 w : World) (e : TypeId) (blk off n cap g a b : Nat) (K : Int) (d : Array Int) (hA : Piv W0 w e blk off n d g K) (ha : a < n) (hb : b < n) (hn : n ≤ 4194304) (hK : K ≤ 1000) :
    Calls Try.prog 74 #[.slice (some ⟨blk, off, none⟩) n cap, .int .i64 a, .int .i64 b, .pointer (some ⟨g, 0, none⟩)] w fun r w' => ∃ x y : Nat, r = .returned (.tuple #[.int .i64 x, .int .i64 y]) ∧ ((x = a ∧ y = b) ∨ (x = b ∧ y = a)) ∧ Piv W0 w' e blk off n d g (K + 1) := by
  obtain ⟨G, hG, hcw, hfw⟩ := hA.arr.fam
  have HG := Lib.hid hG
  clear hG
  have H0 := Lib.hid hA
  clear hA
  go_enter Try.func74, Try.ntmps74
  go_wp2
  go_quiet (first | (go_at_call 63; refine Calls.quiet_of_same (less_ok _ _ _)))
  have hq := H0.out.drewN nq
  generalize World.drewN w nq = wq at hq ⊢
  obtain ⟨s, hc, hs0, hs1⟩ := hq.cnt
  have hfr := hq.free
  go_wp2
  · go_returns
    exact ⟨b, a, rfl, Or.inr ⟨rfl, rfl⟩, hq.inc hc⟩
  · go_returns
    exact ⟨a, b, rfl, Or.inl ⟨rfl, rfl⟩, hq.more (by omega)⟩
set_option maxRecDepth 100000 in
set_option maxHeartbeats 2000000 in
theorem median_ok (W0 w : World) (e : TypeId) (blk off n cap g a b c : Nat) (K : Int) (d : Array Int) (hA : Piv W0 w e blk off n d g K) (ha : a < n) (hb : b < n) (hc : c < n) (hn : n ≤ 4194304) (hK : K ≤ 900) :
    Calls Try.prog 72 #[.slice (some ⟨blk, off, none⟩) n cap, .int .i64 a, .int .i64 b, .int .i64 c, .pointer (some ⟨g, 0, none⟩)] w fun r w' => ∃ x : Nat, r = .returned (.int .i64 x) ∧ (x = a ∨ x = b ∨ x = c) ∧ Piv W0 w' e blk off n d g (K + 3) := by
  have H0 := Lib.hid hA
  clear hA
  go_enter Try.func72, Try.ntmps72
  go_wp2_with fail
  refine (order2_ok W0 w e blk off n cap g a b K d H0.out ha hb hn (by omega)).mono ?_
  rintro r w1 ⟨x1, y1, rfl, h1, hP1⟩
  have HP1 := Lib.hid hP1
  clear hP1
  have b1 : x1 < n := by omega
  have b2 : y1 < n := by omega
  go_wp2_with fail
  refine (order2_ok W0 w1 e blk off n cap g y1 c (K + 1) d HP1.out b2 hc hn (by omega)).mono ?_
  rintro r w2 ⟨x2, y2, rfl, h2, hP2⟩
  have HP2 := Lib.hid hP2
  clear hP2
  have b3 : x2 < n := by omega
  go_wp2_with fail
  refine (order2_ok W0 w2 e blk off n cap g x1 x2 (K + 1 + 1) d HP2.out b1 b3 hn (by omega)).mono ?_
  rintro r w3 ⟨x3, y3, rfl, h3, hP3⟩
  have HP3 := Lib.hid hP3
  clear hP3
  go_wp2
  go_returns
  exact ⟨y3, rfl, by omega, HP3.out.more (by omega)⟩
set_option maxRecDepth 100000 in
set_option maxHeartbeats 2000000 in
theorem medianAdj_ok (W0 w : World) (e : TypeId) (blk off n cap g a : Nat) (K : Int) (d : Array Int) (hA : Piv W0 w e blk off n d g K) (ha0 : 0 < a) (ha : a + 1 < n) (hn : n ≤ 4194304) (hK : K ≤ 900) :
    Calls Try.prog 71 #[.slice (some ⟨blk, off, none⟩) n cap, .int .i64 a, .pointer (some ⟨g, 0, none⟩)] w fun r w' => ∃ x : Nat, r = .returned (.int .i64 x) ∧ a ≤ x + 1 ∧ x ≤ a + 1 ∧ Piv W0 w' e blk off n d g (K + 3) := by
  have H0 := Lib.hid hA
  clear hA
  obtain ⟨m, rfl⟩ : ∃ m, a = m + 1 := ⟨a - 1, by omega⟩
  go_enter Try.func71, Try.ntmps71
  go_wp2_with fail
  refine (median_ok W0 w e blk off n cap g m (m + 1) (m + 1 + 1) K d H0.out (by omega) (by omega) (by omega) hn hK).mono ?_
  rintro r w1 ⟨x, rfl, hx, hP⟩
  have HP := Lib.hid hP
  clear hP
  go_wp2
  go_returns
  exact ⟨x, rfl, by omega, by omega, HP.out⟩
end Go.Proofs.Ytgkodbejnbfakaa
