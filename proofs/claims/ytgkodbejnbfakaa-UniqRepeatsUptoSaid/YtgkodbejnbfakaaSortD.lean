/-
  The library's sort at uint16, walked: insertion sort, heap sort. No condition but on the size.
-/
import Derived.Test.YtgkodbejnbfakaaSortC
import Derived.Deep.Cut
namespace Go.Proofs.Ytgkodbejnbfakaa
open Go.RowKit Go.Sort
set_option maxRecDepth 100000 in
set_option maxHeartbeats 4000000 in
theorem choose_ok (W0 w : World) (e : TypeId) (blk off n cap a b : Nat) (d : Array Int) (hA : Arr W0 w e blk off n d) (hab : a + 8 ≤ b) (hb : b ≤ n) (hn : n ≤ 4194304) :
    Calls Try.prog 60 #[.slice (some ⟨blk, off, none⟩) n cap, .int .i64 a, .int .i64 b] w fun r w' => ∃ (p : Nat) (h : Int), r = .returned (.tuple #[.int .i64 p, .int .i64 h]) ∧ a ≤ p ∧ p < b ∧ (h = 0 ∨ h = 1 ∨ h = 2) ∧ Arr W0 w' e blk off n d := by
  obtain ⟨l, hl⟩ : ∃ l, b = a + l := ⟨b - a, by omega⟩
  have hsub : (b : Int) - (a : Int) = (l : Int) := by omega
  obtain ⟨q, hq⟩ : ∃ q, q = l / 4 := ⟨_, rfl⟩
  have hdiv : (l : Int).tdiv 4 = (q : Int) := by rw [Int.tdiv_eq_ediv_of_nonneg (by omega)]; omega
  have hl8 : 8 ≤ l := by omega
  have hl8i : (8 : Int) ≤ (l : Int) := by omega
  have hq1 : a + q * 3 + 1 < b := by omega
  have hq2 : 50 ≤ l → 12 ≤ q := by omega
  have h0 : Piv W0 (w.alloc (.cells #[.int .i64 0] 3)) e blk off n d w.heap.size 0 := ⟨hA.alloc _, hA.size, ⟨0, by simp, by omega, by omega⟩, by simp⟩
  have H0 := Lib.hid h0
  have HL := Lib.hid hl
  clear hA h0 hl hq
  go_enter Try.func60, Try.ntmps60
  by_cases h50 : 50 ≤ l
  · have h50i : (50 : Int) ≤ (l : Int) := by omega
    have hq3 := hq2 h50
    have hq4 : a + q * 3 + 1 < n := by have := HL.out; omega
    go_wp2_with fail
    refine (medianAdj_ok W0 _ e blk off n cap w.heap.size (a + q) 0 d H0.out (by omega) (by omega) hn (by omega)).mono ?_
    rintro r w1 ⟨i1, rfl, i1a, i1b, hP⟩
    have HP := Lib.hid hP
    clear hP
    go_wp2_with fail
    refine (medianAdj_ok W0 w1 e blk off n cap w.heap.size (a + q * 2) (0 + 3) d HP.out (by omega) (by omega) hn (by omega)).mono ?_
    rintro r w2 ⟨i2, rfl, i2a, i2b, hP⟩
    have HP := Lib.hid hP
    clear hP
    go_wp2_with fail
    refine (medianAdj_ok W0 w2 e blk off n cap w.heap.size (a + q * 3) (0 + 3 + 3) d HP.out (by omega) (by omega) hn (by omega)).mono ?_
    rintro r w3 ⟨i3, rfl, i3a, i3b, hP⟩
    have HP := Lib.hid hP
    clear hP
    go_wp2_with fail
    refine (median_ok W0 w3 e blk off n cap w.heap.size i1 i2 i3 (0 + 3 + 3 + 3) d HP.out (by omega) (by omega) (by omega) hn (by omega)).mono ?_
    rintro r w4 ⟨x, rfl, hx, hP⟩
    have HP := Lib.hid hP
    have hxa : a ≤ x ∧ x < b := by have := HL.out; omega
    clear hP hx
    obtain ⟨s, hc, hs0, hs1⟩ := HP.out.cnt
    have hfr := HP.out.free
    by_cases z0 : s = 0
    · subst z0
      go_wp2
      go_returns
      exact ⟨x, 1, rfl, by omega, by omega, by omega, HP.out.arr⟩
    · have z0b : (s == 0) = false := beq_eq_false_iff_ne.2 z0
      by_cases z1 : s = 12
      · subst z1
        go_wp2
        go_returns
        exact ⟨x, 2, rfl, by omega, by omega, by omega, HP.out.arr⟩
      · have z1b : (s == 12) = false := beq_eq_false_iff_ne.2 z1
        go_wp2
        go_returns
        exact ⟨x, 0, rfl, by omega, by omega, by omega, HP.out.arr⟩
  · have h50i : decide ((50 : Int) ≤ (l : Int)) = false := decide_eq_false (by omega)
    go_wp2_with fail
    refine (median_ok W0 _ e blk off n cap w.heap.size (a + q) (a + q * 2) (a + q * 3) 0 d H0.out (by omega) (by omega) (by omega) hn (by omega)).mono ?_
    rintro r w4 ⟨x, rfl, hx, hP⟩
    have HP := Lib.hid hP
    have hxa : a ≤ x ∧ x < b := by omega
    clear hP hx
    obtain ⟨s, hc, hs0, hs1⟩ := HP.out.cnt
    have hfr := HP.out.free
    by_cases z0 : s = 0
    · subst z0
      go_wp2
      go_returns
      exact ⟨x, 1, rfl, by omega, by omega, by omega, HP.out.arr⟩
    · have z0b : (s == 0) = false := beq_eq_false_iff_ne.2 z0
      by_cases z1 : s = 12
      · subst z1
        go_wp2
        go_returns
        exact ⟨x, 2, rfl, by omega, by omega, by omega, HP.out.arr⟩
      · have z1b : (s == 12) = false := beq_eq_false_iff_ne.2 z1
        go_wp2
        go_returns
        exact ⟨x, 0, rfl, by omega, by omega, by omega, HP.out.arr⟩
end Go.Proofs.Ytgkodbejnbfakaa
