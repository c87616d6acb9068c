/-
  The library's sort at uint16, walked: insertion sort, heap sort. No condition but on the size.
-/
import Derived.Test.YtgkodbejnbfakaaSortA
import Derived.Deep.Cut
namespace Go.Proofs.Ytgkodbejnbfakaa
open Go.RowKit Go.Sort
theorem tdiv_half (h : Nat) : ((h : Int) - 1).tdiv 2 = (((h - 1) / 2 + 1 : Nat) : Int) - 1 := by
  rcases h with _ | h
  · rfl
  · rw [show (((h + 1 : Nat) : Int) - 1) = (h : Int) by omega, Int.tdiv_eq_ediv_of_nonneg (by omega)]
    omega
set_option maxRecDepth 100000 in
set_option maxHeartbeats 4000000 in
theorem heap_ok (W0 w : World) (e : TypeId) (blk off n cap a b : Nat) (d : Array Int) (hA : Arr W0 w e blk off n d) (hab : a ≤ b) (hb : b ≤ n) (hn : n ≤ 4194304) :
    Calls Try.prog 58 #[.slice (some ⟨blk, off, none⟩) n cap, .int .i64 a, .int .i64 b] w fun q w' => q = .returned (.tuple #[]) ∧ Arr W0 w' e blk off n (Sort.heapSort ltInt d a b) := by
  have H0 := Lib.hid hA
  obtain ⟨h, hbh⟩ : ∃ h, b = a + h := ⟨b - a, by omega⟩
  have hsub : (b : Int) - (a : Int) = (h : Int) := by omega
  have hbn : a + h ≤ n := by omega
  have HBH := Lib.hid hbh
  clear hbh
  clear hA
  go_enter Try.func58, Try.ntmps58
  go_wp2
  generalize hv : ((h : Int) - 1).tdiv 2 = v
  have HVV := Lib.hid (show v = (((h - 1) / 2 + 1 : Nat) : Int) - 1 by rw [← hv, tdiv_half])
  clear hv
  go_loopw [9] (fun vi wr => ∃ (k : Nat) (dk : Array Int), vi = .int .i64 ((k : Int) - 1) ∧ k ≤ h + 1 ∧ Hid (Arr W0 wr e blk off n dk) ∧ Hid (heapBuild ltInt h a k dk = heapBuild ltInt h a ((h - 1) / 2 + 1) d)) (fun vi _ => (Go.Proofs.intOf vi + 1).toNat)
  case atStart => exact ⟨(h - 1) / 2 + 1, d, by rw [HVV.out], by omega, H0, Lib.hid rfl⟩
  case round =>
    obtain ⟨k, dk, rfl, hk, hK, HO⟩ := hrel
    rcases k with _ | k
    · have hO := HO.out
      rw [heapBuild] at hO
      have HO2 := Lib.hid hO
      clear hO HO
      rw [show (((0 : Nat) : Int) - 1) = -1 from rfl]
      go_wp2
      go_loopw [10] (fun vi wr => ∃ (k : Nat) (dk : Array Int), vi = .int .i64 ((k : Int) - 1) ∧ k ≤ h ∧ Hid (Arr W0 wr e blk off n dk) ∧ Hid (heapPop ltInt a k dk = Sort.heapSort ltInt d a b)) (fun vi _ => (Go.Proofs.intOf vi + 1).toNat)
      case atStart => exact ⟨h, dk, rfl, Nat.le_refl _, hK, Lib.hid (by rw [Sort.heapSort, show b - a = h by have := HBH.out; omega, ← HO2.out])⟩
      case round =>
        obtain ⟨m, dm, rfl, hm, hM, HP⟩ := hrel
        have hz := hM.out.dsize
        rcases m with _ | m
        · go_wp2
          go_end0
          exact ⟨rfl, by have hp := HP.out; rw [heapPop] at hp; rw [← hp]; exact hM.out⟩
        · rw [show (((m + 1 : Nat) : Int) - 1) = (m : Int) by omega]
          obtain ⟨G, hG, hcw, hfw⟩ := hM.out.fam
          have HG := Lib.hid hG
          clear hG
          have ham : a + m < n := by omega
          have han : a < n := by omega
          by_cases hm0 : m = 0
          · subst hm0
            have hsw : Arr W0 (((wr.setCell ⟨blk, off + a, none⟩ (.int .u16 (G a))).setCell ⟨blk, off + a, none⟩ (.int .u16 (G a))).drew) e blk off n (swp dm a (a + 0)) := by
              simp only [HG.out]
              exact (hM.out.swap 0 han ham).same rfl rfl rfl rfl
            have HSW := Lib.hid hsw
            clear hsw
            go_upto_region 10 with (fail)
            go_region
            all_goals
              go_wp2_with (go_at_call 68; refine (sift_ok W0 _ e blk off n cap 0 0 a _ HSW.out (by omega) (by omega) hn).mono ?_; rintro q w1 ⟨rfl, hS⟩)
              go_roundw
              case rel => exact ⟨0, _, by go_num, by omega, Lib.hid hS, Lib.hid (by rw [← HP.out]; rfl)⟩
              case measure => simp [Go.Proofs.intOf]
          · have hsw : Arr W0 (((wr.setCell ⟨blk, off + a, none⟩ (.int .u16 (G (a + m)))).setCell ⟨blk, off + (a + m), none⟩ (.int .u16 (G a))).drew) e blk off n (swp dm a (a + m)) := by
              simp only [HG.out]
              exact (hM.out.swap 0 han ham).same rfl rfl rfl rfl
            have HSW := Lib.hid hsw
            clear hsw
            go_upto_region 10 with (fail)
            go_region
            all_goals
              go_wp2_with (go_at_call 68; refine (sift_ok W0 _ e blk off n cap 0 m a _ HSW.out (by omega) (by omega) hn).mono ?_; rintro q w1 ⟨rfl, hS⟩)
              go_roundw
              case rel => exact ⟨m, _, by go_num, by omega, Lib.hid hS, Lib.hid (by rw [← HP.out]; rfl)⟩
              case measure => simp [Go.Proofs.intOf]
    · rw [show (((k + 1 : Nat) : Int) - 1) = (k : Int) by omega]
      go_wp2_with (go_at_call 68; refine (sift_ok W0 _ e blk off n cap k h a dk hK.out (by omega) (by omega) hn).mono ?_; rintro q w1 ⟨rfl, hS⟩)
      go_roundw
      case rel => exact ⟨k, _, by go_num, by omega, Lib.hid hS, Lib.hid (by rw [← HO.out, heapBuild])⟩
      case measure => simp [Go.Proofs.intOf]
end Go.Proofs.Ytgkodbejnbfakaa
