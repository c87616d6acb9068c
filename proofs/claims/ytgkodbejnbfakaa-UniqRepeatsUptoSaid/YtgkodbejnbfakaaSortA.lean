/-
  The library's sort at uint16, walked: insertion sort, heap sort. No condition but on the size.
-/
import Derived.Test.YtgkodbejnbfakaaArr
import Derived.Handy
import Derived.Deep.Cut
namespace Go.Proofs.Ytgkodbejnbfakaa
open Go.RowKit Go.Sort
set_option maxRecDepth 100000 in
set_option maxHeartbeats 4000000 in
theorem ins_ok (W0 w : World) (e : TypeId) (blk off n cap a b : Nat) (d : Array Int) (hA : Arr W0 w e blk off n d) (hab : a ≤ b) (hb : b ≤ n) (hn : n ≤ 4194304) :
    Calls Try.prog 57 #[.slice (some ⟨blk, off, none⟩) n cap, .int .i64 a, .int .i64 b] w fun r w' => r = .returned (.tuple #[]) ∧ Arr W0 w' e blk off n (Sort.insertionSort ltInt d a b) := by
  have H0 := Lib.hid hA
  clear hA
  go_enter Try.func57, Try.ntmps57
  go_wp2
  go_loopw [6] (fun vi wr => ∃ (i : Nat) (dk : Array Int), vi = .int .i64 i ∧ a < i ∧ i ≤ b + 1 ∧ Hid (Arr W0 wr e blk off n dk) ∧ Hid (insOuter ltInt a b i dk = insOuter ltInt a b (a + 1) d)) (fun vi _ => b + 1 - (Go.Proofs.intOf vi).toNat)
  case atStart => exact ⟨a + 1, d, by go_num, by omega, by omega, H0, Lib.hid rfl⟩
  case round =>
    obtain ⟨i, dk, rfl, hai, hib, hA, HO⟩ := hrel
    by_cases hlt : i < b
    · go_wp2
      go_loopw [7] (fun vj wr2 => ∃ (j : Nat) (dj : Array Int), vj = .int .i64 j ∧ a ≤ j ∧ j ≤ i ∧ Hid (Arr W0 wr2 e blk off n dj) ∧ Hid (insInner ltInt a j dj = insInner ltInt a i dk)) (fun vj _ => (Go.Proofs.intOf vj).toNat)
      case atStart => exact ⟨i, dk, rfl, by omega, Nat.le_refl _, hA, Lib.hid rfl⟩
      case round =>
        obtain ⟨j, dj, rfl, haj, hji, hJ, HI⟩ := hrel
        have hz := hJ.out.dsize
        obtain ⟨G, hG, hcw, hfw⟩ := hJ.out.fam
        have HG := Lib.hid hG
        clear hG
        have out : (j ≤ a ∨ ltInt dj[j]! dj[j - 1]! = false) → ∀ q, ∃ (i' : Nat) (dk' : Array Int), Value.int .i64 ((i : Int) + 1) = .int .i64 (i' : Nat) ∧ a < i' ∧ i' ≤ b + 1 ∧ Hid (Arr W0 (wr.drewN q) e blk off n dk') ∧ Hid (insOuter ltInt a b i' dk' = insOuter ltInt a b (a + 1) d) := fun hs q =>
          ⟨i + 1, dj, by go_num, by omega, by omega, Lib.hid (hJ.out.drewN q), Lib.hid (by rw [← HO.out, insOuter_go _ _ _ _ _ hlt, ← HI.out, insInner_stop _ _ _ _ hs])⟩
        have OUT := Lib.hid out
        clear out
        by_cases hja : a < j
        · have hj1 : j - 1 < n := by omega
          have hjn : j < n := by omega
          go_wp2
          go_quiet (first | (go_at_call 63; refine Calls.quiet_of_same (less_ok _ _ _)))
          go_wp2
          · have hl : ltInt (G j) (G (j - 1)) = true := by assumption
            go_region
            all_goals go_wp2
            go_roundw
            case rel =>
              refine ⟨j - 1, swp dj j (j - 1), by congr 1; omega, by omega, by omega, Lib.hid ?_, Lib.hid ?_⟩
              · rw [HG.out, HG.out]
                exact hJ.out.swap _ hjn hj1
              · rw [← HI.out, insInner_go ltInt a j dj hja (by rw [← HG.out, ← HG.out]; exact hl)]
            case measure => simp [Go.Proofs.intOf]; omega
          · have hl : ltInt (G j) (G (j - 1)) = false := by assumption
            go_roundw
            case rel => exact OUT.out (Or.inr (by rw [← HG.out, ← HG.out]; exact hl)) _
            case measure => simp [Go.Proofs.intOf]; omega
        · go_wp2
          go_quiet (first | (go_at_call 63; refine Calls.quiet_of_same (less_ok _ _ _)))
          go_wp2
          go_roundw
          case rel => exact OUT.out (Or.inl (by omega)) _
          case measure => simp [Go.Proofs.intOf]; omega
    · go_wp2
      go_end0
      exact ⟨rfl, by have := hA.out; rw [Sort.insertionSort, ← HO.out, insOuter_stop _ _ _ _ _ hlt]; exact this⟩
theorem sift_end (lt : Int → Int → Bool) (hi first r : Nat) (d : Array Int) (h : ¬ 2 * r + 1 < hi) : siftDown lt hi first r d = d := by rw [siftDown, dif_pos (by omega)]
theorem sift_right (lt : Int → Int → Bool) (hi first r : Nat) (d : Array Int) (h : 2 * r + 1 + 1 < hi) (hl : lt d[first + 2 * r + 1]! d[first + 2 * r + 2]! = true) :
    siftDown lt hi first r d = if (!lt d[first + r]! d[first + 2 * r + 2]!) = true then d else siftDown lt hi first (2 * r + 2) (swp d (first + r) (first + 2 * r + 2)) := by
  rw [siftDown, dif_neg (by omega), if_pos (by rw [Bool.and_eq_true]; exact ⟨decide_eq_true h, hl⟩), dif_pos h]
  rfl
theorem sift_left (lt : Int → Int → Bool) (hi first r : Nat) (d : Array Int) (h : 2 * r + 1 < hi) (hl : ¬ 2 * r + 1 + 1 < hi ∨ lt d[first + 2 * r + 1]! d[first + 2 * r + 2]! = false) :
    siftDown lt hi first r d = if (!lt d[first + r]! d[first + 2 * r + 1]!) = true then d else siftDown lt hi first (2 * r + 1) (swp d (first + r) (first + 2 * r + 1)) := by
  rw [siftDown, dif_neg (by omega), if_neg (by
    intro hx
    rw [Bool.and_eq_true] at hx
    rcases hl with hl | hl
    · exact hl (of_decide_eq_true hx.1)
    · have := hx.2
      rw [show first + (2 * r + 1) + 1 = first + 2 * r + 2 from rfl, show first + (2 * r + 1) = first + 2 * r + 1 from rfl, hl] at this
      cases this)]
  rfl
set_option maxRecDepth 100000 in
set_option maxHeartbeats 4000000 in
theorem sift_ok (W0 w : World) (e : TypeId) (blk off n cap lo hi first : Nat) (d : Array Int) (hA : Arr W0 w e blk off n d) (hlo : lo ≤ 4194304) (hb : first + hi ≤ n) (hn : n ≤ 4194304) :
    Calls Try.prog 68 #[.slice (some ⟨blk, off, none⟩) n cap, .int .i64 lo, .int .i64 hi, .int .i64 first] w fun q w' => q = .returned (.tuple #[]) ∧ Arr W0 w' e blk off n (Sort.siftDown ltInt hi first lo d) := by
  have H0 := Lib.hid hA
  clear hA
  go_enter Try.func68, Try.ntmps68
  go_wp2
  go_loopw [8] (fun vi wr => ∃ (r : Nat) (dk : Array Int), vi = .int .i64 r ∧ r ≤ 4194304 ∧ Hid (Arr W0 wr e blk off n dk) ∧ Hid (siftDown ltInt hi first r dk = siftDown ltInt hi first lo d)) (fun vi _ => hi - (Go.Proofs.intOf vi).toNat)
  case atStart => exact ⟨lo, d, rfl, hlo, H0, Lib.hid rfl⟩
  case round =>
    obtain ⟨r, dk, rfl, hr, hK, HO⟩ := hrel
    have hz := hK.out.dsize
    by_cases hc : 2 * r + 1 < hi
    · obtain ⟨G, hG, hcw, hfw⟩ := hK.out.fam
      have HG := Lib.hid hG
      clear hG
      by_cases hc2 : 2 * r + 1 + 1 < hi
      · have hc2i : 2 * (r : Int) + 1 + 1 < (hi : Int) := by omega
        go_wp2
        go_quiet (first | (go_at_call 63; refine Calls.quiet_of_same (less_ok _ _ _)))
        have hq := hK.out.drewN nq
        generalize World.drewN wr nq = wq at hq ⊢
        obtain ⟨hcq, hfq⟩ := hq.famG HG.out
        go_wp2
        · have hl : ltInt (G (first + 2 * r + 1)) (G (first + 2 * r + 2)) = true := by assumption
          go_quiet (first | (go_at_call 63; refine Calls.quiet_of_same (less_ok _ _ _)))
          go_wp2
          · have hs0 : (!ltInt (G (first + r)) (G (first + 2 * r + 2))) = true := by assumption
            have hs : ltInt (G (first + r)) (G (first + 2 * r + 2)) = false := by simpa using hs0
            go_returns
            exact ⟨rfl, by rw [← HO.out, sift_right _ _ _ _ _ hc2 (by rw [← HG.out, ← HG.out]; exact hl), if_pos (by rw [← HG.out, ← HG.out]; simp [hs])]; exact hq.drewN _⟩
          · have hs0 : (!ltInt (G (first + r)) (G (first + 2 * r + 2))) = false := by assumption
            have hs : ltInt (G (first + r)) (G (first + 2 * r + 2)) = true := by simpa using hs0
            go_region
            all_goals go_wp2
            go_roundw
            case rel =>
              refine ⟨2 * r + 2, swp dk (first + r) (first + 2 * r + 2), by go_num, by omega, Lib.hid ?_, Lib.hid ?_⟩
              · rw [HG.out, HG.out]
                exact hq.swap _ (by omega) (by omega)
              · rw [← HO.out, sift_right _ _ _ _ _ hc2 (by rw [← HG.out, ← HG.out]; exact hl), if_neg (by rw [← HG.out, ← HG.out]; simp [hs])]
            case measure => simp [Go.Proofs.intOf]; omega
        · have hl : ltInt (G (first + 2 * r + 1)) (G (first + 2 * r + 2)) = false := by assumption
          go_quiet (first | (go_at_call 63; refine Calls.quiet_of_same (less_ok _ _ _)))
          go_wp2
          · have hs0 : (!ltInt (G (first + r)) (G (first + 2 * r + 1))) = true := by assumption
            have hs : ltInt (G (first + r)) (G (first + 2 * r + 1)) = false := by simpa using hs0
            go_returns
            exact ⟨rfl, by rw [← HO.out, sift_left _ _ _ _ _ hc (Or.inr (by rw [← HG.out, ← HG.out]; exact hl)), if_pos (by rw [← HG.out, ← HG.out]; simp [hs])]; exact hq.drewN _⟩
          · have hs0 : (!ltInt (G (first + r)) (G (first + 2 * r + 1))) = false := by assumption
            have hs : ltInt (G (first + r)) (G (first + 2 * r + 1)) = true := by simpa using hs0
            go_region
            all_goals go_wp2
            go_roundw
            case rel =>
              refine ⟨2 * r + 1, swp dk (first + r) (first + 2 * r + 1), by go_num, by omega, Lib.hid ?_, Lib.hid ?_⟩
              · rw [HG.out, HG.out]
                exact hq.swap _ (by omega) (by omega)
              · rw [← HO.out, sift_left _ _ _ _ _ hc (Or.inr (by rw [← HG.out, ← HG.out]; exact hl)), if_neg (by rw [← HG.out, ← HG.out]; simp [hs])]
            case measure => simp [Go.Proofs.intOf]; omega
      · have hc2i : decide (2 * (r : Int) + 1 + 1 < (hi : Int)) = false := decide_eq_false (by omega)
        go_wp2
        go_quiet (first | (go_at_call 63; refine Calls.quiet_of_same (less_ok _ _ _)))
        have hq := hK.out.drewN nq
        generalize World.drewN wr nq = wq at hq ⊢
        obtain ⟨hcq, hfq⟩ := hq.famG HG.out
        go_wp2
        go_quiet (first | (go_at_call 63; refine Calls.quiet_of_same (less_ok _ _ _)))
        go_wp2
        · have hs0 : (!ltInt (G (first + r)) (G (first + 2 * r + 1))) = true := by assumption
          have hs : ltInt (G (first + r)) (G (first + 2 * r + 1)) = false := by simpa using hs0
          go_returns
          exact ⟨rfl, by rw [← HO.out, sift_left _ _ _ _ _ hc (Or.inl hc2), if_pos (by rw [← HG.out, ← HG.out]; simp [hs])]; exact hq.drewN _⟩
        · have hs0 : (!ltInt (G (first + r)) (G (first + 2 * r + 1))) = false := by assumption
          have hs : ltInt (G (first + r)) (G (first + 2 * r + 1)) = true := by simpa using hs0
          go_region
          all_goals go_wp2
          go_roundw
          case rel =>
            refine ⟨2 * r + 1, swp dk (first + r) (first + 2 * r + 1), by go_num, by omega, Lib.hid ?_, Lib.hid ?_⟩
            · rw [HG.out, HG.out]
              exact hq.swap _ (by omega) (by omega)
            · rw [← HO.out, sift_left _ _ _ _ _ hc (Or.inl hc2), if_neg (by rw [← HG.out, ← HG.out]; simp [hs])]
          case measure => simp [Go.Proofs.intOf]; omega
    · go_wp2
      go_returns
      exact ⟨rfl, by rw [← HO.out, sift_end _ _ _ _ _ hc]; exact hK.out⟩
end Go.Proofs.Ytgkodbejnbfakaa
