/-
  The library's sort at uint16, walked: insertion sort, heap sort. No condition but on the size.
-/
import Derived.Test.YtldchpmilknlmaaGreatSortQ
import Derived.Deep.CutBlock
import Derived.Deep.DeepCutAuto
import Derived.Sort.LotC
import Derived.Deep.Cut
namespace Go.Proofs.YtldchpmilknlmaaGreat
open Go.RowKit Go.Sort
theorem ss_go (d : Array Int) (b i : Nat) (h : i < b) (hl : ltInt d[i]! d[i - 1]! = false) : scanSorted ltInt d b i = scanSorted ltInt d b (i + 1) := by
  rw [scanSorted, if_pos (by simp [h, hl])]
theorem ss_stop (d : Array Int) (b i : Nat) (h : ¬ i < b ∨ ltInt d[i]! d[i - 1]! = true) : scanSorted ltInt d b i = i := by
  rw [scanSorted, if_neg (by rcases h with h | h <;> simp [h])]
theorem sd_go (j : Nat) (d : Array Int) (hj : 0 < j) (hl : ltInt d[j]! d[j - 1]! = true) : shiftDown ltInt j d = shiftDown ltInt (j - 1) (swp d j (j - 1)) := by
  obtain ⟨k, rfl⟩ : ∃ k, j = k + 1 := ⟨j - 1, by omega⟩
  simp only [Nat.add_sub_cancel] at hl ⊢
  rw [shiftDown, if_neg (by simp [hl])]
theorem sd_stop (j : Nat) (d : Array Int) (h : j = 0 ∨ ltInt d[j]! d[j - 1]! = false) : shiftDown ltInt j d = d := by
  cases j with
  | zero => rw [shiftDown]
  | succ k =>
    rcases h with h | h
    · omega
    · simp only [Nat.add_sub_cancel] at h
      rw [shiftDown, if_pos (by simp [h])]
theorem su_go {b : Nat} (j : Nat) (d : Array Int) (hj : j < b) (hl : ltInt d[j]! d[j - 1]! = true) : shiftUp ltInt b j d = shiftUp ltInt b (j + 1) (swp d j (j - 1)) := by
  rw [shiftUp, if_pos hj, if_neg (by simp [hl])]
theorem su_stop {b : Nat} (j : Nat) (d : Array Int) (h : ¬ j < b ∨ ltInt d[j]! d[j - 1]! = false) : shiftUp ltInt b j d = d := by
  rw [shiftUp]
  by_cases hj : j < b
  · rw [if_pos hj, if_pos (by rcases h with h | h; · omega
                              · simp [h])]
  · rw [if_neg hj]
theorem pi_true (a b s i : Nat) (d : Array Int) (h : scanSorted ltInt d b i = b) : partialIns ltInt a b (s + 1) i d = (d, true) := by
  rw [partialIns]
  simp only [h, if_true]
theorem pi_short {i2 : Nat} (a b s i : Nat) (d : Array Int) (h : scanSorted ltInt d b i = i2) (h2 : i2 ≠ b) (h3 : b - a < 50) : partialIns ltInt a b (s + 1) i d = (d, false) := by
  rw [partialIns]
  simp only [h, if_neg h2, if_pos h3]
theorem pi_next {i2 : Nat} (a b s i : Nat) (d : Array Int) (h : scanSorted ltInt d b i = i2) (h2 : i2 ≠ b) (h3 : ¬ b - a < 50) :
    partialIns ltInt a b (s + 1) i d = partialIns ltInt a b s i2 (if b - i2 ≥ 2 then shiftUp ltInt b (i2 + 1) (if i2 - a ≥ 2 then shiftDown ltInt (i2 - 1) (swp d i2 (i2 - 1)) else swp d i2 (i2 - 1)) else (if i2 - a ≥ 2 then shiftDown ltInt (i2 - 1) (swp d i2 (i2 - 1)) else swp d i2 (i2 - 1))) := by
  rw [partialIns]
  simp only [h, if_neg h2, if_neg h3]
set_option maxRecDepth 100000 in
set_option maxHeartbeats 8000000 in
theorem pins_ok (W0 w : World) (e : TypeId) (blk off n cap a b : Nat) (d : Array Int) (hA : Arr W0 w e blk off n d) (hab : a < b) (hb : b ≤ n) (hn : n ≤ 4194304) :
    Calls Tryz.prog 115 #[.slice (some ⟨blk, off, none⟩) n cap, .int .i64 a, .int .i64 b] w fun r w' => ∃ (ok : Bool) (d' : Array Int), r = .returned (.bool ok) ∧ Sort.partialInsertionSort ltInt d a b = (d', ok) ∧ Arr W0 w' e blk off n d' := by
  have H0 := Lib.hid hA
  clear hA
  go_enter Tryz.func115, Tryz.ntmps115
  go_wp2
  go_loopw [6, 7, 8] (fun v6 vi vj wr => ∃ (s i : Nat) (jz : Int) (dk : Array Int), v6 = .bool false ∧ vi = .int .i64 i ∧ vj = .int .i64 jz ∧ Hid (jz = 5 - (s : Int)) ∧ s ≤ 5 ∧ a < i ∧ i ≤ b ∧ Hid (Arr W0 wr e blk off n dk) ∧ Hid (partialIns ltInt a b s i dk = partialIns ltInt a b 5 (a + 1) d)) (fun _ _ vj _ => (5 - Go.Proofs.intOf vj).toNat)
  case atStart => exact ⟨5, a + 1, 0, d, rfl, by go_num, rfl, Lib.hid (by omega), by omega, by omega, by omega, H0, Lib.hid rfl⟩
  case round =>
    obtain ⟨s, i, jz, dk, rfl, rfl, rfl, hjz, hs5, hi1, hi2, hK, HP⟩ := hrel
    rcases s with _ | s
    · have hjz5 : jz = 5 := by have := hjz.out; omega
      subst hjz5
      go_wp2
      go_returns
      exact ⟨false, dk, rfl, by rw [Sort.partialInsertionSort, ← HP.out]; rfl, hK.out⟩
    · have hjz5 : jz < 5 := by have := hjz.out; omega
      have hjz0 : 0 ≤ jz := by have := hjz.out; omega
      obtain ⟨Gk, hGk, hck, hfk⟩ := hK.out.fam
      have HGk := Lib.hid hGk
      clear hGk
      go_upto_block 2 with fail
      go_cut [7] (fun s wc => ∃ i2 : Nat, s = .int .i64 i2 ∧ a < i2 ∧ i2 ≤ b ∧ Hid (Arr W0 wc e blk off n dk) ∧ Hid (scanSorted ltInt dk b i = i2))
      case first =>
        go_wp2
        go_loopw [7] (fun s wr => ∃ i2 : Nat, s = .int .i64 i2 ∧ a < i2 ∧ i2 ≤ b ∧ Hid (Arr W0 wr e blk off n dk) ∧ Hid (scanSorted ltInt dk b i2 = scanSorted ltInt dk b i)) (fun s _ => b - (Go.Proofs.intOf s).toNat)
        case atStart => exact ⟨i, rfl, hi1, hi2, hK, Lib.hid rfl⟩
        case round =>
          obtain ⟨i2, rfl, hr1, hr2, hr, HO⟩ := hrel
          obtain ⟨hcr, hfr⟩ := hr.out.famG HGk.out
          by_cases hij : i2 < b
          · have hiji : (i2 : Int) < (b : Int) := by omega
            have hin : i2 < n := by omega
            have hin1 : i2 - 1 < n := by omega
            go_wp2
            go_quiet (first | (go_at_call 116; refine Calls.quiet_of_same (less_ok _ _ _)))
            go_wp2
            · have hl0 : (!ltInt (Gk i2) (Gk (i2 - 1))) = true := by assumption
              go_roundw
              case rel => exact ⟨i2 + 1, by go_num, by omega, by omega, Lib.hid (hr.out.drewN _), Lib.hid (by rw [← HO.out, ss_go _ _ _ hij (by rw [← HGk.out, ← HGk.out]; simpa using hl0)])⟩
              case measure => simp [Go.Proofs.intOf]; omega
            · have hl0 : (!ltInt (Gk i2) (Gk (i2 - 1))) = false := by assumption
              go_meet
              case rel => exact ⟨i2, rfl, hr1, hr2, Lib.hid (hr.out.drewN _), Lib.hid (by rw [← HO.out, ss_stop _ _ _ (Or.inr (by rw [← HGk.out, ← HGk.out]; simpa using hl0))])⟩
          · have hiji : decide ((i2 : Int) < (b : Int)) = false := decide_eq_false (by omega)
            go_wp2
            go_quiet (first | (go_at_call 116; refine Calls.quiet_of_same (less_ok _ _ _)))
            go_wp2
            go_meet
            case rel => exact ⟨i2, rfl, hr1, hr2, Lib.hid (hr.out.drewN _), Lib.hid (by rw [← HO.out, ss_stop _ _ _ (Or.inl hij)])⟩
      case rest =>
        obtain ⟨i2, rfl, hr1, hr2, hB, HS⟩ := hcut
        clear hck hfk
        by_cases hib : i2 = b
        · subst hib
          go_wp2
          go_returns
          exact ⟨true, dk, rfl, by rw [Sort.partialInsertionSort, ← HP.out, pi_true _ _ _ _ _ HS.out], hB.out⟩
        · have hibi : ((i2 : Int) == (b : Int)) = false := beq_eq_false_iff_ne.2 (by omega)
          obtain ⟨lba, hlba⟩ : ∃ lba : Nat, b = a + lba := ⟨b - a, by omega⟩
          have hbai : (b : Int) - (a : Int) = (lba : Int) := by omega
          have HLB := Lib.hid hlba
          clear hlba
          by_cases h50 : lba < 50
          · have h50i : (lba : Int) < 50 := by omega
            go_wp2
            go_returns
            exact ⟨false, dk, rfl, by rw [Sort.partialInsertionSort, ← HP.out, pi_short _ _ _ _ _ HS.out hib (by have := HLB.out; omega)], hB.out⟩
          · have h50i : decide ((lba : Int) < 50) = false := decide_eq_false (by omega)
            obtain ⟨hcb, hfb⟩ := hB.out.famG HGk.out
            have hin : i2 < n := by omega
            have hin1 : i2 - 1 < n := by omega
            have hsc := hB.out.swapcell HGk.out hin hin1
            have hsw : Arr W0 (((wc.setCell ⟨blk, off + i2, none⟩ (.int .u16 (Gk (i2 - 1)))).setCell ⟨blk, off + (i2 - 1), none⟩ (.int .u16 (Gk i2))).drew) e blk off n (swp dk i2 (i2 - 1)) := by
              simp only [HGk.out]
              exact (hB.out.swap 0 hin hin1).same rfl rfl rfl rfl
            have HSW := Lib.hid hsw
            clear hsw
            go_upto_region 11 with fail
            go_region
            all_goals
              go_upto_if 61 with fail
              have hd1 := HSW.out
              generalize hdd : swp dk i2 (i2 - 1) = d1 at hd1
              have HDD := Lib.hid hdd
              have HH1 := Lib.hid hd1
              clear hdd hsc hcb hfb
              generalize World.drew _ = w1 at hd1 HH1 ⊢
              clear hd1
              go_cut [] (fun wc => Hid (Arr W0 wc e blk off n (if i2 - a ≥ 2 then shiftDown ltInt (i2 - 1) d1 else d1)))
              case first =>
                by_cases hx : i2 - a ≥ 2
                · have hxi : (2 : Int) ≤ (i2 : Int) - (a : Int) := by omega
                  go_wp2
                  go_loopw [9] (fun s wr => ∃ (j : Nat) (dj : Array Int), s = .int .i64 j ∧ j ≤ i2 - 1 ∧ j ≤ n ∧ Hid (Arr W0 wr e blk off n dj) ∧ Hid (shiftDown ltInt j dj = shiftDown ltInt (i2 - 1) d1)) (fun s _ => (Go.Proofs.intOf s).toNat)
                  case atStart => exact ⟨i2 - 1, d1, by go_num, by omega, by omega, HH1, Lib.hid rfl⟩
                  case round =>
                    obtain ⟨j, dj, rfl, hjb, hjn0, hJ, HJ⟩ := hrel
                    obtain ⟨Gj, hGj, hcj, hfj⟩ := hJ.out.fam
                    have HGj := Lib.hid hGj
                    clear hGj
                    by_cases hj : 1 ≤ j
                    · have hji : (1 : Int) ≤ (j : Int) := by omega
                      have hj0 : 0 < j := by omega
                      have hjn : j < n := by omega
                      have hj1n : j - 1 < n := by omega
                      go_wp2
                      go_quiet (first | (go_at_call 116; refine Calls.quiet_of_same (less_ok _ _ _)))
                      have hq := hJ.out.drewN nq
                      generalize World.drewN wr nq = wq at hq ⊢
                      obtain ⟨hcq, hfq⟩ := hq.famG HGj.out
                      go_wp2
                      · have hl0 : (!ltInt (Gj j) (Gj (j - 1))) = true := by assumption
                        go_meet
                        case rel => rw [if_pos hx]; exact Lib.hid (by rw [← HJ.out, sd_stop _ _ (Or.inr (by rw [← HGj.out, ← HGj.out]; simpa using hl0))]; exact hq)
                      · have hl0 : (!ltInt (Gj j) (Gj (j - 1))) = false := by assumption
                        go_region
                        all_goals
                          go_wp2
                          go_roundw
                          case rel =>
                            refine ⟨j - 1, swp dj j (j - 1), by first | rfl | go_num | (congr 1; omega), by omega, by omega, Lib.hid ?_, Lib.hid ?_⟩
                            · simp only [HGj.out]
                              exact (hq.swap 0 hjn hj1n).same rfl rfl rfl rfl
                            · rw [← HJ.out, sd_go _ _ hj0 (by rw [← HGj.out, ← HGj.out]; simpa using hl0)]
                          case measure => simp [Go.Proofs.intOf]; omega
                    · have hji : decide ((1 : Int) ≤ (j : Int)) = false := decide_eq_false (by omega)
                      go_wp2
                      go_meet
                      case rel => rw [if_pos hx]; exact Lib.hid (by rw [← HJ.out, sd_stop _ _ (Or.inl (by omega))]; exact hJ.out)
                · have hxi : decide ((2 : Int) ≤ (i2 : Int) - (a : Int)) = false := decide_eq_false (by omega)
                  go_wp2
                  go_meet
                  case rel => rw [if_neg hx]; exact HH1
              case rest =>
                generalize hdd2 : (if i2 - a ≥ 2 then shiftDown ltInt (i2 - 1) d1 else d1) = d2 at hcut
                have HDD2 := Lib.hid hdd2
                clear hdd2 HSW
                go_upto_if 98 with fail
                have HC := hcut
                by_cases hx : b - i2 ≥ 2
                · have hxi : (2 : Int) ≤ (b : Int) - (i2 : Int) := by omega
                  go_wp2
                  go_loopw [10] (fun s wr => ∃ (j : Nat) (dj : Array Int), s = .int .i64 j ∧ i2 + 1 ≤ j ∧ j ≤ n ∧ Hid (Arr W0 wr e blk off n dj) ∧ Hid (shiftUp ltInt b j dj = shiftUp ltInt b (i2 + 1) d2)) (fun s _ => b - (Go.Proofs.intOf s).toNat)
                  case atStart => exact ⟨i2 + 1, d2, by go_num, by omega, by omega, HC, Lib.hid rfl⟩
                  case round =>
                    obtain ⟨j, dj, rfl, hjb, hjn0, hJ, HJ⟩ := hrel
                    obtain ⟨Gj, hGj, hcj, hfj⟩ := hJ.out.fam
                    have HGj := Lib.hid hGj
                    clear hGj
                    by_cases hj : j < b
                    · have hji : (j : Int) < (b : Int) := by omega
                      have hj0 : 0 < j := by omega
                      have hjn : j < n := by omega
                      have hj1n : j - 1 < n := by omega
                      go_wp2
                      go_quiet (first | (go_at_call 116; refine Calls.quiet_of_same (less_ok _ _ _)))
                      have hq := hJ.out.drewN nq
                      generalize World.drewN wr nq = wq at hq ⊢
                      obtain ⟨hcq, hfq⟩ := hq.famG HGj.out
                      go_wp2
                      · have hl0 : (!ltInt (Gj j) (Gj (j - 1))) = true := by assumption
                        go_roundw
                        case rel => exact ⟨s, i2, jz + 1, dj, rfl, rfl, rfl, Lib.hid (by have := hjz.out; omega), by omega, hr1, hr2, Lib.hid hq, Lib.hid (by rw [← HP.out, pi_next _ _ _ _ _ HS.out hib (by have := HLB.out; omega), HDD.out, HDD2.out, if_pos hx, ← HJ.out, su_stop _ _ (Or.inr (by rw [← HGj.out, ← HGj.out]; simpa using hl0))])⟩
                        case measure => simp [Go.Proofs.intOf]; omega
                      · have hl0 : (!ltInt (Gj j) (Gj (j - 1))) = false := by assumption
                        go_region
                        all_goals
                          go_wp2
                          go_roundw
                          case rel =>
                            refine ⟨j + 1, swp dj j (j - 1), by first | rfl | go_num | (congr 1; omega), by omega, by omega, Lib.hid ?_, Lib.hid ?_⟩
                            · simp only [HGj.out]
                              exact (hq.swap 0 hjn hj1n).same rfl rfl rfl rfl
                            · rw [← HJ.out, su_go _ _ hj (by rw [← HGj.out, ← HGj.out]; simpa using hl0)]
                          case measure => simp [Go.Proofs.intOf]; omega
                    · have hji : decide ((j : Int) < (b : Int)) = false := decide_eq_false (by omega)
                      go_wp2
                      go_roundw
                      case rel => exact ⟨s, i2, jz + 1, dj, rfl, rfl, rfl, Lib.hid (by have := hjz.out; omega), by omega, hr1, hr2, Lib.hid (hJ.out), Lib.hid (by rw [← HP.out, pi_next _ _ _ _ _ HS.out hib (by have := HLB.out; omega), HDD.out, HDD2.out, if_pos hx, ← HJ.out, su_stop _ _ (Or.inl (by omega))])⟩
                      case measure => simp [Go.Proofs.intOf]; omega
                · have hxi : decide ((2 : Int) ≤ (b : Int) - (i2 : Int)) = false := decide_eq_false (by omega)
                  go_wp2
                  go_roundw
                  case rel => exact ⟨s, i2, jz + 1, _, rfl, rfl, rfl, Lib.hid (by have := hjz.out; omega), by omega, hr1, hr2, HC, Lib.hid (by rw [← HP.out, pi_next _ _ _ _ _ HS.out hib (by have := HLB.out; omega), HDD.out, HDD2.out, if_neg hx])⟩
                  case measure => simp [Go.Proofs.intOf]; omega
end Go.Proofs.YtldchpmilknlmaaGreat
