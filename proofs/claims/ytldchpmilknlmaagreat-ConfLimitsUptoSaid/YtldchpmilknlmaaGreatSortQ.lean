/-
  The library's sort at uint16, walked: insertion sort, heap sort. No condition but on the size.
-/
import Derived.Test.YtldchpmilknlmaaGreatSortP
import Derived.Deep.CutBlock
import Derived.Deep.DeepCutAuto
import Derived.Sort.LotC
import Derived.Deep.Cut
namespace Go.Proofs.YtldchpmilknlmaaGreat
open Go.RowKit Go.Sort
set_option maxRecDepth 100000 in
set_option maxHeartbeats 8000000 in
theorem parteq_ok (W0 w : World) (e : TypeId) (blk off n cap a b pivot : Nat) (d : Array Int) (hA : Arr W0 w e blk off n d) (hp1 : a ≤ pivot) (hp2 : pivot < b) (hb : b ≤ n) (hn : n ≤ 4194304) :
    Calls Tryz.prog 117 #[.slice (some ⟨blk, off, none⟩) n cap, .int .i64 a, .int .i64 b, .int .i64 pivot] w fun r w' => ∃ (mid : Nat) (d' : Array Int), r = .returned (.int .i64 mid) ∧ Sort.partitionEqual ltInt d a b pivot = (mid, d') ∧ Arr W0 w' e blk off n d' := by
  obtain ⟨b1, hb1⟩ : ∃ b1, b = b1 + 1 := ⟨b - 1, by omega⟩
  have hsub : (b : Int) - 1 = (b1 : Int) := by omega
  have hab1 : a ≤ b1 := by omega
  have hbn1 : b1 < n := by omega
  have HB1 := Lib.hid hb1
  have han : a < n := by omega
  have hpn : pivot < n := by omega
  obtain ⟨G, hG, hcw, hfw⟩ := hA.fam
  have HG := Lib.hid hG
  clear hG
  have hsc := hA.swapcell HG.out han hpn
  have hsw : Arr W0 (((w.setCell ⟨blk, off + a, none⟩ (.int .u16 (G pivot))).setCell ⟨blk, off + pivot, none⟩ (.int .u16 (G a))).drew) e blk off n (swp d a pivot) := by
    simp only [HG.out]
    exact (hA.swap 0 han hpn).same rfl rfl rfl rfl
  have HSW := Lib.hid hsw
  clear hsw hA hb1
  go_enter Tryz.func117, Tryz.ntmps117
  go_upto_region 1 with (fail)
  go_region
  all_goals
    have hd0 := HSW.out
    generalize hdd : swp d a pivot = d0 at hd0
    have HDD := Lib.hid hdd
    clear hdd
    have HH0 := Lib.hid hd0
    generalize World.drew _ = w0 at hd0 HH0 ⊢
    clear hd0 hcw hfw
    go_wp2
    go_loopw [9, 10] (fun vi vj wr => ∃ (i1 j1 : Nat) (dk : Array Int), vi = .int .i64 i1 ∧ vj = .int .i64 j1 ∧ a < i1 ∧ i1 ≤ j1 + 1 ∧ j1 ≤ b1 ∧ Hid (Arr W0 wr e blk off n dk) ∧ Hid (partEqLoop ltInt a i1 j1 dk = partEqLoop ltInt a (a + 1) b1 d0)) (fun vi vj _ => (Go.Proofs.intOf vj + 1 - Go.Proofs.intOf vi).toNat)
    case atStart => exact ⟨a + 1, b1, d0, by go_num, rfl, by omega, by omega, by omega, HH0, Lib.hid rfl⟩
    case round =>
      obtain ⟨i1, j1, dk, rfl, rfl, hq1, hq2, hq3, hK, HPL⟩ := hrel
      obtain ⟨Gk, hGk, hck, hfk⟩ := hK.out.fam
      have HGk := Lib.hid hGk
      clear hGk
      go_upto_block 2 with fail
      go_cut [9] (fun s wc => ∃ i : Nat, s = .int .i64 i ∧ a < i ∧ i ≤ j1 + 1 ∧ Hid (Arr W0 wc e blk off n dk) ∧ Hid (scanUp (fun x => !ltInt dk[a]! x) dk j1 i1 = i) ∧ Hid (i ≤ j1 → (!ltInt dk[a]! dk[i]!) = false))
      case first =>
        go_wp2
        go_loopw [9] (fun s wr => ∃ i : Nat, s = .int .i64 i ∧ a < i ∧ i ≤ j1 + 1 ∧ Hid (Arr W0 wr e blk off n dk) ∧ Hid (scanUp (fun x => !ltInt dk[a]! x) dk j1 i = scanUp (fun x => !ltInt dk[a]! x) dk j1 i1)) (fun s _ => j1 + 1 - (Go.Proofs.intOf s).toNat)
        case atStart => exact ⟨i1, by go_num, by omega, by omega, Lib.hid hK.out, Lib.hid rfl⟩
        case round =>
          obtain ⟨i, rfl, hi1, hi2, hr, HO⟩ := hrel
          obtain ⟨hcr, hfr⟩ := hr.out.famG HGk.out
          by_cases hij : i ≤ j1
          · have hiji : (i : Int) ≤ (j1 : Int) := by omega
            have hin : i < n := by omega
            go_wp2
            go_quiet (first | (go_at_call 116; refine Calls.quiet_of_same (less_ok _ _ _)))
            go_wp2
            · have hl : (!ltInt (Gk a) (Gk i)) = true := by assumption
              go_roundw
              case rel => exact ⟨i + 1, by go_num, by omega, by omega, Lib.hid (hr.out.drewN _), Lib.hid (by rw [← HO.out, up_go _ _ _ _ hij (by rw [← HGk.out, ← HGk.out]; exact hl)])⟩
              case measure => simp [Go.Proofs.intOf]; omega
            · have hl : (!ltInt (Gk a) (Gk i)) = false := by assumption
              go_meet
              case rel => exact ⟨i, rfl, hi1, hi2, Lib.hid (hr.out.drewN _), Lib.hid (by rw [← HO.out, up_stop _ _ _ _ (Or.inr (by rw [← HGk.out, ← HGk.out]; exact hl))]), Lib.hid (fun _ => by rw [← HGk.out, ← HGk.out]; exact hl)⟩
          · have hiji : decide ((i : Int) ≤ (j1 : Int)) = false := decide_eq_false (by omega)
            go_wp2
            go_quiet (first | (go_at_call 116; refine Calls.quiet_of_same (less_ok _ _ _)))
            go_wp2
            go_meet
            case rel => exact ⟨i, rfl, hi1, hi2, Lib.hid (hr.out.drewN _), Lib.hid (by rw [← HO.out, up_stop _ _ _ _ (Or.inl hij)]), Lib.hid (fun h => absurd h hij)⟩
      case rest =>
        obtain ⟨i3, rfl, hr1, hr2, hB1, HV, HVS⟩ := hcut
        go_upto_block 4 with fail
        go_cut [10] (fun s wc => ∃ j : Nat, s = .int .i64 j ∧ i3 ≤ j + 1 ∧ j ≤ j1 ∧ Hid (Arr W0 wc e blk off n dk) ∧ Hid (scanDown (fun x => ltInt dk[a]! x) dk i3 j1 = j) ∧ Hid (i3 ≤ j → (!ltInt dk[a]! dk[j]!) = true))
        case first =>
          go_wp2
          go_loopw [10] (fun s wr => ∃ j : Nat, s = .int .i64 j ∧ i3 ≤ j + 1 ∧ j ≤ j1 ∧ Hid (Arr W0 wr e blk off n dk) ∧ Hid (scanDown (fun x => ltInt dk[a]! x) dk i3 j = scanDown (fun x => ltInt dk[a]! x) dk i3 j1)) (fun s _ => (Go.Proofs.intOf s).toNat)
          case atStart => exact ⟨j1, rfl, by omega, Nat.le_refl _, hB1, Lib.hid rfl⟩
          case round =>
            obtain ⟨j, rfl, hj1, hj2, hr, HO⟩ := hrel
            obtain ⟨hcr, hfr⟩ := hr.out.famG HGk.out
            by_cases hij : i3 ≤ j
            · have hiji : (i3 : Int) ≤ (j : Int) := by omega
              have hjn : j < n := by omega
              go_wp2
              go_quiet (first | (go_at_call 116; refine Calls.quiet_of_same (less_ok _ _ _)))
              go_wp2
              · have hl0 : ltInt (Gk a) (Gk j) = true := by assumption
                go_roundw
                case rel => exact ⟨j - 1, by congr 1; omega, by omega, by omega, Lib.hid (hr.out.drewN _), Lib.hid (by rw [← HO.out, down_go _ _ _ _ (by omega) hij (by rw [← HGk.out, ← HGk.out]; exact hl0)])⟩
                case measure => simp [Go.Proofs.intOf]; omega
              · have hl0 : ltInt (Gk a) (Gk j) = false := by assumption
                go_meet
                case rel => exact ⟨j, rfl, hj1, hj2, Lib.hid (hr.out.drewN _), Lib.hid (by rw [← HO.out, down_stop _ _ _ _ (Or.inr (by rw [← HGk.out, ← HGk.out]; exact hl0))]), Lib.hid (fun _ => by rw [← HGk.out, ← HGk.out]; simpa using hl0)⟩
            · have hiji : decide ((i3 : Int) ≤ (j : Int)) = false := decide_eq_false (by omega)
              go_wp2
              go_quiet (first | (go_at_call 116; refine Calls.quiet_of_same (less_ok _ _ _)))
              go_wp2
              go_meet
              case rel => exact ⟨j, rfl, hj1, hj2, Lib.hid (hr.out.drewN _), Lib.hid (by rw [← HO.out, down_stop _ _ _ _ (Or.inl hij)]), Lib.hid (fun h => absurd h hij)⟩
        case rest =>
          obtain ⟨j3, rfl, hs1, hs2, hB2, HE, HES⟩ := hcut
          obtain ⟨hc3, hf3⟩ := hB2.out.famG HGk.out
          clear hck hfk
          have hj3n : j3 < n := by omega
          by_cases hgt3 : i3 ≤ j3
          · have hi3n : i3 < n := by omega
            have hne3 : i3 ≠ j3 := fun e => by
              have h1 := HVS.out (by omega)
              have h2 := HES.out hgt3
              rw [← e, h1] at h2
              cases h2
            have hsc3 := hB2.out.swapcell HGk.out hi3n hj3n
            have hsw3 : Arr W0 (((wc.setCell ⟨blk, off + i3, none⟩ (.int .u16 (Gk j3))).setCell ⟨blk, off + j3, none⟩ (.int .u16 (Gk i3))).drew) e blk off n (swp dk i3 j3) := by
              simp only [HGk.out]
              exact (hB2.out.swap 0 hi3n hj3n).same rfl rfl rfl rfl
            have hgti3 : decide ((j3 : Int) < (i3 : Int)) = false := decide_eq_false (by omega)
            have HSW3 := Lib.hid hsw3
            clear hsw3
            go_upto_region 8 with (fail)
            go_region
            all_goals
              go_wp2
              go_roundw
              case rel =>
                refine ⟨i3 + 1, j3 - 1, swp dk i3 j3, by go_num, by congr 1; omega, by omega, by omega, by omega, HSW3, Lib.hid ?_⟩
                rw [← HPL.out, partEqLoop_eq ltInt a i1 j1 dk, HV.out, HE.out, if_neg (by omega)]
              case measure =>
                have hge : i1 ≤ i3 := by rw [← HV.out]; exact scanUp_ge _ _ _ _
                simp only [Go.Proofs.intOf]
                omega
          · have hgti3 : (j3 : Int) < (i3 : Int) := by omega
            go_wp2
            go_returns
            refine ⟨i3, dk, rfl, ?_, hB2.out⟩
            rw [Sort.partitionEqual, HDD.out, HB1.out]
            show partEqLoop ltInt a (a + 1) b1 d0 = _
            rw [← HPL.out, partEqLoop_eq ltInt a i1 j1 dk, HV.out, HE.out, if_pos (by omega)]
end Go.Proofs.YtldchpmilknlmaaGreat
