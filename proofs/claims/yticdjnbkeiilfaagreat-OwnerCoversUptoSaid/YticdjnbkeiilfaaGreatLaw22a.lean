/-
  The law OwnerCovers, walked.
-/
import Derived.BigQuiet
import Derived.Test.YticdjnbkeiilfaaGreatAlive22
import Derived.Test.YticdjnbkeiilfaaGreatOwnI
import Derived.Test.YticdjnbkeiilfaaGreatEqZ
namespace Go.Proofs.YticdjnbkeiilfaaGreat
open Go.RowKit Go.Lib
attribute [local go_sem] ext_cell
set_option maxRecDepth 100000 in
set_option maxHeartbeats 16000000 in
theorem ownerCovers_ok (c : Cfg) (A1 A2 A3 A4 A5 : Option Addr) (c1 c2 c3 c4 c5 : Nat) (w : World) (hR : CfgR w w.heap.size c A1 A2 A3 A4 A5 c1 c2 c3 c4 c5) (hs : c.small) (hok : c.ok) : Calls Tryz.prog 6 #[cfgV c.frame A1 A2 A3 A4 A5 c.parts.length c.wins.length c.regs.length c.ports.length c.chans.length c1 c2 c3 c4 c5] w fun e w' => e = .returned (.bool true) ∧ Below w.heap.size w w' := by
  obtain ⟨W0, hW, st⟩ := St.start_any hR 29
  have HW := Lib.hid hW
  have ST0 := Lib.hid st
  obtain ⟨x0, x1, x2, x3, x4, x5, hz⟩ := st.cells
  have HOK := Lib.hid hok
  have hbd := hs.bd.r
  clear hR hW st hok
  rcases bool_cases (goodO c) with h1 | h1
  · have H1 := Lib.hid h1
    have HV := Lib.hid (goodO_right h1)
    clear h1
    go_enter Tryz.func6, Tryz.ntmps6
    go_upto_region 1 with (fail)
    rw [HW.out]
    go_wp2_with fail
    refine (goodO_ok c _ _ _ _ _ _ _ _ _ _ _ ST0.out.R hs HOK.out true H1).mono ?_
    rintro e w1 ⟨rfl, hb1⟩
    have ST1 := Lib.hid (ST0.out.up hb1)
    clear hb1 x0 x1 x2 x3 x4 x5 hz
    obtain ⟨x0, x1, x2, x3, x4, x5, hz⟩ := ST1.out.cells
    go_wp2_with fail
    refine (cNew_ok c _ _ _ _ _ _ _ _ _ _ _ ST1.out.R hs HOK.out true HV).mono ?_
    rintro e w2 ⟨hb2, ⟨h, _⟩ | ⟨_, mb, rfl, hm⟩⟩
    · cases h
    have ST2 := Lib.hid (ST1.out.up hb2)
    have HSG := Lib.hid hm.segs
    have HLK := Lib.hid hm.ok
    have hlen := hm.segs.len
    rw [mapL_len, (normK_perm (key := keyReg) c.regs).length_eq] at hlen
    have HM := Lib.hid hm
    have hfr := hm.len
    generalize normK keyReg c.regs = l at *
    obtain ⟨N, hN⟩ : ∃ N, (segsL l).length = N := ⟨_, rfl⟩
    have HN := Lib.hid hN
    rw [hN] at hlen
    have hw1 : IntKind.i64.wrap (2 * (c.regs.length : Int)) = 2 * (c.regs.length : Int) := by rw [IntKind.wrap_i64]; omega
    have hw2 : IntKind.i64.wrap (2 * (c.regs.length : Int) + 1) = 2 * (c.regs.length : Int) + 1 := by rw [IntKind.wrap_i64]; omega
    have hle : (N : Int) ≤ 2 * (c.regs.length : Int) + 1 := by omega
    have hle2 : decide (2 * (c.regs.length : Int) + 1 < (N : Int)) = false := decide_eq_false (by omega)
    clear hb2 hm hN x0 x1 x2 x3 x4 x5 hz
    obtain ⟨x0, x1, x2, x3, x4, x5, hz⟩ := ST2.out.cells
    go_wp2
    refine wp_region_ext (by kernel_rfl) (by kernel_rfl) ?_
    repeat (go_big_quiet_step ((go_at_call 23; exact Calls.quiet_ext (cLen_ok (HM.out.up (ext_below _ _)) N HN))))
    refine wpQuiet_nil ?_
    intro xq
    have ST3 := Lib.hid (ST2.out.up (ext_below w2 xq))
    have HM3 := Lib.hid (HM.out.up (ext_below w2 xq))
    clear x0 x1 x2 x3 x4 x5 hz
    generalize ext w2 xq = w3 at *
    obtain ⟨x0, x1, x2, x3, x4, x5, hz⟩ := ST3.out.cells
    go_wp2
    clear x0 x1 x2 x3 x4 x5 hz
    go_loopw [4, 5, 31] (fun a n i wr => ∃ k : Nat, k < N ∧ a = .int .u64 (loAt (mapL l) k) ∧ n = .int .i64 k ∧ i = .int .i64 k ∧ Hid (Below w3.heap.size w3 wr)) (fun _ _ i _ => N - (intOf i).toNat)
    case atStart =>
      have h0 := seg_first HSG.out
      exact ⟨0, by have := HN.out; omega, by rw [h0.2], rfl, rfl, Lib.hid (Below.refl _ _)⟩
    case round =>
      obtain ⟨k, hk, rfl, rfl, rfl, HB⟩ := hrel
      have hkN : k < (segsL l).length := by rw [HN.out]; exact hk
      obtain ⟨e1, e2, e3, e4⟩ := seg_self HSG.out HLK.out hkN
      have hls := seg_last HSG.out hkN
      have HDF := Lib.hid (fun h0 : 0 < k => seg_differ HSG.out HLK.out hkN h0)
      obtain ⟨a, ha⟩ : ∃ a, loAt (mapL l) k = a := ⟨_, rfl⟩
      have HAK := Lib.hid ha
      obtain ⟨b, hb⟩ : ∃ b, endSeg (mapL l) k = b := ⟨_, rfl⟩
      have HNX := Lib.hid (show (b = 18446744073709551615 ∧ k + 1 = N) ∨ (b ≠ 18446744073709551615 ∧ k + 1 < N ∧ b + 1 = loAt (mapL l) (k + 1)) by rw [← hb, ← HN.out]; exact hls)
      rw [ha, hb] at e1 e2
      rw [hb] at e3
      rw [ha] at e4 HDF ⊢
      have E1 := Lib.hid e1
      have k0 : (k : Int) < 2 * (c.regs.length : Int) + 1 := by omega
      have HMr := Lib.hid (HM3.out.up HB.out)
      clear hls ha hb e1 hkN
      go_wp2_with fail
      refine (cSegment_ok HMr.out a e4 (by omega) a b E1).mono ?_
      rintro e w4 ⟨rfl, hb4⟩
      have HM4 := Lib.hid (HMr.out.up hb4)
      have HB4 := Lib.hid (Below.then_ HB.out hb4)
      have hba : ¬ b < a := by omega
      clear hb4
      have HA0 := Lib.hid (fun h0 : 0 < k => show 0 < a from by
        have h5 := HSG.out.lo_lt (i := 0) (j := k) h0 (by rw [mapL_len, HN.out]; exact hk)
        rw [(seg_first HSG.out).2, HAK.out] at h5
        exact h5)
      rcases HNX.out with ⟨hl1, hl2⟩ | ⟨hl1, hl2, hl3⟩
      · subst hl1
        rcases Nat.eq_zero_or_pos k with hz0 | hz0
        · have HB7 := Lib.hid HB4.out
          subst hz0
          obtain rfl : N = 1 := by omega
          go_wp2_with fail
          refine (alive_ok _).mono ?_
          rintro e w8 ⟨rfl, hb8⟩
          have HB8 := Lib.hid (Below.then_ HB7.out hb8)
          clear hb8
          go_wp2_with fail
          refine (cLen_ok (HM3.out.up HB8.out) _ HN).mono ?_
          rintro e w9 ⟨rfl, hb9⟩
          have HZ := Lib.hid (Below.then_ ST3.out.bel (Below.then_ HB8.out hb9))
          clear hb9
          go_wp2
          go_ret
          exact ⟨rfl, HZ.out⟩
        · have hne := HDF.out hz0
          have ha1 : 0 ≤ a - 1 := by have := HA0.out hz0; omega
          have hwa : IntKind.u64.wrap (a - 1) = a - 1 := by rw [IntKind.wrap_u64]; omega
          have kp : (0 : Int) < (k : Int) := by omega
          obtain ⟨R1, hR1⟩ : ∃ R, l.filter (fun r => covR r a) = R := ⟨_, rfl⟩
          obtain ⟨R2, hR2⟩ : ∃ R, l.filter (fun r => covR r (a - 1)) = R := ⟨_, rfl⟩
          have hR1l : R1.length ≤ 4194304 := by rw [← hR1]; have := List.length_filter_le (fun r => covR r a) l; omega
          have hR2l : R2.length ≤ 4194304 := by rw [← hR2]; have := List.length_filter_le (fun r => covR r (a - 1)) l; omega
          rw [hR1, hR2] at hne
          have HNE := Lib.hid hne
          have HR1 := Lib.hid hR1
          have HR2 := Lib.hid hR2
          clear hne hR1 hR2
          go_wp2_with fail
          refine (cAll_ok HM4.out a e4 (by omega) R1 HR1).mono ?_
          rintro e w5 ⟨v5, rfl, ho5, hb5⟩
          obtain ⟨D5, d5, rfl, _, _, hr5⟩ := own_form ho5
          have HR5 := Lib.hid hr5
          have HB5 := Lib.hid (Below.then_ HB4.out hb5)
          clear ho5 hb5 hr5
          go_wp2_with fail
          refine (cAll_ok (HM3.out.up HB5.out) (a - 1) ha1 (by omega) R2 HR2).mono ?_
          rintro e w6 ⟨v6, rfl, ho6, hb6⟩
          obtain ⟨D6, d6, rfl, _, _, hr6⟩ := own_form ho6
          have HR6 := Lib.hid (HR5.out.up hb6)
          have HR7 := Lib.hid hr6
          have HB6 := Lib.hid (Below.then_ HB5.out hb6)
          clear ho6 hb6 hr6
          go_wp2_with fail
          refine (eqReg_val R1 R2 _ _ _ _ w6 false (Lib.hid (eqC_no HNE.out)) hR1l hR2l HR6.out HR7.out).mono ?_
          rintro e w7 ⟨rfl, hb7⟩
          have HB7 := Lib.hid (Below.then_ HB6.out hb7)
          clear hb7
          go_wp2_with fail
          refine (alive_ok _).mono ?_
          rintro e w8 ⟨rfl, hb8⟩
          have HB8 := Lib.hid (Below.then_ HB7.out hb8)
          clear hb8
          go_wp2_with fail
          refine (cLen_ok (HM3.out.up HB8.out) _ HN).mono ?_
          rintro e w9 ⟨rfl, hb9⟩
          have HZ := Lib.hid (Below.then_ ST3.out.bel (Below.then_ HB8.out hb9))
          have hkN : (k : Int) + 1 = (N : Int) := by omega
          clear hb9
          go_wp2
          go_ret
          exact ⟨rfl, HZ.out⟩
      · have hbe : (b == 18446744073709551615) = false := by simpa using hl1
        rcases Nat.eq_zero_or_pos k with hz0 | hz0
        · have HB7 := Lib.hid HB4.out
          subst hz0
          go_wp2
          go_roundw
          case rel => exact ⟨0 + 1, hl2, by first | (rw [← hl3]; done) | (rw [← hl3]; congr 1; rw [IntKind.wrap_u64]; omega), by go_num, by go_num, HB7⟩
          case measure => simp [intOf]; omega
        · have hne := HDF.out hz0
          have ha1 : 0 ≤ a - 1 := by have := HA0.out hz0; omega
          have hwa : IntKind.u64.wrap (a - 1) = a - 1 := by rw [IntKind.wrap_u64]; omega
          have kp : (0 : Int) < (k : Int) := by omega
          obtain ⟨R1, hR1⟩ : ∃ R, l.filter (fun r => covR r a) = R := ⟨_, rfl⟩
          obtain ⟨R2, hR2⟩ : ∃ R, l.filter (fun r => covR r (a - 1)) = R := ⟨_, rfl⟩
          have hR1l : R1.length ≤ 4194304 := by rw [← hR1]; have := List.length_filter_le (fun r => covR r a) l; omega
          have hR2l : R2.length ≤ 4194304 := by rw [← hR2]; have := List.length_filter_le (fun r => covR r (a - 1)) l; omega
          rw [hR1, hR2] at hne
          have HNE := Lib.hid hne
          have HR1 := Lib.hid hR1
          have HR2 := Lib.hid hR2
          clear hne hR1 hR2
          go_wp2_with fail
          refine (cAll_ok HM4.out a e4 (by omega) R1 HR1).mono ?_
          rintro e w5 ⟨v5, rfl, ho5, hb5⟩
          obtain ⟨D5, d5, rfl, _, _, hr5⟩ := own_form ho5
          have HR5 := Lib.hid hr5
          have HB5 := Lib.hid (Below.then_ HB4.out hb5)
          clear ho5 hb5 hr5
          go_wp2_with fail
          refine (cAll_ok (HM3.out.up HB5.out) (a - 1) ha1 (by omega) R2 HR2).mono ?_
          rintro e w6 ⟨v6, rfl, ho6, hb6⟩
          obtain ⟨D6, d6, rfl, _, _, hr6⟩ := own_form ho6
          have HR6 := Lib.hid (HR5.out.up hb6)
          have HR7 := Lib.hid hr6
          have HB6 := Lib.hid (Below.then_ HB5.out hb6)
          clear ho6 hb6 hr6
          go_wp2_with fail
          refine (eqReg_val R1 R2 _ _ _ _ w6 false (Lib.hid (eqC_no HNE.out)) hR1l hR2l HR6.out HR7.out).mono ?_
          rintro e w7 ⟨rfl, hb7⟩
          have HB7 := Lib.hid (Below.then_ HB6.out hb7)
          clear hb7
          go_wp2
          go_roundw
          case rel => exact ⟨k + 1, hl2, by first | (rw [← hl3]; done) | (rw [← hl3]; congr 1; rw [IntKind.wrap_u64]; omega), by go_num, by go_num, HB7⟩
          case measure => simp [intOf]; omega
  · have H1 := Lib.hid h1
    clear h1
    go_enter Tryz.func6, Tryz.ntmps6
    go_upto_region 1 with (fail)
    rw [HW.out]
    go_wp2_with fail
    refine (goodO_ok c _ _ _ _ _ _ _ _ _ _ _ ST0.out.R hs HOK.out false H1).mono ?_
    rintro e w1 ⟨rfl, hb1⟩
    have ST1 := Lib.hid (ST0.out.up hb1)
    clear hb1 x0 x1 x2 x3 x4 x5 hz
    go_wp2_with fail
    refine (alive_ok w1).mono ?_
    rintro e w2 ⟨rfl, hb2⟩
    have HZ := Lib.hid (ST1.out.up hb2).bel
    clear hb2
    go_wp2
    go_ret
    exact ⟨rfl, HZ.out⟩
end Go.Proofs.YticdjnbkeiilfaaGreat
