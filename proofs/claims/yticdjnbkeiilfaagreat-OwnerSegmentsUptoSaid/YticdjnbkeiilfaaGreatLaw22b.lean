/-
  The law OwnerSegments, walked.
-/
import Derived.BigQuiet
import Derived.Deep.RegionHeld3
import Derived.Test.YticdjnbkeiilfaaGreatAlive22
import Derived.Test.YticdjnbkeiilfaaGreatCovQ
import Derived.Test.YticdjnbkeiilfaaGreatEqZ
import Derived.Test.YticdjnbkeiilfaaGreatRefT
namespace Go.Proofs.YticdjnbkeiilfaaGreat
open Go.RowKit Go.Lib
attribute [local go_sem] ext_cell
theorem filt_len {l : List Reg} {n : Nat} (h : l.length ≤ n) (p : Reg → Bool) : (l.filter p).length ≤ n := Nat.le_trans (List.length_filter_le _ _) h
theorem u64_bd {x : Int} (h : wU64 x) : 0 ≤ x ∧ x ≤ 18446744073709551615 := by
  exact Go.bounds_u64 h
set_option maxRecDepth 100000 in
set_option maxHeartbeats 16000000 in
theorem ownerSegments_ok (c : Cfg) (A1 A2 A3 A4 A5 : Option Addr) (c1 c2 c3 c4 c5 : Nat) (w : World) (hR : CfgR w w.heap.size c A1 A2 A3 A4 A5 c1 c2 c3 c4 c5) (hs : c.small) (hok : c.ok) (x k : Int) (hx : wU64 x) (hk : wU64 k) : Calls Tryz.prog 5 #[cfgV c.frame A1 A2 A3 A4 A5 c.parts.length c.wins.length c.regs.length c.ports.length c.chans.length c1 c2 c3 c4 c5, .int .u64 x, .int .u64 k] w fun e w' => e = .returned (.bool true) ∧ Below w.heap.size w w' := by
  obtain ⟨W0, hW, st⟩ := St.start_any hR 29
  have HW := Lib.hid hW
  have ST0 := Lib.hid st
  obtain ⟨x0, x1, x2, x3, x4, x5, hz⟩ := st.cells
  have HOK := Lib.hid hok
  obtain ⟨hx0, hx1⟩ := u64_bd hx
  obtain ⟨hk0, hk1⟩ := u64_bd hk
  clear hR hW st hok hx hk
  rcases bool_cases (goodO c) with h1 | h1
  · have H1 := Lib.hid h1
    have HV := Lib.hid (goodO_right h1)
    have HLC := Lib.hid (rightM_okR HOK.out (goodO_right h1))
    clear h1
    go_enter Tryz.func5, Tryz.ntmps5
    go_upto_region 1 with (fail)
    rw [HW.out]
    go_wp2_with fail
    refine (goodO_ok c _ _ _ _ _ _ _ _ _ _ _ ST0.out.R hs HOK.out true H1).mono ?_
    rintro e w1 ⟨rfl, hb1⟩
    have ST1 := Lib.hid (ST0.out.up hb1)
    clear hb1 x0 x1 x2 x3 x4 x5 hz
    obtain ⟨x0, x1, x2, x3, x4, x5, hz⟩ := ST1.out.cells
    go_wp2_with fail
    refine (cNew_ok c _ _ _ _ _ _ _ _ _ _ _ ST1.out.R hs HOK.out true HV).mono ?_
    rintro e w2 ⟨hb2, ⟨h, _⟩ | ⟨_, mb, rfl, hm⟩⟩
    · cases h
    have ST2 := Lib.hid (ST1.out.up hb2)
    have HSG := Lib.hid hm.segs
    have HLK := Lib.hid hm.ok
    have HSL := Lib.hid (segsL_perm (normK_perm (key := keyReg) c.regs))
    have HM := Lib.hid hm
    have hfr := hm.len
    generalize normK keyReg c.regs = l at *
    obtain ⟨a, b, hab⟩ : ∃ a b, refSeg (segsL l) x = (a, b) := ⟨_, _, rfl⟩
    have HAB := Lib.hid hab
    obtain ⟨p0, p1, p2⟩ := seg_in HSG.out HLK.out hx0 hx1 hab
    have HSM := Lib.hid (fun (y : Int) (h2 : a ≤ y) (h3 : y ≤ b) => seg_same HSG.out HLK.out hx0 hx1 hab h2 h3)
    obtain ⟨R, hRR⟩ : ∃ R, (l.filter fun r => covR r x) = R := ⟨_, rfl⟩
    have HRR := Lib.hid hRR
    have hrl : R.length ≤ 4194304 := by rw [← hRR]; exact filt_len (by omega) _
    rw [hRR] at HSM
    clear hb2 hm hab hRR x0 x1 x2 x3 x4 x5 hz
    go_wp2_with fail
    refine (cSegment_ok HM.out x hx0 hx1 a b HAB).mono ?_
    rintro e w3 ⟨rfl, hb3⟩
    have ST3 := Lib.hid (ST2.out.up hb3)
    have HM3 := Lib.hid (HM.out.up hb3)
    clear hb3
    obtain ⟨x0, x1, x2, x3, x4, x5, hz⟩ := ST3.out.cells
    go_wp2_with fail
    refine (rSegment_ok c _ _ _ _ _ _ _ _ _ _ _ ST3.out.R hs HLC.out x hx0 a b (Lib.hid (by rw [← HSL.out]; exact HAB.out))).mono ?_
    rintro e w4 ⟨rfl, hb4⟩
    have ST4 := Lib.hid (ST3.out.up hb4)
    have HM4 := Lib.hid (HM3.out.up hb4)
    clear hb4 x0 x1 x2 x3 x4 x5 hz
    obtain ⟨x0, x1, x2, x3, x4, x5, hz⟩ := ST4.out.cells
    obtain ⟨N, hN⟩ : ∃ N, (segsL l).length = N := ⟨_, rfl⟩
    have HN := Lib.hid hN
    have HBW := Lib.hid (Below.refl w4.heap.size w4)
    have HKP := Lib.hid (show ∀ U, Below w4.heap.size w4 U → (fun w' : World => w'.cell? ⟨w.heap.size, 0, none⟩ = some (.int .u64 c.frame) ∧ w'.cell? ⟨w.heap.size, 1, none⟩ = some (.slice A1 c.parts.length c1) ∧ w'.cell? ⟨w.heap.size, 2, none⟩ = some (.slice A2 c.wins.length c2) ∧ w'.cell? ⟨w.heap.size, 3, none⟩ = some (.slice A3 c.regs.length c3) ∧ w'.cell? ⟨w.heap.size, 4, none⟩ = some (.slice A4 c.ports.length c4) ∧ w'.cell? ⟨w.heap.size, 5, none⟩ = some (.slice A5 c.chans.length c5)) U from fun U hU => by
      obtain ⟨y0, y1, y2, y3, y4, y5, _⟩ := (ST4.out.up hU).cells
      exact ⟨y0, y1, y2, y3, y4, y5⟩)
    clear hN
    go_upto_region 8 with (fail)
    go_region_held3 (fun w' => w'.cell? ⟨w.heap.size, 0, none⟩ = some (.int .u64 c.frame) ∧ w'.cell? ⟨w.heap.size, 1, none⟩ = some (.slice A1 c.parts.length c1) ∧ w'.cell? ⟨w.heap.size, 2, none⟩ = some (.slice A2 c.wins.length c2) ∧ w'.cell? ⟨w.heap.size, 3, none⟩ = some (.slice A3 c.regs.length c3) ∧ w'.cell? ⟨w.heap.size, 4, none⟩ = some (.slice A4 c.ports.length c4) ∧ w'.cell? ⟨w.heap.size, 5, none⟩ = some (.slice A5 c.chans.length c5))
      (first | (refine HKP.out _ ?_; (repeat (first | with_reducible exact HBW.out | with_reducible exact Below.refl _ _ | with_reducible refine Below.drew ?_ | (with_reducible refine Below.alloc ?_ (by first | (simp; done) | (have hq := HBW.out.size; simp at hq ⊢; omega)) _) | (with_reducible refine Below.setCell ?_ (by first | (simp; done) | (have hq := HBW.out.size; simp at hq ⊢; omega)) _))); done) | go_keep)
      (first
      | (go_at_call 23; refine (cLen_ok (HM4.out.up (show Below w4.heap.size w4 _ from by (repeat (first | with_reducible exact HBW.out | with_reducible exact Below.refl _ _ | with_reducible refine Below.drew ?_ | (with_reducible refine Below.alloc ?_ (by first | (simp; done) | (have hq := HBW.out.size; simp at hq ⊢; omega)) _) | (with_reducible refine Below.setCell ?_ (by first | (simp; done) | (have hq := HBW.out.size; simp at hq ⊢; omega)) _))))) N HN).mono ?_; rintro e w5 ⟨rfl, hb5⟩; have HBW := Lib.hid (Below.then_ (show Below w4.heap.size w4 _ from by (repeat (first | with_reducible exact HBW.out | with_reducible exact Below.refl _ _ | with_reducible refine Below.drew ?_ | (with_reducible refine Below.alloc ?_ (by first | (simp; done) | (have hq := HBW.out.size; simp at hq ⊢; omega)) _) | (with_reducible refine Below.setCell ?_ (by first | (simp; done) | (have hq := HBW.out.size; simp at hq ⊢; omega)) _)))) hb5); clear hb5)
      | (go_at_call 24; refine (rSegments_ok c _ _ _ _ _ _ _ _ _ _ _ (ST4.out.up (show Below w4.heap.size w4 _ from by (repeat (first | with_reducible exact HBW.out | with_reducible exact Below.refl _ _ | with_reducible refine Below.drew ?_ | (with_reducible refine Below.alloc ?_ (by first | (simp; done) | (have hq := HBW.out.size; simp at hq ⊢; omega)) _) | (with_reducible refine Below.setCell ?_ (by first | (simp; done) | (have hq := HBW.out.size; simp at hq ⊢; omega)) _))))).R hs HLC.out).mono ?_; rintro e w5 ⟨v5, rfl, ho5, hb5⟩; rw [← HSL.out, HN.out] at ho5; obtain ⟨D5, d5, rfl, _, _, _⟩ := own_form ho5; have HBW := Lib.hid (Below.then_ (show Below w4.heap.size w4 _ from by (repeat (first | with_reducible exact HBW.out | with_reducible exact Below.refl _ _ | with_reducible refine Below.drew ?_ | (with_reducible refine Below.alloc ?_ (by first | (simp; done) | (have hq := HBW.out.size; simp at hq ⊢; omega)) _) | (with_reducible refine Below.setCell ?_ (by first | (simp; done) | (have hq := HBW.out.size; simp at hq ⊢; omega)) _)))) hb5); clear hb5 ho5)
      | fail)
    all_goals
      have ST5 := Lib.hid (ST4.out.up HBW.out)
      have HM5 := Lib.hid (HM4.out.up HBW.out)
      clear x0 x1 x2 x3 x4 x5 hz HBW HKP
      have hwba : IntKind.u64.wrap (b - a) = b - a := by rw [IntKind.wrap_u64]; omega
      by_cases hfull : b - a = 18446744073709551615
      · have hwn : IntKind.u64.wrap (b - a + 1) = 0 := by rw [IntKind.wrap_u64]; omega
        have HRY := Lib.hid (HSM.out a (by omega) (by omega))
        have ha1 : a ≤ 18446744073709551615 := by omega
        clear hfull
        go_wp2_with fail
        refine (alive_ok _).mono ?_
        rintro e w6 ⟨rfl, hb6⟩
        have HM6 := Lib.hid (HM5.out.up hb6)
        have HB6 := Lib.hid (ST5.out.up hb6).bel
        have HZ6 := Lib.hid (show w.heap.size ≤ w6.heap.size from HB6.out.size)
        clear hb6
        go_wp2_with fail
        refine (cAll_ok HM6.out a p0 ha1 R HRY).mono ?_
        rintro e w7 ⟨v7, rfl, ho7, hb7⟩
        obtain ⟨D7, d7, rfl, _, _, hr7⟩ := own_form ho7
        have HR7 := Lib.hid hr7
        have HM7 := Lib.hid (HM6.out.up hb7)
        have HB7 := Lib.hid (Below.then_ HB6.out hb7)
        clear ho7 hb7 hr7
        go_wp2_with fail
        refine (cAll_ok HM7.out x hx0 hx1 R HRR).mono ?_
        rintro e w8 ⟨v8, rfl, ho8, hb8⟩
        obtain ⟨D8, d8, rfl, _, _, hr8⟩ := own_form ho8
        have HR8 := Lib.hid (HR7.out.up hb8)
        have HR9 := Lib.hid hr8
        have HB8 := Lib.hid (Below.then_ HB7.out hb8)
        clear ho8 hb8 hr8
        go_wp2_with fail
        refine (eqReg_val R R _ _ _ _ w8 true (Lib.hid (eqC_yes rfl)) hrl hrl HR8.out HR9.out).mono ?_
        rintro e w9 ⟨rfl, hb9⟩
        have HB9 := Lib.hid (Below.then_ HB8.out hb9)
        clear hb9
        go_wp2
        go_ret
        exact ⟨rfl, HB9.out⟩
      · have hwn : IntKind.u64.wrap (b - a + 1) = b - a + 1 := by rw [IntKind.wrap_u64]; omega
        have hnz : ¬ b - a + 1 = 0 := by omega
        have hnp : 0 < b - a + 1 := by omega
        have hm0 := Int.emod_nonneg k hnz
        have hm1 := Int.emod_lt_of_pos k hnp
        have ht : k.tmod (b - a + 1) = k % (b - a + 1) := Int.tmod_eq_emod_of_nonneg hk0
        obtain ⟨m, hm⟩ : ∃ m, k % (b - a + 1) = m := ⟨_, rfl⟩
        rw [hm] at hm0 hm1 ht
        have hw3 : IntKind.u64.wrap m = m := by rw [IntKind.wrap_u64]; omega
        have hw4 : IntKind.u64.wrap (a + m) = a + m := by rw [IntKind.wrap_u64]; omega
        have HRY := Lib.hid (HSM.out (a + m) (by omega) (by omega))
        have hy0 : 0 ≤ a + m := by omega
        have hy1 : a + m ≤ 18446744073709551615 := by omega
        clear hfull
        go_wp2_with fail
        refine (alive_ok _).mono ?_
        rintro e w6 ⟨rfl, hb6⟩
        have HM6 := Lib.hid (HM5.out.up hb6)
        have HB6 := Lib.hid (ST5.out.up hb6).bel
        have HZ6 := Lib.hid (show w.heap.size ≤ w6.heap.size from HB6.out.size)
        clear hb6
        go_wp2_with fail
        refine (cAll_ok HM6.out (a + m) hy0 hy1 R HRY).mono ?_
        rintro e w7 ⟨v7, rfl, ho7, hb7⟩
        obtain ⟨D7, d7, rfl, _, _, hr7⟩ := own_form ho7
        have HR7 := Lib.hid hr7
        have HM7 := Lib.hid (HM6.out.up hb7)
        have HB7 := Lib.hid (Below.then_ HB6.out hb7)
        clear ho7 hb7 hr7
        go_wp2_with fail
        refine (cAll_ok HM7.out x hx0 hx1 R HRR).mono ?_
        rintro e w8 ⟨v8, rfl, ho8, hb8⟩
        obtain ⟨D8, d8, rfl, _, _, hr8⟩ := own_form ho8
        have HR8 := Lib.hid (HR7.out.up hb8)
        have HR9 := Lib.hid hr8
        have HB8 := Lib.hid (Below.then_ HB7.out hb8)
        clear ho8 hb8 hr8
        go_wp2_with fail
        refine (eqReg_val R R _ _ _ _ w8 true (Lib.hid (eqC_yes rfl)) hrl hrl HR8.out HR9.out).mono ?_
        rintro e w9 ⟨rfl, hb9⟩
        have HB9 := Lib.hid (Below.then_ HB8.out hb9)
        clear hb9
        go_wp2
        go_ret
        exact ⟨rfl, HB9.out⟩
  · have H1 := Lib.hid h1
    clear h1
    go_enter Tryz.func5, Tryz.ntmps5
    go_upto_region 1 with (fail)
    rw [HW.out]
    go_wp2_with fail
    refine (goodO_ok c _ _ _ _ _ _ _ _ _ _ _ ST0.out.R hs HOK.out false H1).mono ?_
    rintro e w1 ⟨rfl, hb1⟩
    have ST1 := Lib.hid (ST0.out.up hb1)
    clear hb1 x0 x1 x2 x3 x4 x5 hz
    go_wp2_with fail
    refine (alive_ok w1).mono ?_
    rintro e w2 ⟨rfl, hb2⟩
    have HZ := Lib.hid (ST1.out.up hb2).bel
    clear hb2
    go_wp2
    go_ret
    exact ⟨rfl, HZ.out⟩
end Go.Proofs.YticdjnbkeiilfaaGreat
