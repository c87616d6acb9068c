/-
  The law OwnerNil, walked.
-/
import Derived.BigQuiet
import Derived.Deep.RegionHeld3
import Derived.Test.YtdmgpdanlfmadaaGreatAlive22
import Derived.Test.YtdmgpdanlfmadaaGreatEqZ
import Derived.Test.YtdmgpdanlfmadaaGreatRefU
import Derived.Test.YtdmgpdanlfmadaaGreatOwnY
import Derived.Test.YtdmgpdanlfmadaaGreatRowL
namespace Go.Proofs.YtdmgpdanlfmadaaGreat
open Go.RowKit Go.Lib
attribute [local go_sem] ext_cell
theorem regOneO (l : List Reg) : ∀ u ∈ l.flatMap Reg.cells, u.oneCell' = true := by
  intro u hu
  obtain ⟨r, _, hx⟩ := List.mem_flatMap.1 hu
  simp [Reg.cells] at hx
  rcases hx with rfl | rfl | rfl | rfl | rfl <;> rfl
theorem eqReg_z (l : List Reg) (n : Nat) (hn : Hid (l.length = n)) (A B : Option Addr) (a b : Nat) (w : World) (hl : n ≤ 4194304) (hA : Rd w w.heap.size 5 A n (l.flatMap Reg.cells)) (hB : Rd w w.heap.size 5 B n (l.flatMap Reg.cells)) :
    Calls Tryz.prog 14 #[.slice A n a, .slice B n b] w fun e w' => e = .returned (.bool true) ∧ Below w.heap.size w w' := by
  have h := hn.out
  subst h
  exact eqReg_val l l A B a b w true (Lib.hid (eqC_yes rfl)) hl hl hA hB
set_option maxRecDepth 100000 in
set_option maxHeartbeats 16000000 in
theorem ownerNil_ok (c : Cfg) (A1 A2 A3 A4 A5 : Option Addr) (c1 c2 c3 c4 c5 : Nat) (w : World) (hR : CfgR w w.heap.size c A1 A2 A3 A4 A5 c1 c2 c3 c4 c5) (hs : c.small) (hok : c.ok) (x : Int) (hx : wU64 x) : Calls Tryz.prog 4 #[cfgV c.frame A1 A2 A3 A4 A5 c.parts.length c.wins.length c.regs.length c.ports.length c.chans.length c1 c2 c3 c4 c5, .int .u64 x] w fun e w' => e = .returned (.bool true) ∧ Below w.heap.size w w' := by
  obtain ⟨i0, hi, hz0, hz1, hz2⟩ := info_parts infoRegion
  obtain ⟨W0, hW, st⟩ := St.start_any hR 29
  have HW := Lib.hid hW
  have ST0 := Lib.hid st
  obtain ⟨x0, x1, x2, x3, x4, x5, hz⟩ := st.cells
  have HOK := Lib.hid hok
  obtain ⟨hx0, hx1⟩ := Go.bounds_u64 hx
  have hbd := hs.bd.r
  clear hR hW st hok hx
  rcases bool_cases (goodO c) with h1 | h1
  · have H1 := Lib.hid h1
    have HV := Lib.hid (goodO_right h1)
    have HSP := Lib.hid (rightM_sp HOK.out (goodO_right h1))
    clear h1
    go_enter Tryz.func4, Tryz.ntmps4
    go_upto_region 1 with (fail)
    rw [HW.out]
    go_wp2_with fail
    refine (goodO_ok c _ _ _ _ _ _ _ _ _ _ _ ST0.out.R hs HOK.out true H1).mono ?_
    rintro e w1 ⟨rfl, hb1⟩
    have ST1 := Lib.hid (ST0.out.up hb1)
    clear hb1 x0 x1 x2 x3 x4 x5 hz
    obtain ⟨x0, x1, x2, x3, x4, x5, hz⟩ := ST1.out.cells
    have hal := below_one w1 (.cells #[.int .u64 c.frame, .slice A1 c.parts.length c1, .slice A2 c.wins.length c2, .slice A3 c.regs.length c3, .slice A4 c.ports.length c4, .slice A5 c.chans.length c5] 29)
    have bx := Blk.new w1 29 #[.int .u64 c.frame, .slice A1 c.parts.length c1, .slice A2 c.wins.length c2, .slice A3 c.regs.length c3, .slice A4 c.ports.length c4, .slice A5 c.chans.length c5]
    go_upto_region 4 with (fail)
    generalize World.alloc w1 _ = W2 at hal bx ⊢
    have hgz : w.heap.size < w1.heap.size := by have := ST1.out.z; omega
    have HAL := Lib.hid hal
    have ST2 := Lib.hid (ST1.out.up hal)
    clear x0 x1 x2 x3 x4 x5 hz hal
    generalize hgx : w1.heap.size = gx at *
    have BX := Lib.hid bx
    have hgl := bx.lt
    have hae := below_one W2 (.cells #[] 41)
    have HO := Lib.hid (own_litS W2 (gx + 1) 41 5 [] W2.heap.size 0 (by omega) rfl (by unfold maxLen; omega) rfl #[] rfl)
    have HRG := Lib.hid (ST2.out.up hae).R.regs
    have HAE := Lib.hid hae
    obtain ⟨x0, x1, x2, x3, x4, x5, hz⟩ := (ST2.out.up hae).cells
    clear bx hae
    go_upto_region 5 with (at_builtin; go_loud (refine wpList_append_rd _ rfl (.tmp 22) (.tmp 24) _ rfl (gx + 1) 41 i0 (.agg #[.int .u64 0, .int .u64 0, .int .u16 0, .int .u8 0, .bool false]) 5 24 Tryz.underlying25 hi hz0 hz1 hz2 rfl (by decide) _ 0 [] rfl HO.out (W2.alloc (.cells #[] 41)).heap.size A3 c.regs.length c3 (c.regs.flatMap Reg.cells) rfl HRG.out (regOneO _) (by unfold maxLen; omega) (by omega) (by simp; omega) ?_); intro v' w4 hown hg; simp only [Nat.zero_add, List.nil_append] at hown; obtain ⟨D, d, rfl, hd1, hd2, hrd⟩ := own_form hown; have hb4 := below_own (Below.refl (gx + 1) _) hg HO.out (by simp; omega); have bx4 := (BX.out.below HAE.out hgl).below hb4 (Nat.lt_succ_self gx); have q3 := bx4.cell 3; have f3 := bx4.frozen 3; simp at q3)
    have HLE := Lib.hid (show gx < W2.heap.size from hgl)
    have hbw : Below gx w1 w4 := (HAL.out.trans (HAE.out.mono (by omega))).trans (hb4.mono (Nat.le_succ gx))
    have hb5 := hbw.setCell (p := ⟨gx, 3, none⟩) (Nat.le_refl gx) (.slice D c.regs.length d)
    have bx5 := bx4.set_ 3 (.slice D c.regs.length d)
    have ho5 := own_set hown (p := ⟨gx, 3, none⟩) (Nat.lt_succ_self gx) (.slice D c.regs.length d)
    clear hbw bx4 q3 f3 x0 x1 x2 x3 x4 x5 hz hrd hown hg hb4
    generalize World.setCell w4 _ _ = w5 at hb5 bx5 ho5 ⊢
    simp at bx5
    have ST5 := Lib.hid (ST1.out.up (by rw [hgx]; exact hb5))
    have BX5 := Lib.hid bx5
    have HO5 := Lib.hid ho5
    have HCR := Lib.hid (show CfgR w5 w5.heap.size c A1 A2 D A4 A5 c1 c2 d c4 c5 from by
      have h := ST5.out.R
      exact ⟨h.parts, h.wins, (own_slice ho5).2, h.ports, h.chans, h.cap1, h.cap2, ⟨hd1, hd2⟩, h.cap4, h.cap5⟩)
    have q0 := bx5.cell 0
    have q1 := bx5.cell 1
    have q2 := bx5.cell 2
    have q3 := bx5.cell 3
    have q4 := bx5.cell 4
    have q5 := bx5.cell 5
    have qz := bx5.lt
    simp at q0 q1 q2 q3 q4 q5
    clear hb5 bx5 ho5
    go_wp2_with fail
    refine (cNew_ok c A1 A2 D A4 A5 c1 c2 d c4 c5 w5 HCR.out hs HOK.out true HV).mono ?_
    rintro e w6 ⟨hb6, ⟨h, _⟩ | ⟨_, mb, rfl, hm⟩⟩
    · cases h
    have ST6 := Lib.hid (ST5.out.up hb6)
    have BX6 := Lib.hid (BX5.out.below hb6 BX5.out.lt)
    have HM6 := Lib.hid hm
    have HR6 := Lib.hid ((RowL.start HO5.out rfl).up hb6)
    obtain ⟨lo, hlo⟩ : ∃ lo, w5.heap.size = lo := ⟨_, rfl⟩
    rw [hlo] at HM6 HR6 qz
    have q3 := BX6.out.cell 3
    have q6 := BX6.out.lt
    simp at q3
    clear hb6 hm q0 q1 q2 q4 q5 hlo
    go_wp2
    go_loopw [7, 34] (fun _ i wr => ∃ k : Nat, k ≤ c.regs.length ∧ i = .int .i64 k ∧ Hid (RowL wr (gx + 1) lo D c.regs k) ∧ Hid (MapC wr lo mb (normK keyReg c.regs)) ∧ Hid (St w wr c A1 A2 A3 A4 A5 c1 c2 c3 c4 c5) ∧ Hid (Blk wr gx 29 #[.int .u64 c.frame, .slice A1 c.parts.length c1, .slice A2 c.wins.length c2, .slice D c.regs.length d, .slice A4 c.ports.length c4, .slice A5 c.chans.length c5])) (fun _ i _ => c.regs.length - (intOf i).toNat)
    case atStart => exact ⟨0, Nat.zero_le _, rfl, HR6, HM6, ST6, BX6⟩
    case round =>
      obtain ⟨k, hk, rfl, HR, HM, HS, HX⟩ := hrel
      have q3 := HX.out.cell 3
      have q6 := HX.out.lt
      simp at q3
      by_cases hlt : k < c.regs.length
      · obtain ⟨r, hr⟩ := get_lt hlt
        obtain ⟨g, rfl, r1, r2, r3, p0, p1, pf⟩ := HR.out.at_ hr
        have k0 : (0 : Int) ≤ (k : Int) := by omega
        have k1 : (k : Int) < (c.regs.length : Int) := by omega
        have pf0 := pf (k * 5)
        have HRs := Lib.hid (fun u => HR.out.set_ (d := 0) (by omega) u)
        have HMs := Lib.hid (fun u => HM.out.low (p := ⟨g, k * 5, none⟩) r2 u)
        have HSs := Lib.hid (fun u => HS.out.keep ((Below.refl (w.heap.size + 1) wr).setCell (p := ⟨g, k * 5, none⟩) (show w.heap.size + 1 ≤ g by omega) u))
        have HXs := Lib.hid (fun u => HX.out.far (p := ⟨g, k * 5, none⟩) (show gx ≠ g by omega) u)
        clear hr pf p1
        go_wp2
        go_roundw
        case rel => exact ⟨k + 1, by omega, by go_num, Lib.hid (HRs.out _), Lib.hid (HMs.out _), Lib.hid (HSs.out _), Lib.hid (HXs.out _)⟩
        case measure => simp [intOf]; omega
      · clear HR HX q3 q6
        obtain rfl : k = c.regs.length := by omega
        generalize wr = wA at *
        have hnl : (normK keyReg c.regs).length ≤ 1048576 := HM.out.len
        obtain ⟨R, hRR⟩ : ∃ R, ((normK keyReg c.regs).filter fun r => covR r x) = R := ⟨_, rfl⟩
        have HRR := Lib.hid hRR
        have hrl : R.length ≤ 4194304 := by
          rw [← hRR]
          exact Nat.le_trans (List.length_filter_le _ _) (by omega)
        clear hRR hnl hk hlt
        go_wp2_with fail
        refine (cAll_ok HM.out x hx0 hx1 R HRR).mono ?_
        rintro e w7 ⟨v7, rfl, ho7, hb7⟩
        obtain ⟨n, hn⟩ : ∃ n, R.length = n := ⟨_, rfl⟩
        have HN := Lib.hid hn
        have hr7 : ∀ A d, v7 = .slice A n d → RowL w7 wA.heap.size w7.heap.size A R 0 := fun A d e => by
          rw [e, hn] at ho7
          exact RowL.start ho7 hn.symm
        rw [hn] at ho7 hrl
        obtain ⟨D7, d7, rfl, _, _, _⟩ := own_form ho7
        have HR7 := Lib.hid (hr7 D7 d7 rfl)
        have HB7 := Lib.hid hb7
        clear ho7 hb7 hr7 hn
        go_wp2
        go_loopw [9, 52] (fun _ i wr => ∃ k : Nat, k ≤ n ∧ i = .int .i64 k ∧ Hid (RowL wr wA.heap.size w7.heap.size D7 R k) ∧ Hid (Below wA.heap.size wA wr)) (fun _ i _ => n - (intOf i).toNat)
        case atStart => exact ⟨0, Nat.zero_le _, rfl, HR7, HB7⟩
        case round =>
          obtain ⟨k, hk, rfl, HR, HB⟩ := hrel
          by_cases hlt : k < n
          · obtain ⟨r, hr⟩ := get_lt (show k < R.length by rw [HN.out]; exact hlt)
            obtain ⟨g, rfl, r1, r2, r3, p0, p1, pf⟩ := HR.out.at_ hr
            have k0 : (0 : Int) ≤ (k : Int) := by omega
            have k1 : (k : Int) < (n : Int) := by omega
            have pf0 := pf (k * 5 + 1)
            have HRs := Lib.hid (fun u => HR.out.set_ (d := 1) (by omega) u)
            have HBs := Lib.hid (fun u => HB.out.setCell (p := ⟨g, k * 5 + 1, none⟩) r1 u)
            clear hr pf p0
            go_wp2
            go_roundw
            case rel => exact ⟨k + 1, by omega, by go_num, Lib.hid (HRs.out _), Lib.hid (HBs.out _)⟩
            case measure => simp [intOf]; omega
          · have HMB := Lib.hid (HM.out.up HB.out)
            have HSB := Lib.hid (HS.out.up HB.out)
            obtain rfl : k = n := by omega
            clear HR hk hlt HB
            generalize wr = wB at *
            go_wp2_with fail
            refine (zOwner_ok x wB).mono ?_
            rintro e w8 ⟨rfl, hb8⟩
            have hal := below_one w8 (.cells #[.int .u64 0, .int .u64 0, .int .u16 0, .int .u8 0, .bool false] 41)
            have HB8 := Lib.hid (Below.then_ hb8 hal)
            clear hb8 hal
            go_upto_region 21 with (fail)
            generalize World.alloc w8 _ = w9 at HB8 ⊢
            go_wp2_with fail
            refine (zSegment_ok x w9).mono ?_
            rintro e w10 ⟨rfl, hb10⟩
            have HB10 := Lib.hid (Below.then_ HB8.out hb10)
            clear hb10
            go_wp2_with fail
            refine (zFree_ok 1 1 w10).mono ?_
            rintro e w11 ⟨rfl, hb11⟩
            have HM11 := Lib.hid (HMB.out.up (Below.then_ HB10.out hb11))
            have HS11 := Lib.hid (HSB.out.up (Below.then_ HB10.out hb11))
            clear hb11
            obtain ⟨x0, x1, x2, x3, x4, x5, hz⟩ := HS11.out.cells
            have HBW := Lib.hid (Below.refl w11.heap.size w11)
            have HKP := Lib.hid (show ∀ U, Below w11.heap.size w11 U → (fun w' => w'.cell? ⟨w.heap.size, 0, none⟩ = some (.int .u64 c.frame) ∧ w'.cell? ⟨w.heap.size, 1, none⟩ = some (.slice A1 c.parts.length c1) ∧ w'.cell? ⟨w.heap.size, 2, none⟩ = some (.slice A2 c.wins.length c2) ∧ w'.cell? ⟨w.heap.size, 3, none⟩ = some (.slice A3 c.regs.length c3) ∧ w'.cell? ⟨w.heap.size, 4, none⟩ = some (.slice A4 c.ports.length c4) ∧ w'.cell? ⟨w.heap.size, 5, none⟩ = some (.slice A5 c.chans.length c5)) U from fun U hU => by
              obtain ⟨y0, y1, y2, y3, y4, y5, _⟩ := (HS11.out.up hU).cells
              exact ⟨y0, y1, y2, y3, y4, y5⟩)
            go_upto_region 23 with (fail)
            go_region_held3 (fun w' => w'.cell? ⟨w.heap.size, 0, none⟩ = some (.int .u64 c.frame) ∧ w'.cell? ⟨w.heap.size, 1, none⟩ = some (.slice A1 c.parts.length c1) ∧ w'.cell? ⟨w.heap.size, 2, none⟩ = some (.slice A2 c.wins.length c2) ∧ w'.cell? ⟨w.heap.size, 3, none⟩ = some (.slice A3 c.regs.length c3) ∧ w'.cell? ⟨w.heap.size, 4, none⟩ = some (.slice A4 c.ports.length c4) ∧ w'.cell? ⟨w.heap.size, 5, none⟩ = some (.slice A5 c.chans.length c5))
              (first | (refine HKP.out _ ?_; (repeat (first | with_reducible exact HBW.out | with_reducible exact Below.refl _ _ | with_reducible refine Below.drew ?_ | (with_reducible refine Below.alloc ?_ (by first | (simp; done) | (have hq := HBW.out.size; simp at hq ⊢; omega)) _) | (with_reducible refine Below.setCell ?_ (by first | (simp; done) | (have hq := HBW.out.size; simp at hq ⊢; omega)) _))); done) | go_keep)
              (first
              | (go_at_call 6; refine (alive_ok _).mono ?_; rintro e w5 ⟨rfl, hb5⟩; (try have HBA := Lib.hid (Below.then_ (show Below wa.heap.size wa _ from by (repeat (first | with_reducible exact HBA.out | with_reducible exact Below.refl _ _ | with_reducible refine Below.drew ?_ | (with_reducible refine Below.alloc ?_ (by first | (simp; done) | (have hq := HBA.out.size; simp at hq ⊢; omega)) _) | (with_reducible refine Below.setCell ?_ (by first | (simp; done) | (have hq := HBA.out.size; simp at hq ⊢; omega)) _)))) hb5)); (try have HBB := Lib.hid (Below.then_ (show Below wb.heap.size wb _ from by (repeat (first | with_reducible exact HBB.out | with_reducible exact Below.refl _ _ | with_reducible refine Below.drew ?_ | (with_reducible refine Below.alloc ?_ (by first | (simp; done) | (have hq := HBB.out.size; simp at hq ⊢; omega)) _) | (with_reducible refine Below.setCell ?_ (by first | (simp; done) | (have hq := HBB.out.size; simp at hq ⊢; omega)) _)))) hb5)); have HBW := Lib.hid (Below.then_ (show Below w11.heap.size w11 _ from by (repeat (first | with_reducible exact HBW.out | with_reducible exact Below.refl _ _ | with_reducible refine Below.drew ?_ | (with_reducible refine Below.alloc ?_ (by first | (simp; done) | (have hq := HBW.out.size; simp at hq ⊢; omega)) _) | (with_reducible refine Below.setCell ?_ (by first | (simp; done) | (have hq := HBW.out.size; simp at hq ⊢; omega)) _)))) hb5); clear hb5)
              | (go_at_call_of 11 mb; refine (cAll_ok (HM11.out.up (show Below w11.heap.size w11 _ from by (repeat (first | with_reducible exact HBW.out | with_reducible exact Below.refl _ _ | with_reducible refine Below.drew ?_ | (with_reducible refine Below.alloc ?_ (by first | (simp; done) | (have hq := HBW.out.size; simp at hq ⊢; omega)) _) | (with_reducible refine Below.setCell ?_ (by first | (simp; done) | (have hq := HBW.out.size; simp at hq ⊢; omega)) _))))) x hx0 hx1 R HRR).mono ?_; rintro e wa ⟨v5, rfl, ho5, hb5⟩; rw [HN.out] at ho5; obtain ⟨Da, da, rfl, _, _, hra⟩ := own_form ho5; have HRa := Lib.hid hra; have HBA := Lib.hid (Below.refl wa.heap.size wa); (try have HBB := Lib.hid (Below.then_ (show Below wb.heap.size wb _ from by (repeat (first | with_reducible exact HBB.out | with_reducible exact Below.refl _ _ | with_reducible refine Below.drew ?_ | (with_reducible refine Below.alloc ?_ (by first | (simp; done) | (have hq := HBB.out.size; simp at hq ⊢; omega)) _) | (with_reducible refine Below.setCell ?_ (by first | (simp; done) | (have hq := HBB.out.size; simp at hq ⊢; omega)) _)))) hb5)); have HBW := Lib.hid (Below.then_ (show Below w11.heap.size w11 _ from by (repeat (first | with_reducible exact HBW.out | with_reducible exact Below.refl _ _ | with_reducible refine Below.drew ?_ | (with_reducible refine Below.alloc ?_ (by first | (simp; done) | (have hq := HBW.out.size; simp at hq ⊢; omega)) _) | (with_reducible refine Below.setCell ?_ (by first | (simp; done) | (have hq := HBW.out.size; simp at hq ⊢; omega)) _)))) hb5); clear hb5 ho5 hra)
              | (go_at_call 15; refine (rAll_ok c _ _ _ _ _ _ _ _ _ _ _ (HS11.out.up (show Below w11.heap.size w11 _ from by (repeat (first | with_reducible exact HBW.out | with_reducible exact Below.refl _ _ | with_reducible refine Below.drew ?_ | (with_reducible refine Below.alloc ?_ (by first | (simp; done) | (have hq := HBW.out.size; simp at hq ⊢; omega)) _) | (with_reducible refine Below.setCell ?_ (by first | (simp; done) | (have hq := HBW.out.size; simp at hq ⊢; omega)) _))))).R hs HOK.out HSP.out x R HRR).mono ?_; rintro e wb ⟨v5, rfl, ho5, hb5⟩; rw [HN.out] at ho5; obtain ⟨Db, db, rfl, _, _, hrb⟩ := own_form ho5; have HRb := Lib.hid hrb; have HBB := Lib.hid (Below.refl wb.heap.size wb); (try have HBA := Lib.hid (Below.then_ (show Below wa.heap.size wa _ from by (repeat (first | with_reducible exact HBA.out | with_reducible exact Below.refl _ _ | with_reducible refine Below.drew ?_ | (with_reducible refine Below.alloc ?_ (by first | (simp; done) | (have hq := HBA.out.size; simp at hq ⊢; omega)) _) | (with_reducible refine Below.setCell ?_ (by first | (simp; done) | (have hq := HBA.out.size; simp at hq ⊢; omega)) _)))) hb5)); have HBW := Lib.hid (Below.then_ (show Below w11.heap.size w11 _ from by (repeat (first | with_reducible exact HBW.out | with_reducible exact Below.refl _ _ | with_reducible refine Below.drew ?_ | (with_reducible refine Below.alloc ?_ (by first | (simp; done) | (have hq := HBW.out.size; simp at hq ⊢; omega)) _) | (with_reducible refine Below.setCell ?_ (by first | (simp; done) | (have hq := HBW.out.size; simp at hq ⊢; omega)) _)))) hb5); clear hb5 ho5 hrb)
              | (go_at_call 16; refine (zLen_ok _).mono ?_; rintro e w5 ⟨rfl, hb5⟩; (try have HBA := Lib.hid (Below.then_ (show Below wa.heap.size wa _ from by (repeat (first | with_reducible exact HBA.out | with_reducible exact Below.refl _ _ | with_reducible refine Below.drew ?_ | (with_reducible refine Below.alloc ?_ (by first | (simp; done) | (have hq := HBA.out.size; simp at hq ⊢; omega)) _) | (with_reducible refine Below.setCell ?_ (by first | (simp; done) | (have hq := HBA.out.size; simp at hq ⊢; omega)) _)))) hb5)); (try have HBB := Lib.hid (Below.then_ (show Below wb.heap.size wb _ from by (repeat (first | with_reducible exact HBB.out | with_reducible exact Below.refl _ _ | with_reducible refine Below.drew ?_ | (with_reducible refine Below.alloc ?_ (by first | (simp; done) | (have hq := HBB.out.size; simp at hq ⊢; omega)) _) | (with_reducible refine Below.setCell ?_ (by first | (simp; done) | (have hq := HBB.out.size; simp at hq ⊢; omega)) _)))) hb5)); have HBW := Lib.hid (Below.then_ (show Below w11.heap.size w11 _ from by (repeat (first | with_reducible exact HBW.out | with_reducible exact Below.refl _ _ | with_reducible refine Below.drew ?_ | (with_reducible refine Below.alloc ?_ (by first | (simp; done) | (have hq := HBW.out.size; simp at hq ⊢; omega)) _) | (with_reducible refine Below.setCell ?_ (by first | (simp; done) | (have hq := HBW.out.size; simp at hq ⊢; omega)) _)))) hb5); clear hb5)
              | (go_at_call 17; refine (zAccess_ok 1 x 0 _).mono ?_; rintro e w5 ⟨rfl, hb5⟩; (try have HBA := Lib.hid (Below.then_ (show Below wa.heap.size wa _ from by (repeat (first | with_reducible exact HBA.out | with_reducible exact Below.refl _ _ | with_reducible refine Below.drew ?_ | (with_reducible refine Below.alloc ?_ (by first | (simp; done) | (have hq := HBA.out.size; simp at hq ⊢; omega)) _) | (with_reducible refine Below.setCell ?_ (by first | (simp; done) | (have hq := HBA.out.size; simp at hq ⊢; omega)) _)))) hb5)); (try have HBB := Lib.hid (Below.then_ (show Below wb.heap.size wb _ from by (repeat (first | with_reducible exact HBB.out | with_reducible exact Below.refl _ _ | with_reducible refine Below.drew ?_ | (with_reducible refine Below.alloc ?_ (by first | (simp; done) | (have hq := HBB.out.size; simp at hq ⊢; omega)) _) | (with_reducible refine Below.setCell ?_ (by first | (simp; done) | (have hq := HBB.out.size; simp at hq ⊢; omega)) _)))) hb5)); have HBW := Lib.hid (Below.then_ (show Below w11.heap.size w11 _ from by (repeat (first | with_reducible exact HBW.out | with_reducible exact Below.refl _ _ | with_reducible refine Below.drew ?_ | (with_reducible refine Below.alloc ?_ (by first | (simp; done) | (have hq := HBW.out.size; simp at hq ⊢; omega)) _) | (with_reducible refine Below.setCell ?_ (by first | (simp; done) | (have hq := HBW.out.size; simp at hq ⊢; omega)) _)))) hb5); clear hb5)
              | (go_at_call_of 11 (Value.pointer none); refine (mAll_nil x _).mono ?_; rintro e w5 ⟨rfl, hb5⟩; (try have HBA := Lib.hid (Below.then_ (show Below wa.heap.size wa _ from by (repeat (first | with_reducible exact HBA.out | with_reducible exact Below.refl _ _ | with_reducible refine Below.drew ?_ | (with_reducible refine Below.alloc ?_ (by first | (simp; done) | (have hq := HBA.out.size; simp at hq ⊢; omega)) _) | (with_reducible refine Below.setCell ?_ (by first | (simp; done) | (have hq := HBA.out.size; simp at hq ⊢; omega)) _)))) hb5)); (try have HBB := Lib.hid (Below.then_ (show Below wb.heap.size wb _ from by (repeat (first | with_reducible exact HBB.out | with_reducible exact Below.refl _ _ | with_reducible refine Below.drew ?_ | (with_reducible refine Below.alloc ?_ (by first | (simp; done) | (have hq := HBB.out.size; simp at hq ⊢; omega)) _) | (with_reducible refine Below.setCell ?_ (by first | (simp; done) | (have hq := HBB.out.size; simp at hq ⊢; omega)) _)))) hb5)); have HBW := Lib.hid (Below.then_ (show Below w11.heap.size w11 _ from by (repeat (first | with_reducible exact HBW.out | with_reducible exact Below.refl _ _ | with_reducible refine Below.drew ?_ | (with_reducible refine Below.alloc ?_ (by first | (simp; done) | (have hq := HBW.out.size; simp at hq ⊢; omega)) _) | (with_reducible refine Below.setCell ?_ (by first | (simp; done) | (have hq := HBW.out.size; simp at hq ⊢; omega)) _)))) hb5); clear hb5)
              | (go_at_call 14; refine (eqReg_z R _ HN Da Db da db _ hrl (HRa.out.up (show Below wa.heap.size wa _ from by (repeat (first | with_reducible exact HBA.out | with_reducible exact Below.refl _ _ | with_reducible refine Below.drew ?_ | (with_reducible refine Below.alloc ?_ (by first | (simp; done) | (have hq := HBA.out.size; simp at hq ⊢; omega)) _) | (with_reducible refine Below.setCell ?_ (by first | (simp; done) | (have hq := HBA.out.size; simp at hq ⊢; omega)) _))))) (HRb.out.up (show Below wb.heap.size wb _ from by (repeat (first | with_reducible exact HBB.out | with_reducible exact Below.refl _ _ | with_reducible refine Below.drew ?_ | (with_reducible refine Below.alloc ?_ (by first | (simp; done) | (have hq := HBB.out.size; simp at hq ⊢; omega)) _) | (with_reducible refine Below.setCell ?_ (by first | (simp; done) | (have hq := HBB.out.size; simp at hq ⊢; omega)) _)))))).mono ?_; rintro e w5 ⟨rfl, hb5⟩; (try have HBA := Lib.hid (Below.then_ (show Below wa.heap.size wa _ from by (repeat (first | with_reducible exact HBA.out | with_reducible exact Below.refl _ _ | with_reducible refine Below.drew ?_ | (with_reducible refine Below.alloc ?_ (by first | (simp; done) | (have hq := HBA.out.size; simp at hq ⊢; omega)) _) | (with_reducible refine Below.setCell ?_ (by first | (simp; done) | (have hq := HBA.out.size; simp at hq ⊢; omega)) _)))) hb5)); (try have HBB := Lib.hid (Below.then_ (show Below wb.heap.size wb _ from by (repeat (first | with_reducible exact HBB.out | with_reducible exact Below.refl _ _ | with_reducible refine Below.drew ?_ | (with_reducible refine Below.alloc ?_ (by first | (simp; done) | (have hq := HBB.out.size; simp at hq ⊢; omega)) _) | (with_reducible refine Below.setCell ?_ (by first | (simp; done) | (have hq := HBB.out.size; simp at hq ⊢; omega)) _)))) hb5)); have HBW := Lib.hid (Below.then_ (show Below w11.heap.size w11 _ from by (repeat (first | with_reducible exact HBW.out | with_reducible exact Below.refl _ _ | with_reducible refine Below.drew ?_ | (with_reducible refine Below.alloc ?_ (by first | (simp; done) | (have hq := HBW.out.size; simp at hq ⊢; omega)) _) | (with_reducible refine Below.setCell ?_ (by first | (simp; done) | (have hq := HBW.out.size; simp at hq ⊢; omega)) _)))) hb5); clear hb5))
            all_goals
              have HZ := Lib.hid (HS11.out.up HBW.out).bel
              clear x0 x1 x2 x3 x4 x5 hz HBW HKP
              go_wp2
              go_ret
              exact ⟨rfl, HZ.out⟩
  · have H1 := Lib.hid h1
    clear h1
    go_enter Tryz.func4, Tryz.ntmps4
    go_upto_region 1 with (fail)
    rw [HW.out]
    go_wp2_with fail
    refine (goodO_ok c _ _ _ _ _ _ _ _ _ _ _ ST0.out.R hs HOK.out false H1).mono ?_
    rintro e w1 ⟨rfl, hb1⟩
    have ST1 := Lib.hid (ST0.out.up hb1)
    clear hb1 x0 x1 x2 x3 x4 x5 hz
    go_wp2_with fail
    refine (alive_ok w1).mono ?_
    rintro e w2 ⟨rfl, hb2⟩
    have HZ := Lib.hid (ST1.out.up hb2).bel
    clear hb2
    go_wp2
    go_ret
    exact ⟨rfl, HZ.out⟩
end Go.Proofs.YtdmgpdanlfmadaaGreat
