/-
  ValidChecks of layer 19, walked.
-/
import Derived.Test.YtpedlbjbbcbbkaaGreatAlive19
namespace Go.Proofs.YtpedlbjbbcbbkaaGreat
open Go.RowKit
set_option maxRecDepth 100000 in
set_option maxHeartbeats 8000000 in
theorem validChecks_ok (c : Cfg) (A1 A2 A3 A4 A5 : Option Addr) (c1 c2 c3 c4 c5 : Nat) (w : World) (hR : CfgR w w.heap.size c A1 A2 A3 A4 A5 c1 c2 c3 c4 c5) (hs : c.small) (hok : c.ok) : Calls Tryz.prog 3 #[cfgV c.frame A1 A2 A3 A4 A5 c.parts.length c.wins.length c.regs.length c.ports.length c.chans.length c1 c2 c3 c4 c5] w fun e w' => e = .returned (.bool true) ∧ Below w.heap.size w w' := by
  obtain ⟨W0, hW, st⟩ := St.start_any hR 29
  have HW := Lib.hid hW
  have ST0 := Lib.hid st
  have HOK := Lib.hid hok
  obtain ⟨x0, x1, x2, x3, x4, x5, hz⟩ := st.cells
  clear hR hW st hok
  rcases bool_cases (few19 c) with h1 | h1
  rotate_left
  · have H1 := Lib.hid h1
    clear h1
    go_enter Tryz.func3, Tryz.ntmps3
    go_upto_region 1 with (fail)
    rw [HW.out]
    go_wp2_with fail
    refine (few19_ok c _ _ _ _ _ _ _ _ _ _ _ ST0.out.R hs HOK.out false H1).mono ?_
    rintro e w1 ⟨rfl, hb1⟩
    have HB1 := Lib.hid (ST0.out.up hb1).bel
    clear hb1 x0 x1 x2 x3 x4 x5 hz
    go_wp2_with fail
    refine (alive_ok _).mono ?_
    rintro e w2 ⟨rfl, hb2⟩
    have HZ := Lib.hid (Below.then_ HB1.out hb2)
    clear hb2
    go_wp2
    go_ret
    exact ⟨rfl, HZ.out⟩
  · have H1 := Lib.hid h1
    clear h1
    obtain ⟨n, hn⟩ : ∃ n, (fltsOf c).length = n := ⟨_, rfl⟩
    have HN := Lib.hid hn
    obtain ⟨v, hv⟩ : ∃ v, chkV c = v := ⟨_, rfl⟩
    have HV := Lib.hid hv
    have n3 : n ≤ 9 := by have := fltsK_len c 9; have e : fltsK c 9 = fltsOf c := rfl; rw [e] at this; omega
    obtain ⟨b, hb⟩ : ∃ b, vldB c = b := ⟨_, rfl⟩
    have HBV := Lib.hid hb
    have hnn : ((n : Int) == 0) = b := by
      rw [← hb, vldB_nil, hn, Bool.eq_iff_iff, beq_iff_eq, decide_eq_true_iff]; omega
    clear hn hv hb
    go_enter Tryz.func3, Tryz.ntmps3
    go_upto_region 1 with (fail)
    rw [HW.out]
    go_wp2_with fail
    refine (few19_ok c _ _ _ _ _ _ _ _ _ _ _ ST0.out.R hs HOK.out true H1).mono ?_
    rintro e w1 ⟨rfl, hb1⟩
    have ST1 := Lib.hid (ST0.out.up hb1)
    clear hb1 x0 x1 x2 x3 x4 x5 hz
    obtain ⟨x0, x1, x2, x3, x4, x5, hz⟩ := ST1.out.cells
    go_wp2_with fail
    refine (rAll_ok c _ _ _ _ _ _ _ _ _ _ _ ST1.out.R hs HOK.out).mono ?_
    rintro e w2 ⟨v0, rfl, ho, hb2⟩
    obtain ⟨RA, rc, rfl, _, _, hrd⟩ := own_form ho
    rw [HN.out] at hrd ⊢
    have HRD := Lib.hid hrd
    have ST2 := Lib.hid (ST1.out.up hb2)
    clear ho hrd hb2 x0 x1 x2 x3 x4 x5 hz
    go_upto_region 4 with (fail)
    cases b
    · refine wp_region_H 10 22 2 _ rfl rfl rfl (by decide) (by kernel_rfl) (by kernel_rfl) (by kernel_rfl) (Nat.le_of_ble_eq_true (by kernel_rfl))
        [.bool true, .bool true, cfgV c.frame A1 A2 A3 A4 A5 c.parts.length c.wins.length c.regs.length c.ports.length c.chans.length c1 c2 c3 c4 c5, undef, .slice RA n rc, .bool true, .bool true, .bool true, cfgV c.frame A1 A2 A3 A4 A5 c.parts.length c.wins.length c.regs.length c.ports.length c.chans.length c1 c2 c3 c4 c5, fltV v, cfgV c.frame A1 A2 A3 A4 A5 c.parts.length c.wins.length c.regs.length c.ports.length c.chans.length c1 c2 c3 c4 c5, fltV v, .bool true, .bool true, .bool true, cfgV c.frame A1 A2 A3 A4 A5 c.parts.length c.wins.length c.regs.length c.ports.length c.chans.length c1 c2 c3 c4 c5, .bool false, .slice RA n rc, .int .i64 n, .bool false, .bool true, .bool true, .bool true]
        (fun i => i == 3) (by kernel_rfl) (fun _ v U => ∃ A a, v = .slice A n a ∧ Rd U U.heap.size 3 A n ((fltsOf c).flatMap FltC)) (fun U => Below w2.heap.size w2 U)
        ((Below.refl _ _).drew) (fun U V hU hb => Below.then_ hU hb) (fun _ v U V _ ⟨A, a, h1, h2⟩ hb => ⟨A, a, h1, h2.up hb⟩) ?hun ?hop ?hend
      case hun =>
        intro i o ho
        match i, ho with
        | 0, ho => cases ho; intro h; first | exact ⟨rfl, rfl⟩ | cases h
        | 1, ho => cases ho; intro h; first | exact ⟨rfl, rfl⟩ | cases h
        | 2, ho => cases ho; intro h; first | exact ⟨rfl, rfl⟩ | cases h
        | 3, ho => cases ho; intro h; first | exact ⟨rfl, rfl⟩ | cases h
        | 4, ho => cases ho; intro h; first | exact ⟨rfl, rfl⟩ | cases h
        | 5, ho => cases ho; intro h; first | exact ⟨rfl, rfl⟩ | cases h
        | 6, ho => cases ho; intro h; first | exact ⟨rfl, rfl⟩ | cases h
        | 7, ho => cases ho; intro h; first | exact ⟨rfl, rfl⟩ | cases h
        | 8, ho => cases ho; intro h; first | exact ⟨rfl, rfl⟩ | cases h
        | 9, ho => cases ho; intro h; first | exact ⟨rfl, rfl⟩ | cases h
        | 10, ho => cases ho; intro h; first | exact ⟨rfl, rfl⟩ | cases h
        | 11, ho => cases ho; intro h; first | exact ⟨rfl, rfl⟩ | cases h
        | 12, ho => cases ho; intro h; first | exact ⟨rfl, rfl⟩ | cases h
        | 13, ho => cases ho; intro h; first | exact ⟨rfl, rfl⟩ | cases h
        | 14, ho => cases ho; intro h; first | exact ⟨rfl, rfl⟩ | cases h
        | 15, ho => cases ho; intro h; first | exact ⟨rfl, rfl⟩ | cases h
        | 16, ho => cases ho; intro h; first | exact ⟨rfl, rfl⟩ | cases h
        | 17, ho => cases ho; intro h; first | exact ⟨rfl, rfl⟩ | cases h
        | 18, ho => cases ho; intro h; first | exact ⟨rfl, rfl⟩ | cases h
        | 19, ho => cases ho; intro h; first | exact ⟨rfl, rfl⟩ | cases h
        | 20, ho => cases ho; intro h; first | exact ⟨rfl, rfl⟩ | cases h
        | 21, ho => cases ho; intro h; first | exact ⟨rfl, rfl⟩ | cases h
        | 22, ho => cases ho; intro h; first | exact ⟨rfl, rfl⟩ | cases h
        | k + 23, ho => exact absurd ho (by simp)
      case hop =>
        intro i o ho hw U hE ρ r0 rf r1 r2
        obtain ⟨x0, x1, x2, x3, x4, x5, hz⟩ := (ST2.out.up hE).cells
        match i, ho with
        | 0, ho =>
          cases ho
          refine RunsTo.call (V := U) 10 #[] ?_ ?_
          · simp only [execOp]
            go_simp
          · refine (alive_ok U).mono ?_
            rintro e V ⟨rfl, hb⟩
            exact ⟨_, rfl, hb, SC.ofV rfl⟩
        | 1, ho =>
          cases ho
          have q10 : ρ (.tmp 10) = _ := (r2 { on := 0, ground := .data } (by simp) rfl).val rfl
          refine RunsTo.val _ (V := U) ?_ ⟨Below.refl _ _, SC.ofV rfl⟩
          simp only [execOp]
          go_simp
        | 2, ho =>
          cases ho
          have q1 := r1 1 (by decide) (by decide)
          refine RunsTo.val _ (V := U) ?_ ⟨Below.refl _ _, SC.ofV rfl⟩
          simp only [execOp]
          go_simp
        | 3, ho =>
          cases ho
          have q12 : ρ (.tmp 12) = _ := (r2 { on := 2, ground := .data } (by simp) rfl).val rfl
          refine RunsTo.call (V := U) 13 #[cfgV c.frame A1 A2 A3 A4 A5 c.parts.length c.wins.length c.regs.length c.ports.length c.chans.length c1 c2 c3 c4 c5] ?_ ?_
          · simp only [execOp]
            go_simp
          · refine (vAll_ok c _ _ _ _ _ _ _ _ _ _ _ (ST2.out.up hE).R hs HOK.out).mono ?_
            rintro e V ⟨v, rfl, ho, hb⟩
            obtain ⟨RB, rd, rfl, _, _, hrd⟩ := own_form ho
            rw [HN.out] at hrd ⊢
            exact ⟨_, rfl, hb, SC.ofP rfl ⟨RB, rd, rfl, hrd⟩⟩
        | 4, ho =>
          cases ho
          have q3 := r1 3 (by decide) (by decide)
          refine RunsTo.val _ (V := U) ?_ ⟨Below.refl _ _, SC.ofV rfl⟩
          simp only [execOp]
          go_simp
        | 5, ho =>
          cases ho
          have q13 := (r2 { on := 3, ground := .data } (by simp) rfl).got rfl
          have q14 : ρ (.tmp 14) = _ := (r2 { on := 4, ground := .data } (by simp) rfl).val rfl
          obtain ⟨A, a, h13, hA⟩ := q13
          have h13 : ρ (.tmp 13) = .slice A n a := h13
          have hq := eqFlt_same (fltsOf c) A RA a rc U (by rw [HN.out]; omega) (by rw [HN.out]; exact hA) (by rw [HN.out]; exact HRD.out.up hE)
          rw [HN.out] at hq
          refine RunsTo.call (V := U) 12 #[.slice A n a, .slice RA n rc] ?_ ?_
          · simp only [execOp]
            go_simp
          · refine hq.mono ?_
            rintro e V ⟨rfl, hb⟩
            exact ⟨_, rfl, hb, SC.ofV rfl⟩
        | 6, ho =>
          cases ho
          have q11 : ρ (.tmp 11) = _ := (r2 { on := 1, ground := .data } (by simp) rfl).val rfl
          have q15 : ρ (.tmp 15) = _ := (r2 { on := 5, ground := .data } (by simp) rfl).val rfl
          refine RunsTo.val _ (V := U) ?_ ⟨Below.refl _ _, SC.ofV rfl⟩
          simp only [execOp]
          go_simp
        | 7, ho =>
          cases ho
          have q16 : ρ (.tmp 16) = _ := (r2 { on := 6, ground := .data } (by simp) rfl).val rfl
          refine RunsTo.val _ (V := U) ?_ ⟨Below.refl _ _, SC.ofV rfl⟩
          simp only [execOp]
          go_simp
        | 8, ho =>
          cases ho
          have q1 := r1 1 (by decide) (by decide)
          refine RunsTo.val _ (V := U) ?_ ⟨Below.refl _ _, SC.ofV rfl⟩
          simp only [execOp]
          go_simp
        | 9, ho =>
          cases ho
          have q18 : ρ (.tmp 18) = _ := (r2 { on := 8, ground := .data } (by simp) rfl).val rfl
          refine RunsTo.call (V := U) 14 #[cfgV c.frame A1 A2 A3 A4 A5 c.parts.length c.wins.length c.regs.length c.ports.length c.chans.length c1 c2 c3 c4 c5] ?_ ?_
          · simp only [execOp]
            go_simp
          · refine (vCheck_ok c _ _ _ _ _ _ _ _ _ _ _ (ST2.out.up hE).R hs HOK.out v HV).mono ?_
            rintro e V ⟨rfl, hb⟩
            exact ⟨_, rfl, hb, SC.ofV rfl⟩
        | 10, ho =>
          cases ho
          have q1 := r1 1 (by decide) (by decide)
          refine RunsTo.val _ (V := U) ?_ ⟨Below.refl _ _, SC.ofV rfl⟩
          simp only [execOp]
          go_simp
        | 11, ho =>
          cases ho
          have q20 : ρ (.tmp 20) = _ := (r2 { on := 10, ground := .data } (by simp) rfl).val rfl
          refine RunsTo.call (V := U) 15 #[cfgV c.frame A1 A2 A3 A4 A5 c.parts.length c.wins.length c.regs.length c.ports.length c.chans.length c1 c2 c3 c4 c5] ?_ ?_
          · simp only [execOp]
            go_simp
          · refine (rCheck19_ok c _ _ _ _ _ _ _ _ _ _ _ (ST2.out.up hE).R hs HOK.out v HV).mono ?_
            rintro e V ⟨rfl, hb⟩
            exact ⟨_, rfl, hb, SC.ofV rfl⟩
        | 12, ho =>
          cases ho
          have q19 : ρ (.tmp 19) = _ := (r2 { on := 9, ground := .data } (by simp) rfl).val rfl
          have q21 : ρ (.tmp 21) = _ := (r2 { on := 11, ground := .data } (by simp) rfl).val rfl
          refine RunsTo.val _ (V := U) ?_ ⟨Below.refl _ _, SC.ofV rfl⟩
          simp only [execOp]
          go_simp
        | 13, ho =>
          cases ho
          have q17 : ρ (.tmp 17) = _ := (r2 { on := 7, ground := .data } (by simp) rfl).val rfl
          have q22 : ρ (.tmp 22) = _ := (r2 { on := 12, ground := .data } (by simp) rfl).val rfl
          refine RunsTo.val _ (V := U) ?_ ⟨Below.refl _ _, SC.ofV rfl⟩
          simp only [execOp]
          go_simp
        | 14, ho =>
          cases ho
          have q23 : ρ (.tmp 23) = _ := (r2 { on := 13, ground := .data } (by simp) rfl).val rfl
          refine RunsTo.val _ (V := U) ?_ ⟨Below.refl _ _, SC.ofV rfl⟩
          simp only [execOp]
          go_simp
        | 15, ho =>
          cases ho
          have q1 := r1 1 (by decide) (by decide)
          refine RunsTo.val _ (V := U) ?_ ⟨Below.refl _ _, SC.ofV rfl⟩
          simp only [execOp]
          go_simp
        | 16, ho =>
          cases ho
          have q25 : ρ (.tmp 25) = _ := (r2 { on := 15, ground := .data } (by simp) rfl).val rfl
          refine RunsTo.call (V := U) 16 #[cfgV c.frame A1 A2 A3 A4 A5 c.parts.length c.wins.length c.regs.length c.ports.length c.chans.length c1 c2 c3 c4 c5] ?_ ?_
          · simp only [execOp]
            go_simp
          · refine (vValid_ok c _ _ _ _ _ _ _ _ _ _ _ (ST2.out.up hE).R hs HOK.out false HBV).mono ?_
            rintro e V ⟨rfl, hb⟩
            exact ⟨_, rfl, hb, SC.ofV rfl⟩
        | 17, ho =>
          cases ho
          have q3 := r1 3 (by decide) (by decide)
          refine RunsTo.val _ (V := U) ?_ ⟨Below.refl _ _, SC.ofV rfl⟩
          simp only [execOp]
          go_simp
        | 18, ho =>
          cases ho
          have q27 : ρ (.tmp 27) = _ := (r2 { on := 17, ground := .data } (by simp) rfl).val rfl
          refine RunsTo.val _ (V := U) ?_ ⟨Below.refl _ _, SC.ofV rfl⟩
          simp only [execOp]
          go_simp
        | 19, ho =>
          cases ho
          have q28 : ρ (.tmp 28) = _ := (r2 { on := 18, ground := .data } (by simp) rfl).val rfl
          refine RunsTo.val _ (V := U) ?_ ⟨Below.refl _ _, SC.ofV rfl⟩
          simp only [execOp]
          go_simp
        | 20, ho =>
          cases ho
          have q26 : ρ (.tmp 26) = _ := (r2 { on := 16, ground := .data } (by simp) rfl).val rfl
          have q29 : ρ (.tmp 29) = _ := (r2 { on := 19, ground := .data } (by simp) rfl).val rfl
          refine RunsTo.val _ (V := U) ?_ ⟨Below.refl _ _, SC.ofV rfl⟩
          simp only [execOp]
          go_simp
        | 21, ho =>
          cases ho
          have q24 : ρ (.tmp 24) = _ := (r2 { on := 14, ground := .data } (by simp) rfl).val rfl
          have q30 : ρ (.tmp 30) = _ := (r2 { on := 20, ground := .data } (by simp) rfl).val rfl
          refine RunsTo.val _ (V := U) ?_ ⟨Below.refl _ _, SC.ofV rfl⟩
          simp only [execOp]
          go_simp
        | 22, ho =>
          cases ho
          have q31 : ρ (.tmp 31) = _ := (r2 { on := 21, ground := .data } (by simp) rfl).val rfl
          refine RunsTo.val _ (V := U) ?_ ⟨Below.refl _ _, SC.ofV rfl⟩
          simp only [execOp]
          go_simp
        | k + 23, ho => exact absurd ho (by simp)
      case hend =>
        intro u U hE hS
        have e := (hS 22 (by decide)).val rfl
        clear hS
        simp only [mkL, mkAt, List.take_succ_cons, List.take_zero, List.drop_succ_cons, List.drop_nil, List.range, List.range.loop, List.map_cons, List.map_nil, List.cons_append, List.nil_append, List.append_nil, List.setIfInBounds_toArray, List.set_cons_succ, List.set_cons_zero, e]
        have HZ := Lib.hid (ST2.out.up hE).bel
        clear hE e
        go_wp2
        go_ret
        exact ⟨rfl, HZ.out⟩
    · refine wp_region_H 10 22 2 _ rfl rfl rfl (by decide) (by kernel_rfl) (by kernel_rfl) (by kernel_rfl) (Nat.le_of_ble_eq_true (by kernel_rfl))
        [.bool true, .bool true, cfgV c.frame A1 A2 A3 A4 A5 c.parts.length c.wins.length c.regs.length c.ports.length c.chans.length c1 c2 c3 c4 c5, undef, .slice RA n rc, .bool true, .bool true, .bool true, cfgV c.frame A1 A2 A3 A4 A5 c.parts.length c.wins.length c.regs.length c.ports.length c.chans.length c1 c2 c3 c4 c5, fltV v, cfgV c.frame A1 A2 A3 A4 A5 c.parts.length c.wins.length c.regs.length c.ports.length c.chans.length c1 c2 c3 c4 c5, fltV v, .bool true, .bool true, .bool true, cfgV c.frame A1 A2 A3 A4 A5 c.parts.length c.wins.length c.regs.length c.ports.length c.chans.length c1 c2 c3 c4 c5, .bool true, .slice RA n rc, .int .i64 n, .bool true, .bool true, .bool true, .bool true]
        (fun i => i == 3) (by kernel_rfl) (fun _ v U => ∃ A a, v = .slice A n a ∧ Rd U U.heap.size 3 A n ((fltsOf c).flatMap FltC)) (fun U => Below w2.heap.size w2 U)
        ((Below.refl _ _).drew) (fun U V hU hb => Below.then_ hU hb) (fun _ v U V _ ⟨A, a, h1, h2⟩ hb => ⟨A, a, h1, h2.up hb⟩) ?hun ?hop ?hend
      case hun =>
        intro i o ho
        match i, ho with
        | 0, ho => cases ho; intro h; first | exact ⟨rfl, rfl⟩ | cases h
        | 1, ho => cases ho; intro h; first | exact ⟨rfl, rfl⟩ | cases h
        | 2, ho => cases ho; intro h; first | exact ⟨rfl, rfl⟩ | cases h
        | 3, ho => cases ho; intro h; first | exact ⟨rfl, rfl⟩ | cases h
        | 4, ho => cases ho; intro h; first | exact ⟨rfl, rfl⟩ | cases h
        | 5, ho => cases ho; intro h; first | exact ⟨rfl, rfl⟩ | cases h
        | 6, ho => cases ho; intro h; first | exact ⟨rfl, rfl⟩ | cases h
        | 7, ho => cases ho; intro h; first | exact ⟨rfl, rfl⟩ | cases h
        | 8, ho => cases ho; intro h; first | exact ⟨rfl, rfl⟩ | cases h
        | 9, ho => cases ho; intro h; first | exact ⟨rfl, rfl⟩ | cases h
        | 10, ho => cases ho; intro h; first | exact ⟨rfl, rfl⟩ | cases h
        | 11, ho => cases ho; intro h; first | exact ⟨rfl, rfl⟩ | cases h
        | 12, ho => cases ho; intro h; first | exact ⟨rfl, rfl⟩ | cases h
        | 13, ho => cases ho; intro h; first | exact ⟨rfl, rfl⟩ | cases h
        | 14, ho => cases ho; intro h; first | exact ⟨rfl, rfl⟩ | cases h
        | 15, ho => cases ho; intro h; first | exact ⟨rfl, rfl⟩ | cases h
        | 16, ho => cases ho; intro h; first | exact ⟨rfl, rfl⟩ | cases h
        | 17, ho => cases ho; intro h; first | exact ⟨rfl, rfl⟩ | cases h
        | 18, ho => cases ho; intro h; first | exact ⟨rfl, rfl⟩ | cases h
        | 19, ho => cases ho; intro h; first | exact ⟨rfl, rfl⟩ | cases h
        | 20, ho => cases ho; intro h; first | exact ⟨rfl, rfl⟩ | cases h
        | 21, ho => cases ho; intro h; first | exact ⟨rfl, rfl⟩ | cases h
        | 22, ho => cases ho; intro h; first | exact ⟨rfl, rfl⟩ | cases h
        | k + 23, ho => exact absurd ho (by simp)
      case hop =>
        intro i o ho hw U hE ρ r0 rf r1 r2
        obtain ⟨x0, x1, x2, x3, x4, x5, hz⟩ := (ST2.out.up hE).cells
        match i, ho with
        | 0, ho =>
          cases ho
          refine RunsTo.call (V := U) 10 #[] ?_ ?_
          · simp only [execOp]
            go_simp
          · refine (alive_ok U).mono ?_
            rintro e V ⟨rfl, hb⟩
            exact ⟨_, rfl, hb, SC.ofV rfl⟩
        | 1, ho =>
          cases ho
          have q10 : ρ (.tmp 10) = _ := (r2 { on := 0, ground := .data } (by simp) rfl).val rfl
          refine RunsTo.val _ (V := U) ?_ ⟨Below.refl _ _, SC.ofV rfl⟩
          simp only [execOp]
          go_simp
        | 2, ho =>
          cases ho
          have q1 := r1 1 (by decide) (by decide)
          refine RunsTo.val _ (V := U) ?_ ⟨Below.refl _ _, SC.ofV rfl⟩
          simp only [execOp]
          go_simp
        | 3, ho =>
          cases ho
          have q12 : ρ (.tmp 12) = _ := (r2 { on := 2, ground := .data } (by simp) rfl).val rfl
          refine RunsTo.call (V := U) 13 #[cfgV c.frame A1 A2 A3 A4 A5 c.parts.length c.wins.length c.regs.length c.ports.length c.chans.length c1 c2 c3 c4 c5] ?_ ?_
          · simp only [execOp]
            go_simp
          · refine (vAll_ok c _ _ _ _ _ _ _ _ _ _ _ (ST2.out.up hE).R hs HOK.out).mono ?_
            rintro e V ⟨v, rfl, ho, hb⟩
            obtain ⟨RB, rd, rfl, _, _, hrd⟩ := own_form ho
            rw [HN.out] at hrd ⊢
            exact ⟨_, rfl, hb, SC.ofP rfl ⟨RB, rd, rfl, hrd⟩⟩
        | 4, ho =>
          cases ho
          have q3 := r1 3 (by decide) (by decide)
          refine RunsTo.val _ (V := U) ?_ ⟨Below.refl _ _, SC.ofV rfl⟩
          simp only [execOp]
          go_simp
        | 5, ho =>
          cases ho
          have q13 := (r2 { on := 3, ground := .data } (by simp) rfl).got rfl
          have q14 : ρ (.tmp 14) = _ := (r2 { on := 4, ground := .data } (by simp) rfl).val rfl
          obtain ⟨A, a, h13, hA⟩ := q13
          have h13 : ρ (.tmp 13) = .slice A n a := h13
          have hq := eqFlt_same (fltsOf c) A RA a rc U (by rw [HN.out]; omega) (by rw [HN.out]; exact hA) (by rw [HN.out]; exact HRD.out.up hE)
          rw [HN.out] at hq
          refine RunsTo.call (V := U) 12 #[.slice A n a, .slice RA n rc] ?_ ?_
          · simp only [execOp]
            go_simp
          · refine hq.mono ?_
            rintro e V ⟨rfl, hb⟩
            exact ⟨_, rfl, hb, SC.ofV rfl⟩
        | 6, ho =>
          cases ho
          have q11 : ρ (.tmp 11) = _ := (r2 { on := 1, ground := .data } (by simp) rfl).val rfl
          have q15 : ρ (.tmp 15) = _ := (r2 { on := 5, ground := .data } (by simp) rfl).val rfl
          refine RunsTo.val _ (V := U) ?_ ⟨Below.refl _ _, SC.ofV rfl⟩
          simp only [execOp]
          go_simp
        | 7, ho =>
          cases ho
          have q16 : ρ (.tmp 16) = _ := (r2 { on := 6, ground := .data } (by simp) rfl).val rfl
          refine RunsTo.val _ (V := U) ?_ ⟨Below.refl _ _, SC.ofV rfl⟩
          simp only [execOp]
          go_simp
        | 8, ho =>
          cases ho
          have q1 := r1 1 (by decide) (by decide)
          refine RunsTo.val _ (V := U) ?_ ⟨Below.refl _ _, SC.ofV rfl⟩
          simp only [execOp]
          go_simp
        | 9, ho =>
          cases ho
          have q18 : ρ (.tmp 18) = _ := (r2 { on := 8, ground := .data } (by simp) rfl).val rfl
          refine RunsTo.call (V := U) 14 #[cfgV c.frame A1 A2 A3 A4 A5 c.parts.length c.wins.length c.regs.length c.ports.length c.chans.length c1 c2 c3 c4 c5] ?_ ?_
          · simp only [execOp]
            go_simp
          · refine (vCheck_ok c _ _ _ _ _ _ _ _ _ _ _ (ST2.out.up hE).R hs HOK.out v HV).mono ?_
            rintro e V ⟨rfl, hb⟩
            exact ⟨_, rfl, hb, SC.ofV rfl⟩
        | 10, ho =>
          cases ho
          have q1 := r1 1 (by decide) (by decide)
          refine RunsTo.val _ (V := U) ?_ ⟨Below.refl _ _, SC.ofV rfl⟩
          simp only [execOp]
          go_simp
        | 11, ho =>
          cases ho
          have q20 : ρ (.tmp 20) = _ := (r2 { on := 10, ground := .data } (by simp) rfl).val rfl
          refine RunsTo.call (V := U) 15 #[cfgV c.frame A1 A2 A3 A4 A5 c.parts.length c.wins.length c.regs.length c.ports.length c.chans.length c1 c2 c3 c4 c5] ?_ ?_
          · simp only [execOp]
            go_simp
          · refine (rCheck19_ok c _ _ _ _ _ _ _ _ _ _ _ (ST2.out.up hE).R hs HOK.out v HV).mono ?_
            rintro e V ⟨rfl, hb⟩
            exact ⟨_, rfl, hb, SC.ofV rfl⟩
        | 12, ho =>
          cases ho
          have q19 : ρ (.tmp 19) = _ := (r2 { on := 9, ground := .data } (by simp) rfl).val rfl
          have q21 : ρ (.tmp 21) = _ := (r2 { on := 11, ground := .data } (by simp) rfl).val rfl
          refine RunsTo.val _ (V := U) ?_ ⟨Below.refl _ _, SC.ofV rfl⟩
          simp only [execOp]
          go_simp
        | 13, ho =>
          cases ho
          have q17 : ρ (.tmp 17) = _ := (r2 { on := 7, ground := .data } (by simp) rfl).val rfl
          have q22 : ρ (.tmp 22) = _ := (r2 { on := 12, ground := .data } (by simp) rfl).val rfl
          refine RunsTo.val _ (V := U) ?_ ⟨Below.refl _ _, SC.ofV rfl⟩
          simp only [execOp]
          go_simp
        | 14, ho =>
          cases ho
          have q23 : ρ (.tmp 23) = _ := (r2 { on := 13, ground := .data } (by simp) rfl).val rfl
          refine RunsTo.val _ (V := U) ?_ ⟨Below.refl _ _, SC.ofV rfl⟩
          simp only [execOp]
          go_simp
        | 15, ho =>
          cases ho
          have q1 := r1 1 (by decide) (by decide)
          refine RunsTo.val _ (V := U) ?_ ⟨Below.refl _ _, SC.ofV rfl⟩
          simp only [execOp]
          go_simp
        | 16, ho =>
          cases ho
          have q25 : ρ (.tmp 25) = _ := (r2 { on := 15, ground := .data } (by simp) rfl).val rfl
          refine RunsTo.call (V := U) 16 #[cfgV c.frame A1 A2 A3 A4 A5 c.parts.length c.wins.length c.regs.length c.ports.length c.chans.length c1 c2 c3 c4 c5] ?_ ?_
          · simp only [execOp]
            go_simp
          · refine (vValid_ok c _ _ _ _ _ _ _ _ _ _ _ (ST2.out.up hE).R hs HOK.out true HBV).mono ?_
            rintro e V ⟨rfl, hb⟩
            exact ⟨_, rfl, hb, SC.ofV rfl⟩
        | 17, ho =>
          cases ho
          have q3 := r1 3 (by decide) (by decide)
          refine RunsTo.val _ (V := U) ?_ ⟨Below.refl _ _, SC.ofV rfl⟩
          simp only [execOp]
          go_simp
        | 18, ho =>
          cases ho
          have q27 : ρ (.tmp 27) = _ := (r2 { on := 17, ground := .data } (by simp) rfl).val rfl
          refine RunsTo.val _ (V := U) ?_ ⟨Below.refl _ _, SC.ofV rfl⟩
          simp only [execOp]
          go_simp
        | 19, ho =>
          cases ho
          have q28 : ρ (.tmp 28) = _ := (r2 { on := 18, ground := .data } (by simp) rfl).val rfl
          refine RunsTo.val _ (V := U) ?_ ⟨Below.refl _ _, SC.ofV rfl⟩
          simp only [execOp]
          go_simp
        | 20, ho =>
          cases ho
          have q26 : ρ (.tmp 26) = _ := (r2 { on := 16, ground := .data } (by simp) rfl).val rfl
          have q29 : ρ (.tmp 29) = _ := (r2 { on := 19, ground := .data } (by simp) rfl).val rfl
          refine RunsTo.val _ (V := U) ?_ ⟨Below.refl _ _, SC.ofV rfl⟩
          simp only [execOp]
          go_simp
        | 21, ho =>
          cases ho
          have q24 : ρ (.tmp 24) = _ := (r2 { on := 14, ground := .data } (by simp) rfl).val rfl
          have q30 : ρ (.tmp 30) = _ := (r2 { on := 20, ground := .data } (by simp) rfl).val rfl
          refine RunsTo.val _ (V := U) ?_ ⟨Below.refl _ _, SC.ofV rfl⟩
          simp only [execOp]
          go_simp
        | 22, ho =>
          cases ho
          have q31 : ρ (.tmp 31) = _ := (r2 { on := 21, ground := .data } (by simp) rfl).val rfl
          refine RunsTo.val _ (V := U) ?_ ⟨Below.refl _ _, SC.ofV rfl⟩
          simp only [execOp]
          go_simp
        | k + 23, ho => exact absurd ho (by simp)
      case hend =>
        intro u U hE hS
        have e := (hS 22 (by decide)).val rfl
        clear hS
        simp only [mkL, mkAt, List.take_succ_cons, List.take_zero, List.drop_succ_cons, List.drop_nil, List.range, List.range.loop, List.map_cons, List.map_nil, List.cons_append, List.nil_append, List.append_nil, List.setIfInBounds_toArray, List.set_cons_succ, List.set_cons_zero, e]
        have HZ := Lib.hid (ST2.out.up hE).bel
        clear hE e
        go_wp2
        go_ret
        exact ⟨rfl, HZ.out⟩
end Go.Proofs.YtpedlbjbbcbbkaaGreat
