/-
  ValidMore of layer 19, walked.
-/
import Derived.Test.YtpedlbjbbcbbkaaGreatAlive19
import Derived.Test.YtpedlbjbbcbbkaaGreatVshZ
import Derived.Test.YtpedlbjbbcbbkaaGreatMrgZ
namespace Go.Proofs.YtpedlbjbbcbbkaaGreat
open Go.RowKit Go.Lib
theorem catAll_dbl (c : Cfg) : catAll c.frame [c, c] = dblC c := by
  simp [catAll, Cfg.cat, dblC]
set_option maxRecDepth 100000 in
set_option maxHeartbeats 2000000 in
theorem mergeD_ok (c : Cfg) (A1 A2 A3 A4 A5 : Option Addr) (c1 c2 c3 c4 c5 : Nat) (w : World) (hR : CfgR w w.heap.size c A1 A2 A3 A4 A5 c1 c2 c3 c4 c5) (ht : c.total + c.total ≤ 4194304) (C : Cfg) (hC : Hid (dblC c = C)) (t : TypeId) (W : World) (hW : W = w.alloc (.cells #[.int .u64 c.frame, .slice A1 c.parts.length c1, .slice A2 c.wins.length c2, .slice A3 c.regs.length c3, .slice A4 c.ports.length c4, .slice A5 c.chans.length c5, .int .u64 c.frame, .slice A1 c.parts.length c1, .slice A2 c.wins.length c2, .slice A3 c.regs.length c3, .slice A4 c.ports.length c4, .slice A5 c.chans.length c5] t)) :
    Calls Tryz.prog 24 #[.int .u64 c.frame, .slice (some ⟨w.heap.size, 0, none⟩) 2 2] W fun e w' => ∃ (P1 P2 P3 P4 P5 : Option Addr) (p1 p2 p3 p4 p5 : Nat),
      e = .returned (cfgV C.frame P1 P2 P3 P4 P5 C.parts.length C.wins.length C.regs.length C.ports.length C.chans.length p1 p2 p3 p4 p5) ∧ CfgR w' w'.heap.size C P1 P2 P3 P4 P5 p1 p2 p3 p4 p5 ∧ Below W.heap.size W w' := by
  have hb : Below w.heap.size w W := by rw [hW]; exact below_one _ _
  have hk := Blk.new w t #[.int .u64 c.frame, .slice A1 c.parts.length c1, .slice A2 c.wins.length c2, .slice A3 c.regs.length c3, .slice A4 c.ports.length c4, .slice A5 c.chans.length c5, .int .u64 c.frame, .slice A1 c.parts.length c1, .slice A2 c.wins.length c2, .slice A3 c.regs.length c3, .slice A4 c.ports.length c4, .slice A5 c.chans.length c5]
  rw [← hW] at hk
  have h1 : RowsOf (CfgC W W.heap.size) [c, c] ([.int .u64 c.frame, .slice A1 c.parts.length c1, .slice A2 c.wins.length c2, .slice A3 c.regs.length c3, .slice A4 c.ports.length c4, .slice A5 c.chans.length c5] ++ [.int .u64 c.frame, .slice A1 c.parts.length c1, .slice A2 c.wins.length c2, .slice A3 c.regs.length c3, .slice A4 c.ports.length c4, .slice A5 c.chans.length c5]) := rows_app (rows_one ⟨A1, A2, A3, A4, A5, c1, c2, c3, c4, c5, rfl, hR.up hb⟩) (rows_one ⟨A1, A2, A3, A4, A5, c1, c2, c3, c4, c5, rfl, hR.up hb⟩)
  have h2 : Rd W W.heap.size 6 (some ⟨w.heap.size, 0, none⟩) 2 ([.int .u64 c.frame, .slice A1 c.parts.length c1, .slice A2 c.wins.length c2, .slice A3 c.regs.length c3, .slice A4 c.ports.length c4, .slice A5 c.chans.length c5] ++ [.int .u64 c.frame, .slice A1 c.parts.length c1, .slice A2 c.wins.length c2, .slice A3 c.regs.length c3, .slice A4 c.ports.length c4, .slice A5 c.chans.length c5]) := ⟨rfl, fun _ => ⟨_, _, rfl, hk.lt, fun j u hu => by rw [Nat.zero_add]; exact (hk.cell _).trans (by simpa using hu)⟩⟩
  refine (mergeC_ok c.frame [c, c] (some ⟨w.heap.size, 0, none⟩) 2 _ W h1 h2 (by simp) (by simpa [sumTot] using ht)).mono ?_
  rintro e w' ⟨P1, P2, P3, P4, P5, p1, p2, p3, p4, p5, he, ho, hb⟩
  rw [catAll_dbl, hC.out] at he ho
  have hF : c.frame = C.frame := by rw [← hC.out]; rfl
  exact ⟨P1, P2, P3, P4, P5, p1, p2, p3, p4, p5, by rw [he, hF], ho.toR, hb⟩
theorem few_tot19 {c : Cfg} (h : few19 c = true) : c.total ≤ 120 := by
  unfold few19 few at h
  simp only [Bool.and_eq_true, decide_eq_true_eq] at h
  exact h.1.2
set_option maxRecDepth 100000 in
set_option maxHeartbeats 16000000 in
theorem validMore_ok (c : Cfg) (A1 A2 A3 A4 A5 : Option Addr) (c1 c2 c3 c4 c5 : Nat) (w : World) (hR : CfgR w w.heap.size c A1 A2 A3 A4 A5 c1 c2 c3 c4 c5) (hs : c.small) (hok : c.ok) : Calls Tryz.prog 7 #[cfgV c.frame A1 A2 A3 A4 A5 c.parts.length c.wins.length c.regs.length c.ports.length c.chans.length c1 c2 c3 c4 c5] w fun e w' => e = .returned (.bool true) ∧ Below w.heap.size w w' := by
  obtain ⟨W0, hW, st⟩ := St.start_any hR 29
  have HW := Lib.hid hW
  have ST0 := Lib.hid st
  have HOK := Lib.hid hok
  have HSM := Lib.hid hs
  obtain ⟨x0, x1, x2, x3, x4, x5, hz⟩ := st.cells
  clear hR hW st hok hs
  rcases bool_cases (few19 c) with h1 | h1
  rotate_left
  · have H1 := Lib.hid h1
    clear h1
    go_enter Tryz.func7, Tryz.ntmps7
    go_upto_region 1 with (fail)
    rw [HW.out]
    go_wp2_with fail
    refine (few19_ok c _ _ _ _ _ _ _ _ _ _ _ ST0.out.R HSM.out HOK.out false H1).mono ?_
    rintro e w1 ⟨rfl, hb1⟩
    have HB1 := Lib.hid (ST0.out.up hb1).bel
    clear hb1 x0 x1 x2 x3 x4 x5 hz
    go_wp2_with fail
    refine (alive_ok _).mono ?_
    rintro e w2 ⟨rfl, hb2⟩
    have HZ := Lib.hid (Below.then_ HB1.out hb2)
    clear hb2
    go_wp2
    go_ret
    exact ⟨rfl, HZ.out⟩
  · have H1 := Lib.hid h1
    have HTO := Lib.hid (few_tot19 h1)
    clear h1
    rcases bool_cases (vldB c) with h2 | h2
    rotate_left
    · have H2 := Lib.hid h2
      clear h2
      go_enter Tryz.func7, Tryz.ntmps7
      go_upto_region 1 with (fail)
      rw [HW.out]
      go_wp2_with fail
      refine (few19_ok c _ _ _ _ _ _ _ _ _ _ _ ST0.out.R HSM.out HOK.out true H1).mono ?_
      rintro e w1 ⟨rfl, hb1⟩
      have ST1 := Lib.hid (ST0.out.up hb1)
      clear hb1 x0 x1 x2 x3 x4 x5 hz
      obtain ⟨x0, x1, x2, x3, x4, x5, hz⟩ := ST1.out.cells
      go_wp2_with fail
      refine (rValid19_ok c _ _ _ _ _ _ _ _ _ _ _ ST1.out.R HSM.out HOK.out false H2).mono ?_
      rintro e w1 ⟨rfl, hb1⟩
      have HB1 := Lib.hid (ST1.out.up hb1).bel
      clear hb1 x0 x1 x2 x3 x4 x5 hz
      go_wp2_with fail
      refine (alive_ok _).mono ?_
      rintro e w2 ⟨rfl, hb2⟩
      have HZ := Lib.hid (Below.then_ HB1.out hb2)
      clear hb2
      go_wp2
      go_ret
      exact ⟨rfl, HZ.out⟩
    · have H2 := Lib.hid h2
      obtain ⟨D, hD⟩ : ∃ D, dblC c = D := ⟨_, rfl⟩
      have HD := Lib.hid hD
      have HDO := Lib.hid (show D.ok by rw [← hD]; exact dbl_ok HOK.out)
      have HDS := Lib.hid (show D.small by rw [← hD]; exact dbl_small HSM.out HTO.out)
      have HBAD := Lib.hid (show 0 < c.parts.length + c.wins.length + c.ports.length + c.chans.length → vldB D = false from fun h => by rw [← hD]; exact dbl_bad HOK.out h2 h)
      obtain ⟨p, hp⟩ : ∃ p, decide ((0 : Int) < (c.parts.length : Int) + (c.wins.length : Int) + (c.ports.length : Int) + (c.chans.length : Int)) = p := ⟨_, rfl⟩
      obtain ⟨v, hv⟩ : ∃ v, vldB D = v := ⟨_, rfl⟩
      have HV := Lib.hid hv
      have HPV := Lib.hid (show p = true → v = false from fun h => by rw [← hv]; exact HBAD.out (by rw [h] at hp; have := of_decide_eq_true hp; omega))
      have bp : c.parts.length ≤ 1048576 := HSM.out.bd.p
      have bw : c.wins.length ≤ 1048576 := HSM.out.bd.w
      have bt : c.ports.length ≤ 1048576 := HSM.out.bd.t
      have bx : c.chans.length ≤ 1048576 := HSM.out.bd.x
      have e1 : IntKind.i64.wrap ((c.parts.length : Int) + (c.wins.length : Int)) = (c.parts.length : Int) + (c.wins.length : Int) := IntWalk.i64_in _ (by omega)
      have e2 : IntKind.i64.wrap ((c.parts.length : Int) + (c.wins.length : Int) + (c.ports.length : Int)) = (c.parts.length : Int) + (c.wins.length : Int) + (c.ports.length : Int) := IntWalk.i64_in _ (by omega)
      have e3 : IntKind.i64.wrap ((c.parts.length : Int) + (c.wins.length : Int) + (c.ports.length : Int) + (c.chans.length : Int)) = (c.parts.length : Int) + (c.wins.length : Int) + (c.ports.length : Int) + (c.chans.length : Int) := IntWalk.i64_in _ (by omega)
      clear h2 hD hv
      go_enter Tryz.func7, Tryz.ntmps7
      go_upto_region 1 with (fail)
      rw [HW.out]
      go_wp2_with fail
      refine (few19_ok c _ _ _ _ _ _ _ _ _ _ _ ST0.out.R HSM.out HOK.out true H1).mono ?_
      rintro e w1 ⟨rfl, hb1⟩
      have ST1 := Lib.hid (ST0.out.up hb1)
      clear hb1 x0 x1 x2 x3 x4 x5 hz
      obtain ⟨x0, x1, x2, x3, x4, x5, hz⟩ := ST1.out.cells
      go_wp2_with fail
      refine (rValid19_ok c _ _ _ _ _ _ _ _ _ _ _ ST1.out.R HSM.out HOK.out true H2).mono ?_
      rintro e w2 ⟨rfl, hb1⟩
      have ST2 := Lib.hid (ST1.out.up hb1)
      clear hb1 x0 x1 x2 x3 x4 x5 hz
      obtain ⟨x0, x1, x2, x3, x4, x5, hz⟩ := ST2.out.cells
      go_wp2_with fail
      refine (counts_ok c _ _ _ _ _ _ _ _ _ _ _ ST2.out.R HSM.out).mono ?_
      rintro e w3 ⟨rfl, hb1⟩
      have ST3 := Lib.hid (ST2.out.up hb1)
      obtain ⟨W4, hW4, hb4, ka⟩ : ∃ W, w3.alloc (.cells #[.int .i64 0, .int .i64 c.parts.length, .int .i64 c.wins.length, .int .i64 c.regs.length, .int .i64 c.ports.length, .int .i64 c.chans.length, .int .i64 (sumDests c.chans)] 45) = W ∧ Below w3.heap.size w3 W ∧ Blk W w3.heap.size 45 #[.int .i64 0, .int .i64 c.parts.length, .int .i64 c.wins.length, .int .i64 c.regs.length, .int .i64 c.ports.length, .int .i64 c.chans.length, .int .i64 (sumDests c.chans)] := ⟨_, rfl, below_one _ _, Blk.new _ _ _⟩
      have ST4 := Lib.hid (ST3.out.up hb4)
      have y1 := ka.cell 1
      have y2 := ka.cell 2
      have y4 := ka.cell 4
      have y5 := ka.cell 5
      have yl := ka.lt
      simp at y1 y2 y4 y5
      clear hb1 hb4 ka x0 x1 x2 x3 x4 x5 hz
      go_upto_region 4 with (fail)
      clear hW4
      generalize w3.heap.size = g4 at y1 y2 y4 y5 yl ⊢
      go_upto_region 5 with (fail)
      clear y1 y2 y4 y5 yl e1 e2 e3 bp bw bt bx hp
      obtain ⟨x0, x1, x2, x3, x4, x5, hz⟩ := ST4.out.cells
      obtain ⟨W5, hW5⟩ : ∃ W, W = W4.alloc (.cells #[.int .u64 c.frame, .slice A1 c.parts.length c1, .slice A2 c.wins.length c2, .slice A3 c.regs.length c3, .slice A4 c.ports.length c4, .slice A5 c.chans.length c5, .int .u64 c.frame, .slice A1 c.parts.length c1, .slice A2 c.wins.length c2, .slice A3 c.regs.length c3, .slice A4 c.ports.length c4, .slice A5 c.chans.length c5] 29) := ⟨_, rfl⟩
      have HW5 := Lib.hid hW5
      have HB5 := Lib.hid (show Below W4.heap.size W4 W5 by rw [hW5]; exact below_one _ _)
      clear hW5
      go_wp2_with fail
      rw [← HW5.out]
      refine (mergeD_ok c A1 A2 A3 A4 A5 c1 c2 c3 c4 c5 W4 ST4.out.R (by have := HTO.out; omega) D HD _ W5 HW5.out).mono ?_
      rintro e w6 ⟨P1, P2, P3, P4, P5, p1, p2, p3, p4, p5, rfl, hp6, hb6⟩
      have HP6 := Lib.hid hp6
      have ST6 := Lib.hid ((ST4.out.up HB5.out).up hb6)
      obtain ⟨W7, hW7, hb7, kd⟩ : ∃ W, w6.alloc (.cells #[.int .u64 D.frame, .slice P1 D.parts.length p1, .slice P2 D.wins.length p2, .slice P3 D.regs.length p3, .slice P4 D.ports.length p4, .slice P5 D.chans.length p5] 29) = W ∧ Below w6.heap.size w6 W ∧ Blk W w6.heap.size 29 #[.int .u64 D.frame, .slice P1 D.parts.length p1, .slice P2 D.wins.length p2, .slice P3 D.regs.length p3, .slice P4 D.ports.length p4, .slice P5 D.chans.length p5] := ⟨_, rfl, below_one _ _, Blk.new _ _ _⟩
      have HP7 := Lib.hid (HP6.out.up hb7)
      have ST7 := Lib.hid (ST6.out.up hb7)
      have HKD := Lib.hid kd
      clear hp6 hb6 hb7 kd x0 x1 x2 x3 x4 x5 hz
      go_upto_region 6 with (fail)
      clear hW7
      generalize w6.heap.size = gd at HKD ⊢
      rcases bool_cases p with rfl | rfl
      · obtain rfl : v = false := HPV.out rfl
        refine wp_region_H 35 17 2 _ rfl rfl rfl (by decide) (by kernel_rfl) (by kernel_rfl) (by kernel_rfl) (Nat.le_of_ble_eq_true (by kernel_rfl))
          [.bool true, .bool true, .bool true, .bool false, .bool false, cfgV D.frame P1 P2 P3 P4 P5 D.parts.length D.wins.length D.regs.length D.ports.length D.chans.length p1 p2 p3 p4 p5, .bool false, .bool true, .bool true, .bool true, .bool true, cfgV D.frame P1 P2 P3 P4 P5 D.parts.length D.wins.length D.regs.length D.ports.length D.chans.length p1 p2 p3 p4 p5, .bool false, cfgV D.frame P1 P2 P3 P4 P5 D.parts.length D.wins.length D.regs.length D.ports.length D.chans.length p1 p2 p3 p4 p5, .bool false, .bool true, .bool true, .bool true]
          (fun _ => false) (by kernel_rfl) (fun _ _ _ => True) (fun U => Below W7.heap.size W7 U)
          ((Below.refl _ _).drew) (fun U V hU hb => Below.then_ hU hb) (fun _ _ _ _ _ h _ => h) ?hun ?hop ?hend
        case hun =>
          intro i o ho
          match i, ho with
          | 0, ho => cases ho; intro h; first | exact ⟨rfl, rfl⟩ | cases h
          | 1, ho => cases ho; intro h; first | exact ⟨rfl, rfl⟩ | cases h
          | 2, ho => cases ho; intro h; first | exact ⟨rfl, rfl⟩ | cases h
          | 3, ho => cases ho; intro h; first | exact ⟨rfl, rfl⟩ | cases h
          | 4, ho => cases ho; intro h; first | exact ⟨rfl, rfl⟩ | cases h
          | 5, ho => cases ho; intro h; first | exact ⟨rfl, rfl⟩ | cases h
          | 6, ho => cases ho; intro h; first | exact ⟨rfl, rfl⟩ | cases h
          | 7, ho => cases ho; intro h; first | exact ⟨rfl, rfl⟩ | cases h
          | 8, ho => cases ho; intro h; first | exact ⟨rfl, rfl⟩ | cases h
          | 9, ho => cases ho; intro h; first | exact ⟨rfl, rfl⟩ | cases h
          | 10, ho => cases ho; intro h; first | exact ⟨rfl, rfl⟩ | cases h
          | 11, ho => cases ho; intro h; first | exact ⟨rfl, rfl⟩ | cases h
          | 12, ho => cases ho; intro h; first | exact ⟨rfl, rfl⟩ | cases h
          | 13, ho => cases ho; intro h; first | exact ⟨rfl, rfl⟩ | cases h
          | 14, ho => cases ho; intro h; first | exact ⟨rfl, rfl⟩ | cases h
          | 15, ho => cases ho; intro h; first | exact ⟨rfl, rfl⟩ | cases h
          | 16, ho => cases ho; intro h; first | exact ⟨rfl, rfl⟩ | cases h
          | 17, ho => cases ho; intro h; first | exact ⟨rfl, rfl⟩ | cases h
          | k + 18, ho => exact absurd ho (by simp)
        case hop =>
          intro i o ho hw U hE ρ r0 rf r1 r2
          have kd := HKD.out.below hE HKD.out.lt
          have y0 := kd.cell 0
          have y1 := kd.cell 1
          have y2 := kd.cell 2
          have y3 := kd.cell 3
          have y4 := kd.cell 4
          have y5 := kd.cell 5
          have yl := kd.lt
          simp at y0 y1 y2 y3 y4 y5
          clear kd
          match i, ho with
          | 0, ho =>
            cases ho
            refine RunsTo.call (V := U) 10 #[] ?_ ?_
            · simp only [execOp]
              go_simp
            · refine (alive_ok U).mono ?_
              rintro e V ⟨rfl, hb⟩
              exact ⟨_, rfl, hb, SC.ofV rfl⟩
          | 1, ho =>
            cases ho
            have q35 : ρ (.tmp 35) = _ := (r2 { on := 0, ground := .data } (by simp) rfl).val rfl
            refine RunsTo.val _ (V := U) ?_ ⟨Below.refl _ _, SC.ofV rfl⟩
            simp only [execOp]
            go_simp
          | 2, ho =>
            cases ho
            have q4 := r1 4 (by decide) (by decide)
            refine RunsTo.val _ (V := U) ?_ ⟨Below.refl _ _, SC.ofV rfl⟩
            simp only [execOp]
            go_simp
          | 3, ho =>
            cases ho
            have q37 : ρ (.tmp 37) = _ := (r2 { on := 2, ground := .data } (by simp) rfl).val rfl
            refine RunsTo.val _ (V := U) ?_ ⟨Below.refl _ _, SC.ofV rfl⟩
            simp only [execOp]
            go_simp
          | 4, ho =>
            cases ho
            have q38 : ρ (.tmp 38) = _ := (r2 { on := 3, ground := .data } (by simp) rfl).val rfl
            refine RunsTo.val _ (V := U) ?_ ⟨Below.refl _ _, SC.ofV rfl⟩
            simp only [execOp]
            go_simp
          | 5, ho =>
            cases ho
            have q5 := r1 5 (by decide) (by decide)
            refine RunsTo.val _ (V := U) ?_ ⟨Below.refl _ _, SC.ofV rfl⟩
            simp only [execOp]
            go_simp
          | 6, ho =>
            cases ho
            have q40 : ρ (.tmp 40) = _ := (r2 { on := 5, ground := .data } (by simp) rfl).val rfl
            refine RunsTo.call (V := U) 16 #[cfgV D.frame P1 P2 P3 P4 P5 D.parts.length D.wins.length D.regs.length D.ports.length D.chans.length p1 p2 p3 p4 p5] ?_ ?_
            · simp only [execOp]
              go_simp
            · refine (vValid_ok D P1 P2 P3 P4 P5 p1 p2 p3 p4 p5 U (HP7.out.up hE) HDS.out HDO.out false HV).mono ?_
              rintro e V ⟨rfl, hb⟩
              exact ⟨_, rfl, hb, SC.ofV rfl⟩
          | 7, ho =>
            cases ho
            have q41 : ρ (.tmp 41) = _ := (r2 { on := 6, ground := .data } (by simp) rfl).val rfl
            refine RunsTo.val _ (V := U) ?_ ⟨Below.refl _ _, SC.ofV rfl⟩
            simp only [execOp]
            go_simp
          | 8, ho =>
            cases ho
            have q39 : ρ (.tmp 39) = _ := (r2 { on := 4, ground := .data } (by simp) rfl).val rfl
            have q42 : ρ (.tmp 42) = _ := (r2 { on := 7, ground := .data } (by simp) rfl).val rfl
            refine RunsTo.val _ (V := U) ?_ ⟨Below.refl _ _, SC.ofV rfl⟩
            simp only [execOp]
            go_simp
          | 9, ho =>
            cases ho
            have q36 : ρ (.tmp 36) = _ := (r2 { on := 1, ground := .data } (by simp) rfl).val rfl
            have q43 : ρ (.tmp 43) = _ := (r2 { on := 8, ground := .data } (by simp) rfl).val rfl
            refine RunsTo.val _ (V := U) ?_ ⟨Below.refl _ _, SC.ofV rfl⟩
            simp only [execOp]
            go_simp
          | 10, ho =>
            cases ho
            have q44 : ρ (.tmp 44) = _ := (r2 { on := 9, ground := .data } (by simp) rfl).val rfl
            refine RunsTo.val _ (V := U) ?_ ⟨Below.refl _ _, SC.ofV rfl⟩
            simp only [execOp]
            go_simp
          | 11, ho =>
            cases ho
            have q5 := r1 5 (by decide) (by decide)
            refine RunsTo.val _ (V := U) ?_ ⟨Below.refl _ _, SC.ofV rfl⟩
            simp only [execOp]
            go_simp
          | 12, ho =>
            cases ho
            have q46 : ρ (.tmp 46) = _ := (r2 { on := 11, ground := .data } (by simp) rfl).val rfl
            refine RunsTo.call (V := U) 16 #[cfgV D.frame P1 P2 P3 P4 P5 D.parts.length D.wins.length D.regs.length D.ports.length D.chans.length p1 p2 p3 p4 p5] ?_ ?_
            · simp only [execOp]
              go_simp
            · refine (vValid_ok D P1 P2 P3 P4 P5 p1 p2 p3 p4 p5 U (HP7.out.up hE) HDS.out HDO.out false HV).mono ?_
              rintro e V ⟨rfl, hb⟩
              exact ⟨_, rfl, hb, SC.ofV rfl⟩
          | 13, ho =>
            cases ho
            have q5 := r1 5 (by decide) (by decide)
            refine RunsTo.val _ (V := U) ?_ ⟨Below.refl _ _, SC.ofV rfl⟩
            simp only [execOp]
            go_simp
          | 14, ho =>
            cases ho
            have q48 : ρ (.tmp 48) = _ := (r2 { on := 13, ground := .data } (by simp) rfl).val rfl
            refine RunsTo.call (V := U) 17 #[cfgV D.frame P1 P2 P3 P4 P5 D.parts.length D.wins.length D.regs.length D.ports.length D.chans.length p1 p2 p3 p4 p5] ?_ ?_
            · simp only [execOp]
              go_simp
            · refine (rValid19_ok D P1 P2 P3 P4 P5 p1 p2 p3 p4 p5 U (HP7.out.up hE) HDS.out HDO.out false HV).mono ?_
              rintro e V ⟨rfl, hb⟩
              exact ⟨_, rfl, hb, SC.ofV rfl⟩
          | 15, ho =>
            cases ho
            have q47 : ρ (.tmp 47) = _ := (r2 { on := 12, ground := .data } (by simp) rfl).val rfl
            have q49 : ρ (.tmp 49) = _ := (r2 { on := 14, ground := .data } (by simp) rfl).val rfl
            refine RunsTo.val _ (V := U) ?_ ⟨Below.refl _ _, SC.ofV rfl⟩
            simp only [execOp]
            go_simp
          | 16, ho =>
            cases ho
            have q45 : ρ (.tmp 45) = _ := (r2 { on := 10, ground := .data } (by simp) rfl).val rfl
            have q50 : ρ (.tmp 50) = _ := (r2 { on := 15, ground := .data } (by simp) rfl).val rfl
            refine RunsTo.val _ (V := U) ?_ ⟨Below.refl _ _, SC.ofV rfl⟩
            simp only [execOp]
            go_simp
          | 17, ho =>
            cases ho
            have q51 : ρ (.tmp 51) = _ := (r2 { on := 16, ground := .data } (by simp) rfl).val rfl
            refine RunsTo.val _ (V := U) ?_ ⟨Below.refl _ _, SC.ofV rfl⟩
            simp only [execOp]
            go_simp
          | k + 18, ho => exact absurd ho (by simp)
        case hend =>
          intro u U hE hS
          have e := (hS 17 (by decide)).val rfl
          clear hS
          simp only [mkL, mkAt, List.take_succ_cons, List.take_zero, List.drop_succ_cons, List.drop_nil, List.range, List.range.loop, List.map_cons, List.map_nil, List.cons_append, List.nil_append, List.append_nil, List.setIfInBounds_toArray, List.set_cons_succ, List.set_cons_zero, e]
          have HZ := Lib.hid (ST7.out.up hE).bel
          clear hE e
          go_wp2
          go_ret
          exact ⟨rfl, HZ.out⟩
      · rcases bool_cases v with rfl | rfl
        · clear HBAD
          refine wp_region_H 35 17 2 _ rfl rfl rfl (by decide) (by kernel_rfl) (by kernel_rfl) (by kernel_rfl) (Nat.le_of_ble_eq_true (by kernel_rfl))
            [.bool true, .bool true, .bool false, .bool true, .bool true, undef, undef, undef, .bool true, .bool true, .bool true, cfgV D.frame P1 P2 P3 P4 P5 D.parts.length D.wins.length D.regs.length D.ports.length D.chans.length p1 p2 p3 p4 p5, .bool true, cfgV D.frame P1 P2 P3 P4 P5 D.parts.length D.wins.length D.regs.length D.ports.length D.chans.length p1 p2 p3 p4 p5, .bool true, .bool true, .bool true, .bool true]
            (fun _ => false) (by kernel_rfl) (fun _ _ _ => True) (fun U => Below W7.heap.size W7 U)
            ((Below.refl _ _).drew) (fun U V hU hb => Below.then_ hU hb) (fun _ _ _ _ _ h _ => h) ?hun ?hop ?hend
          case hun =>
            intro i o ho
            match i, ho with
            | 0, ho => cases ho; intro h; first | exact ⟨rfl, rfl⟩ | cases h
            | 1, ho => cases ho; intro h; first | exact ⟨rfl, rfl⟩ | cases h
            | 2, ho => cases ho; intro h; first | exact ⟨rfl, rfl⟩ | cases h
            | 3, ho => cases ho; intro h; first | exact ⟨rfl, rfl⟩ | cases h
            | 4, ho => cases ho; intro h; first | exact ⟨rfl, rfl⟩ | cases h
            | 5, ho => cases ho; intro h; first | exact ⟨rfl, rfl⟩ | cases h
            | 6, ho => cases ho; intro h; first | exact ⟨rfl, rfl⟩ | cases h
            | 7, ho => cases ho; intro h; first | exact ⟨rfl, rfl⟩ | cases h
            | 8, ho => cases ho; intro h; first | exact ⟨rfl, rfl⟩ | cases h
            | 9, ho => cases ho; intro h; first | exact ⟨rfl, rfl⟩ | cases h
            | 10, ho => cases ho; intro h; first | exact ⟨rfl, rfl⟩ | cases h
            | 11, ho => cases ho; intro h; first | exact ⟨rfl, rfl⟩ | cases h
            | 12, ho => cases ho; intro h; first | exact ⟨rfl, rfl⟩ | cases h
            | 13, ho => cases ho; intro h; first | exact ⟨rfl, rfl⟩ | cases h
            | 14, ho => cases ho; intro h; first | exact ⟨rfl, rfl⟩ | cases h
            | 15, ho => cases ho; intro h; first | exact ⟨rfl, rfl⟩ | cases h
            | 16, ho => cases ho; intro h; first | exact ⟨rfl, rfl⟩ | cases h
            | 17, ho => cases ho; intro h; first | exact ⟨rfl, rfl⟩ | cases h
            | k + 18, ho => exact absurd ho (by simp)
          case hop =>
            intro i o ho hw U hE ρ r0 rf r1 r2
            have kd := HKD.out.below hE HKD.out.lt
            have y0 := kd.cell 0
            have y1 := kd.cell 1
            have y2 := kd.cell 2
            have y3 := kd.cell 3
            have y4 := kd.cell 4
            have y5 := kd.cell 5
            have yl := kd.lt
            simp at y0 y1 y2 y3 y4 y5
            clear kd
            match i, ho with
            | 0, ho =>
              cases ho
              refine RunsTo.call (V := U) 10 #[] ?_ ?_
              · simp only [execOp]
                go_simp
              · refine (alive_ok U).mono ?_
                rintro e V ⟨rfl, hb⟩
                exact ⟨_, rfl, hb, SC.ofV rfl⟩
            | 1, ho =>
              cases ho
              have q35 : ρ (.tmp 35) = _ := (r2 { on := 0, ground := .data } (by simp) rfl).val rfl
              refine RunsTo.val _ (V := U) ?_ ⟨Below.refl _ _, SC.ofV rfl⟩
              simp only [execOp]
              go_simp
            | 2, ho =>
              cases ho
              have q4 := r1 4 (by decide) (by decide)
              refine RunsTo.val _ (V := U) ?_ ⟨Below.refl _ _, SC.ofV rfl⟩
              simp only [execOp]
              go_simp
            | 3, ho =>
              cases ho
              have q37 : ρ (.tmp 37) = _ := (r2 { on := 2, ground := .data } (by simp) rfl).val rfl
              refine RunsTo.val _ (V := U) ?_ ⟨Below.refl _ _, SC.ofV rfl⟩
              simp only [execOp]
              go_simp
            | 4, ho =>
              cases ho
              have q38 : ρ (.tmp 38) = _ := (r2 { on := 3, ground := .data } (by simp) rfl).val rfl
              refine RunsTo.val _ (V := U) ?_ ⟨Below.refl _ _, SC.ofV rfl⟩
              simp only [execOp]
              go_simp
            | 5, ho =>
              cases ho; cases hw
            | 6, ho =>
              cases ho; cases hw
            | 7, ho =>
              cases ho; cases hw
            | 8, ho =>
              cases ho
              have q39 : ρ (.tmp 39) = _ := (r2 { on := 4, ground := .data } (by simp) rfl).val rfl
              have q42 : ρ (.tmp 42) = _ := (r2 { on := 7, ground := .data } (by simp) rfl).val rfl
              refine RunsTo.val _ (V := U) ?_ ⟨Below.refl _ _, SC.ofV rfl⟩
              simp only [execOp]
              go_simp
            | 9, ho =>
              cases ho
              have q36 : ρ (.tmp 36) = _ := (r2 { on := 1, ground := .data } (by simp) rfl).val rfl
              have q43 : ρ (.tmp 43) = _ := (r2 { on := 8, ground := .data } (by simp) rfl).val rfl
              refine RunsTo.val _ (V := U) ?_ ⟨Below.refl _ _, SC.ofV rfl⟩
              simp only [execOp]
              go_simp
            | 10, ho =>
              cases ho
              have q44 : ρ (.tmp 44) = _ := (r2 { on := 9, ground := .data } (by simp) rfl).val rfl
              refine RunsTo.val _ (V := U) ?_ ⟨Below.refl _ _, SC.ofV rfl⟩
              simp only [execOp]
              go_simp
            | 11, ho =>
              cases ho
              have q5 := r1 5 (by decide) (by decide)
              refine RunsTo.val _ (V := U) ?_ ⟨Below.refl _ _, SC.ofV rfl⟩
              simp only [execOp]
              go_simp
            | 12, ho =>
              cases ho
              have q46 : ρ (.tmp 46) = _ := (r2 { on := 11, ground := .data } (by simp) rfl).val rfl
              refine RunsTo.call (V := U) 16 #[cfgV D.frame P1 P2 P3 P4 P5 D.parts.length D.wins.length D.regs.length D.ports.length D.chans.length p1 p2 p3 p4 p5] ?_ ?_
              · simp only [execOp]
                go_simp
              · refine (vValid_ok D P1 P2 P3 P4 P5 p1 p2 p3 p4 p5 U (HP7.out.up hE) HDS.out HDO.out true HV).mono ?_
                rintro e V ⟨rfl, hb⟩
                exact ⟨_, rfl, hb, SC.ofV rfl⟩
            | 13, ho =>
              cases ho
              have q5 := r1 5 (by decide) (by decide)
              refine RunsTo.val _ (V := U) ?_ ⟨Below.refl _ _, SC.ofV rfl⟩
              simp only [execOp]
              go_simp
            | 14, ho =>
              cases ho
              have q48 : ρ (.tmp 48) = _ := (r2 { on := 13, ground := .data } (by simp) rfl).val rfl
              refine RunsTo.call (V := U) 17 #[cfgV D.frame P1 P2 P3 P4 P5 D.parts.length D.wins.length D.regs.length D.ports.length D.chans.length p1 p2 p3 p4 p5] ?_ ?_
              · simp only [execOp]
                go_simp
              · refine (rValid19_ok D P1 P2 P3 P4 P5 p1 p2 p3 p4 p5 U (HP7.out.up hE) HDS.out HDO.out true HV).mono ?_
                rintro e V ⟨rfl, hb⟩
                exact ⟨_, rfl, hb, SC.ofV rfl⟩
            | 15, ho =>
              cases ho
              have q47 : ρ (.tmp 47) = _ := (r2 { on := 12, ground := .data } (by simp) rfl).val rfl
              have q49 : ρ (.tmp 49) = _ := (r2 { on := 14, ground := .data } (by simp) rfl).val rfl
              refine RunsTo.val _ (V := U) ?_ ⟨Below.refl _ _, SC.ofV rfl⟩
              simp only [execOp]
              go_simp
            | 16, ho =>
              cases ho
              have q45 : ρ (.tmp 45) = _ := (r2 { on := 10, ground := .data } (by simp) rfl).val rfl
              have q50 : ρ (.tmp 50) = _ := (r2 { on := 15, ground := .data } (by simp) rfl).val rfl
              refine RunsTo.val _ (V := U) ?_ ⟨Below.refl _ _, SC.ofV rfl⟩
              simp only [execOp]
              go_simp
            | 17, ho =>
              cases ho
              have q51 : ρ (.tmp 51) = _ := (r2 { on := 16, ground := .data } (by simp) rfl).val rfl
              refine RunsTo.val _ (V := U) ?_ ⟨Below.refl _ _, SC.ofV rfl⟩
              simp only [execOp]
              go_simp
            | k + 18, ho => exact absurd ho (by simp)
          case hend =>
            intro u U hE hS
            have e := (hS 17 (by decide)).val rfl
            clear hS
            simp only [mkL, mkAt, List.take_succ_cons, List.take_zero, List.drop_succ_cons, List.drop_nil, List.range, List.range.loop, List.map_cons, List.map_nil, List.cons_append, List.nil_append, List.append_nil, List.setIfInBounds_toArray, List.set_cons_succ, List.set_cons_zero, e]
            have HZ := Lib.hid (ST7.out.up hE).bel
            clear hE e
            go_wp2
            go_ret
            exact ⟨rfl, HZ.out⟩
        · clear HBAD
          refine wp_region_H 35 17 2 _ rfl rfl rfl (by decide) (by kernel_rfl) (by kernel_rfl) (by kernel_rfl) (Nat.le_of_ble_eq_true (by kernel_rfl))
            [.bool true, .bool true, .bool false, .bool true, .bool true, undef, undef, undef, .bool true, .bool true, .bool true, cfgV D.frame P1 P2 P3 P4 P5 D.parts.length D.wins.length D.regs.length D.ports.length D.chans.length p1 p2 p3 p4 p5, .bool false, cfgV D.frame P1 P2 P3 P4 P5 D.parts.length D.wins.length D.regs.length D.ports.length D.chans.length p1 p2 p3 p4 p5, .bool false, .bool true, .bool true, .bool true]
            (fun _ => false) (by kernel_rfl) (fun _ _ _ => True) (fun U => Below W7.heap.size W7 U)
            ((Below.refl _ _).drew) (fun U V hU hb => Below.then_ hU hb) (fun _ _ _ _ _ h _ => h) ?hun ?hop ?hend
          case hun =>
            intro i o ho
            match i, ho with
            | 0, ho => cases ho; intro h; first | exact ⟨rfl, rfl⟩ | cases h
            | 1, ho => cases ho; intro h; first | exact ⟨rfl, rfl⟩ | cases h
            | 2, ho => cases ho; intro h; first | exact ⟨rfl, rfl⟩ | cases h
            | 3, ho => cases ho; intro h; first | exact ⟨rfl, rfl⟩ | cases h
            | 4, ho => cases ho; intro h; first | exact ⟨rfl, rfl⟩ | cases h
            | 5, ho => cases ho; intro h; first | exact ⟨rfl, rfl⟩ | cases h
            | 6, ho => cases ho; intro h; first | exact ⟨rfl, rfl⟩ | cases h
            | 7, ho => cases ho; intro h; first | exact ⟨rfl, rfl⟩ | cases h
            | 8, ho => cases ho; intro h; first | exact ⟨rfl, rfl⟩ | cases h
            | 9, ho => cases ho; intro h; first | exact ⟨rfl, rfl⟩ | cases h
            | 10, ho => cases ho; intro h; first | exact ⟨rfl, rfl⟩ | cases h
            | 11, ho => cases ho; intro h; first | exact ⟨rfl, rfl⟩ | cases h
            | 12, ho => cases ho; intro h; first | exact ⟨rfl, rfl⟩ | cases h
            | 13, ho => cases ho; intro h; first | exact ⟨rfl, rfl⟩ | cases h
            | 14, ho => cases ho; intro h; first | exact ⟨rfl, rfl⟩ | cases h
            | 15, ho => cases ho; intro h; first | exact ⟨rfl, rfl⟩ | cases h
            | 16, ho => cases ho; intro h; first | exact ⟨rfl, rfl⟩ | cases h
            | 17, ho => cases ho; intro h; first | exact ⟨rfl, rfl⟩ | cases h
            | k + 18, ho => exact absurd ho (by simp)
          case hop =>
            intro i o ho hw U hE ρ r0 rf r1 r2
            have kd := HKD.out.below hE HKD.out.lt
            have y0 := kd.cell 0
            have y1 := kd.cell 1
            have y2 := kd.cell 2
            have y3 := kd.cell 3
            have y4 := kd.cell 4
            have y5 := kd.cell 5
            have yl := kd.lt
            simp at y0 y1 y2 y3 y4 y5
            clear kd
            match i, ho with
            | 0, ho =>
              cases ho
              refine RunsTo.call (V := U) 10 #[] ?_ ?_
              · simp only [execOp]
                go_simp
              · refine (alive_ok U).mono ?_
                rintro e V ⟨rfl, hb⟩
                exact ⟨_, rfl, hb, SC.ofV rfl⟩
            | 1, ho =>
              cases ho
              have q35 : ρ (.tmp 35) = _ := (r2 { on := 0, ground := .data } (by simp) rfl).val rfl
              refine RunsTo.val _ (V := U) ?_ ⟨Below.refl _ _, SC.ofV rfl⟩
              simp only [execOp]
              go_simp
            | 2, ho =>
              cases ho
              have q4 := r1 4 (by decide) (by decide)
              refine RunsTo.val _ (V := U) ?_ ⟨Below.refl _ _, SC.ofV rfl⟩
              simp only [execOp]
              go_simp
            | 3, ho =>
              cases ho
              have q37 : ρ (.tmp 37) = _ := (r2 { on := 2, ground := .data } (by simp) rfl).val rfl
              refine RunsTo.val _ (V := U) ?_ ⟨Below.refl _ _, SC.ofV rfl⟩
              simp only [execOp]
              go_simp
            | 4, ho =>
              cases ho
              have q38 : ρ (.tmp 38) = _ := (r2 { on := 3, ground := .data } (by simp) rfl).val rfl
              refine RunsTo.val _ (V := U) ?_ ⟨Below.refl _ _, SC.ofV rfl⟩
              simp only [execOp]
              go_simp
            | 5, ho =>
              cases ho; cases hw
            | 6, ho =>
              cases ho; cases hw
            | 7, ho =>
              cases ho; cases hw
            | 8, ho =>
              cases ho
              have q39 : ρ (.tmp 39) = _ := (r2 { on := 4, ground := .data } (by simp) rfl).val rfl
              have q42 : ρ (.tmp 42) = _ := (r2 { on := 7, ground := .data } (by simp) rfl).val rfl
              refine RunsTo.val _ (V := U) ?_ ⟨Below.refl _ _, SC.ofV rfl⟩
              simp only [execOp]
              go_simp
            | 9, ho =>
              cases ho
              have q36 : ρ (.tmp 36) = _ := (r2 { on := 1, ground := .data } (by simp) rfl).val rfl
              have q43 : ρ (.tmp 43) = _ := (r2 { on := 8, ground := .data } (by simp) rfl).val rfl
              refine RunsTo.val _ (V := U) ?_ ⟨Below.refl _ _, SC.ofV rfl⟩
              simp only [execOp]
              go_simp
            | 10, ho =>
              cases ho
              have q44 : ρ (.tmp 44) = _ := (r2 { on := 9, ground := .data } (by simp) rfl).val rfl
              refine RunsTo.val _ (V := U) ?_ ⟨Below.refl _ _, SC.ofV rfl⟩
              simp only [execOp]
              go_simp
            | 11, ho =>
              cases ho
              have q5 := r1 5 (by decide) (by decide)
              refine RunsTo.val _ (V := U) ?_ ⟨Below.refl _ _, SC.ofV rfl⟩
              simp only [execOp]
              go_simp
            | 12, ho =>
              cases ho
              have q46 : ρ (.tmp 46) = _ := (r2 { on := 11, ground := .data } (by simp) rfl).val rfl
              refine RunsTo.call (V := U) 16 #[cfgV D.frame P1 P2 P3 P4 P5 D.parts.length D.wins.length D.regs.length D.ports.length D.chans.length p1 p2 p3 p4 p5] ?_ ?_
              · simp only [execOp]
                go_simp
              · refine (vValid_ok D P1 P2 P3 P4 P5 p1 p2 p3 p4 p5 U (HP7.out.up hE) HDS.out HDO.out false HV).mono ?_
                rintro e V ⟨rfl, hb⟩
                exact ⟨_, rfl, hb, SC.ofV rfl⟩
            | 13, ho =>
              cases ho
              have q5 := r1 5 (by decide) (by decide)
              refine RunsTo.val _ (V := U) ?_ ⟨Below.refl _ _, SC.ofV rfl⟩
              simp only [execOp]
              go_simp
            | 14, ho =>
              cases ho
              have q48 : ρ (.tmp 48) = _ := (r2 { on := 13, ground := .data } (by simp) rfl).val rfl
              refine RunsTo.call (V := U) 17 #[cfgV D.frame P1 P2 P3 P4 P5 D.parts.length D.wins.length D.regs.length D.ports.length D.chans.length p1 p2 p3 p4 p5] ?_ ?_
              · simp only [execOp]
                go_simp
              · refine (rValid19_ok D P1 P2 P3 P4 P5 p1 p2 p3 p4 p5 U (HP7.out.up hE) HDS.out HDO.out false HV).mono ?_
                rintro e V ⟨rfl, hb⟩
                exact ⟨_, rfl, hb, SC.ofV rfl⟩
            | 15, ho =>
              cases ho
              have q47 : ρ (.tmp 47) = _ := (r2 { on := 12, ground := .data } (by simp) rfl).val rfl
              have q49 : ρ (.tmp 49) = _ := (r2 { on := 14, ground := .data } (by simp) rfl).val rfl
              refine RunsTo.val _ (V := U) ?_ ⟨Below.refl _ _, SC.ofV rfl⟩
              simp only [execOp]
              go_simp
            | 16, ho =>
              cases ho
              have q45 : ρ (.tmp 45) = _ := (r2 { on := 10, ground := .data } (by simp) rfl).val rfl
              have q50 : ρ (.tmp 50) = _ := (r2 { on := 15, ground := .data } (by simp) rfl).val rfl
              refine RunsTo.val _ (V := U) ?_ ⟨Below.refl _ _, SC.ofV rfl⟩
              simp only [execOp]
              go_simp
            | 17, ho =>
              cases ho
              have q51 : ρ (.tmp 51) = _ := (r2 { on := 16, ground := .data } (by simp) rfl).val rfl
              refine RunsTo.val _ (V := U) ?_ ⟨Below.refl _ _, SC.ofV rfl⟩
              simp only [execOp]
              go_simp
            | k + 18, ho => exact absurd ho (by simp)
          case hend =>
            intro u U hE hS
            have e := (hS 17 (by decide)).val rfl
            clear hS
            simp only [mkL, mkAt, List.take_succ_cons, List.take_zero, List.drop_succ_cons, List.drop_nil, List.range, List.range.loop, List.map_cons, List.map_nil, List.cons_append, List.nil_append, List.append_nil, List.setIfInBounds_toArray, List.set_cons_succ, List.set_cons_zero, e]
            have HZ := Lib.hid (ST7.out.up hE).bel
            clear hE e
            go_wp2
            go_ret
            exact ⟨rfl, HZ.out⟩
end Go.Proofs.YtpedlbjbbcbbkaaGreat
