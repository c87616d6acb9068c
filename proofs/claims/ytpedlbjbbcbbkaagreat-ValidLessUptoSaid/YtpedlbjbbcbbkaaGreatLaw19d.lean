/-
  ValidLess of layer 19, walked.
-/
import Derived.Test.YtpedlbjbbcbbkaaGreatAlive19
import Derived.Test.YtpedlbjbbcbbkaaGreatLess3
namespace Go.Proofs.YtpedlbjbbcbbkaaGreat
open Go.RowKit Go.Lib
set_option maxRecDepth 100000 in
set_option maxHeartbeats 16000000 in
theorem validLess_ok (c : Cfg) (A1 A2 A3 A4 A5 : Option Addr) (c1 c2 c3 c4 c5 : Nat) (w : World) (hR : CfgR w w.heap.size c A1 A2 A3 A4 A5 c1 c2 c3 c4 c5) (hs : c.small) (hok : c.ok) : Calls Tryz.prog 4 #[cfgV c.frame A1 A2 A3 A4 A5 c.parts.length c.wins.length c.regs.length c.ports.length c.chans.length c1 c2 c3 c4 c5] w fun e w' => e = .returned (.bool true) ∧ Below w.heap.size w w' := by
  obtain ⟨W0, hW, st⟩ := St.start_any hR 29
  have HW := Lib.hid hW
  have ST0 := Lib.hid st
  have HOK := Lib.hid hok
  have HSM := Lib.hid hs
  obtain ⟨x0, x1, x2, x3, x4, x5, hz⟩ := st.cells
  clear hR hW st hok hs
  rcases bool_cases (few19 c) with h1 | h1
  rotate_left
  · have H1 := Lib.hid h1
    clear h1
    go_enter Tryz.func4, Tryz.ntmps4
    go_upto_region 1 with (fail)
    rw [HW.out]
    go_wp2_with fail
    refine (few19_ok c _ _ _ _ _ _ _ _ _ _ _ ST0.out.R HSM.out HOK.out false H1).mono ?_
    rintro e w1 ⟨rfl, hb1⟩
    have HB1 := Lib.hid (ST0.out.up hb1).bel
    clear hb1 x0 x1 x2 x3 x4 x5 hz
    go_wp2_with fail
    refine (alive_ok _).mono ?_
    rintro e w2 ⟨rfl, hb2⟩
    have HZ := Lib.hid (Below.then_ HB1.out hb2)
    clear hb2
    go_wp2
    go_ret
    exact ⟨rfl, HZ.out⟩
  · have H1 := Lib.hid h1
    clear h1
    rcases bool_cases (vldB c) with h2 | h2
    rotate_left
    · have H2 := Lib.hid h2
      clear h2
      go_enter Tryz.func4, Tryz.ntmps4
      go_upto_region 1 with (fail)
      rw [HW.out]
      go_wp2_with fail
      refine (few19_ok c _ _ _ _ _ _ _ _ _ _ _ ST0.out.R HSM.out HOK.out true H1).mono ?_
      rintro e w1 ⟨rfl, hb1⟩
      have ST1 := Lib.hid (ST0.out.up hb1)
      clear hb1 x0 x1 x2 x3 x4 x5 hz
      obtain ⟨x0, x1, x2, x3, x4, x5, hz⟩ := ST1.out.cells
      go_wp2_with fail
      refine (rValid19_ok c _ _ _ _ _ _ _ _ _ _ _ ST1.out.R HSM.out HOK.out false H2).mono ?_
      rintro e w1 ⟨rfl, hb1⟩
      have HB1 := Lib.hid (ST1.out.up hb1).bel
      clear hb1 x0 x1 x2 x3 x4 x5 hz
      go_wp2_with fail
      refine (alive_ok _).mono ?_
      rintro e w2 ⟨rfl, hb2⟩
      have HZ := Lib.hid (Below.then_ HB1.out hb2)
      clear hb2
      go_wp2
      go_ret
      exact ⟨rfl, HZ.out⟩
    · have H2 := Lib.hid h2
      have VR := Lib.hid (lessR_vld h2)
      have VC := Lib.hid (lessC_vld h2)
      have VP := Lib.hid (lessP_vld h2)
      clear h2
      go_enter Tryz.func4, Tryz.ntmps4
      go_upto_region 1 with (fail)
      rw [HW.out]
      go_wp2_with fail
      refine (few19_ok c _ _ _ _ _ _ _ _ _ _ _ ST0.out.R HSM.out HOK.out true H1).mono ?_
      rintro e w1 ⟨rfl, hb1⟩
      have ST1 := Lib.hid (ST0.out.up hb1)
      clear hb1 x0 x1 x2 x3 x4 x5 hz
      obtain ⟨x0, x1, x2, x3, x4, x5, hz⟩ := ST1.out.cells
      go_wp2_with fail
      refine (rValid19_ok c _ _ _ _ _ _ _ _ _ _ _ ST1.out.R HSM.out HOK.out true H2).mono ?_
      rintro e w2 ⟨rfl, hb1⟩
      have ST2 := Lib.hid (ST1.out.up hb1)
      clear hb1 x0 x1 x2 x3 x4 x5 hz
      go_upto_region 3 with (fail)
      refine wp_region_SA (by kernel_rfl) (by kernel_rfl) (by kernel_rfl) (mk9 _ _ _ _ _ _ _ _ _ _ _ _ _ _ _ _ _ _ _ _ _ _ _ _ _ _ _ _ _ _ _ _ _) (fun _ => undef) rfl ?hput (S9 w2.heap.size (cfgV c.frame A1 A2 A3 A4 A5 c.parts.length c.wins.length c.regs.length c.ports.length c.chans.length c1 c2 c3 c4 c5) #[.int .u64 c.frame, .slice A1 c.parts.length c1, .slice A2 c.wins.length c2, .slice A3 c.regs.length c3, .slice A4 c.ports.length c4, .slice A5 c.chans.length c5]) (fun u w' => Below w2.heap.size w2 w' ∧ Sep9 u w') Le9 ⟨(Below.refl w2.heap.size w2).drew, Sep9.start _⟩ (fun i j u w w' hij hE h hl => S9.stay _ _ _ i j u w w' hij hE.2 h hl) ?hloc ?hop ?hend
      case hput =>
        intro i o ho u v
        match i, ho with
        | 0, ho => cases ho; exact (mk9_put u v).1 0 (by decide)
        | 1, ho => cases ho; exact (mk9_put u v).1 1 (by decide)
        | 2, ho => cases ho; exact (mk9_put u v).1 2 (by decide)
        | 3, ho => cases ho; exact (mk9_put u v).2.1 0 (by decide)
        | 4, ho => cases ho; exact (mk9_put u v).2.1 1 (by decide)
        | 5, ho => cases ho; exact (mk9_put u v).2.1 2 (by decide)
        | 6, ho => cases ho; exact (mk9_put u v).2.2 0
        | 7, ho => cases ho; exact (mk9_put u v).2.2 1
        | 8, ho => cases ho; exact (mk9_put u v).2.2 2
        | n + 9, ho => exact absurd ho (by simp)
      case hloc =>
        intro i o ho j u v w' hij hp h
        have e := upd_ne (Ne.symm hij) u v
        match i, ho, h, e with
        | 0, ho, h, e => simp only [S9] at h ⊢; rw [e]; exact h
        | 1, ho, h, e => simp only [S9] at h ⊢; rw [e]; exact h
        | 2, ho, h, e => simp only [S9] at h ⊢; rw [e]; exact h
        | 3, ho, h, e => simp only [S9] at h ⊢; rw [e]; exact h
        | 4, ho, h, e => simp only [S9] at h ⊢; rw [e]; exact h
        | 5, ho, h, e => simp only [S9] at h ⊢; rw [e]; exact h
        | 6, ho, h, e =>
          cases ho
          have e6 := upd_ne (hp { on := 3, ground := .data } (by simp) rfl) u v
          simp only [S9] at h ⊢
          rw [e6]
          exact h
        | 7, ho, h, e =>
          cases ho
          have e6 := upd_ne (hp { on := 4, ground := .data } (by simp) rfl) u v
          simp only [S9] at h ⊢
          rw [e6]
          exact h
        | 8, ho, h, e =>
          cases ho
          have e6 := upd_ne (hp { on := 5, ground := .data } (by simp) rfl) u v
          simp only [S9] at h ⊢
          rw [e6]
          exact h
        | n + 9, ho, h, e => trivial
      case hop =>
        intro i o ho u w' hE hp K hK
        have hsz := hE.1.size
        match i, ho with
        | 0, ho =>
          cases ho
          obtain ⟨y0, y1, y2, y3, y4, y5, yz⟩ := (ST2.out.up hE.1).cells
          refine wp_val (cfgV c.frame A1 A2 A3 A4 A5 c.parts.length c.wins.length c.regs.length c.ports.length c.chans.length c1 c2 c3 c4 c5) (w' := w') (by simp only [mk9]; go_simp) (hK _ _ ⟨hE.1, hE.2.other (by omega) _ (Nat.le_refl _)⟩ (Le9.bel (by decide) (Below.refl _ _)) (by simp only [S9]; rw [upd_self]))
        | 1, ho =>
          cases ho
          obtain ⟨y0, y1, y2, y3, y4, y5, yz⟩ := (ST2.out.up hE.1).cells
          refine wp_val (cfgV c.frame A1 A2 A3 A4 A5 c.parts.length c.wins.length c.regs.length c.ports.length c.chans.length c1 c2 c3 c4 c5) (w' := w') (by simp only [mk9]; go_simp) (hK _ _ ⟨hE.1, hE.2.other (by omega) _ (Nat.le_refl _)⟩ (Le9.bel (by decide) (Below.refl _ _)) (by simp only [S9]; rw [upd_self]))
        | 2, ho =>
          cases ho
          obtain ⟨y0, y1, y2, y3, y4, y5, yz⟩ := (ST2.out.up hE.1).cells
          refine wp_val (cfgV c.frame A1 A2 A3 A4 A5 c.parts.length c.wins.length c.regs.length c.ports.length c.chans.length c1 c2 c3 c4 c5) (w' := w') (by simp only [mk9]; go_simp) (hK _ _ ⟨hE.1, hE.2.other (by omega) _ (Nat.le_refl _)⟩ (Le9.bel (by decide) (Below.refl _ _)) (by simp only [S9]; rw [upd_self]))
        | 3, ho =>
          cases ho
          refine wp_val (.pointer (some ⟨w'.heap.size, 0, none⟩)) (w' := w'.alloc (.cells #[.int .u64 0, .slice none 0 0, .slice none 0 0, .slice none 0 0, .slice none 0 0, .slice none 0 0] 29)) (by simp only [mk9]; go_simp) (hK _ _ ⟨hE.1.alloc hsz _, hE.2.mk_ 3 (by simp)⟩ (Le9.bel (by decide) (below_one _ _)) ⟨w'.heap.size, _, upd_self _ _ _, hsz, Blk.new _ _ _, rfl⟩)
        | 4, ho =>
          cases ho
          refine wp_val (.pointer (some ⟨w'.heap.size, 0, none⟩)) (w' := w'.alloc (.cells #[.int .u64 0, .slice none 0 0, .slice none 0 0, .slice none 0 0, .slice none 0 0, .slice none 0 0] 29)) (by simp only [mk9]; go_simp) (hK _ _ ⟨hE.1.alloc hsz _, hE.2.mk_ 4 (by simp)⟩ (Le9.bel (by decide) (below_one _ _)) ⟨w'.heap.size, _, upd_self _ _ _, hsz, Blk.new _ _ _, rfl⟩)
        | 5, ho =>
          cases ho
          refine wp_val (.pointer (some ⟨w'.heap.size, 0, none⟩)) (w' := w'.alloc (.cells #[.int .u64 0, .slice none 0 0, .slice none 0 0, .slice none 0 0, .slice none 0 0, .slice none 0 0] 29)) (by simp only [mk9]; go_simp) (hK _ _ ⟨hE.1.alloc hsz _, hE.2.mk_ 5 (by simp)⟩ (Le9.bel (by decide) (below_one _ _)) ⟨w'.heap.size, _, upd_self _ _ _, hsz, Blk.new _ _ _, rfl⟩)
        | 6, ho =>
          cases ho
          have h6 := hp { on := 3, ground := .data } (by simp) rfl
          simp only [S9] at h6
          have h1 := hp { on := 0, ground := .data } (by simp) rfl
          simp only [S9] at h1
          obtain ⟨g, cs, e6, hgg, hbk, h7⟩ := h6
          obtain ⟨d0, d1, d2, d3, d4, d5, rfl⟩ := arr9 h7
          have y0 := hbk.cell 0
          have y1 := hbk.cell 1
          have y2 := hbk.cell 2
          have y3 := hbk.cell 3
          have y4 := hbk.cell 4
          have y5 := hbk.cell 5
          simp at y0 y1 y2 y3 y4 y5
          have hfr := hbk.frozen
          have hgl := hbk.lt
          have b0 := hbk.set_ 0 (.int .u64 c.frame)
          have b1 := b0.set_ 1 (.slice A1 c.parts.length c1)
          have b2 := b1.set_ 2 (.slice A2 c.wins.length c2)
          have b3 := b2.set_ 3 (.slice A3 c.regs.length c3)
          have b4 := b3.set_ 4 (.slice A4 c.ports.length c4)
          have b5 := b4.set_ 5 (.slice A5 c.chans.length c5)
          refine wp_skip (w' := ((((((w'.setCell ⟨g, 0, none⟩ (.int .u64 c.frame)).setCell ⟨g, 1, none⟩ (.slice A1 c.parts.length c1)).setCell ⟨g, 2, none⟩ (.slice A2 c.wins.length c2)).setCell ⟨g, 3, none⟩ (.slice A3 c.regs.length c3)).setCell ⟨g, 4, none⟩ (.slice A4 c.ports.length c4)).setCell ⟨g, 5, none⟩ (.slice A5 c.chans.length c5))) (by simp only [mk9, h1, e6, ptr9]; go_simp) (hK _ _ ⟨((((((hE.1.setCell hgg _).setCell hgg _).setCell hgg _).setCell hgg _).setCell hgg _).setCell hgg _), hE.2.other (.inr (by omega)) _ (by simp)⟩ (Le9.sto (by omega) (by omega) e6 (((((((Store6.refl g w').step 0 _).step 1 _).step 2 _).step 3 _).step 4 _).step 5 _)) ⟨g, (upd_ne (by decide) _ _).trans e6, hgg, by simpa using b5⟩)
        | 7, ho =>
          cases ho
          have h6 := hp { on := 4, ground := .data } (by simp) rfl
          simp only [S9] at h6
          have h1 := hp { on := 1, ground := .data } (by simp) rfl
          simp only [S9] at h1
          obtain ⟨g, cs, e6, hgg, hbk, h7⟩ := h6
          obtain ⟨d0, d1, d2, d3, d4, d5, rfl⟩ := arr9 h7
          have y0 := hbk.cell 0
          have y1 := hbk.cell 1
          have y2 := hbk.cell 2
          have y3 := hbk.cell 3
          have y4 := hbk.cell 4
          have y5 := hbk.cell 5
          simp at y0 y1 y2 y3 y4 y5
          have hfr := hbk.frozen
          have hgl := hbk.lt
          have b0 := hbk.set_ 0 (.int .u64 c.frame)
          have b1 := b0.set_ 1 (.slice A1 c.parts.length c1)
          have b2 := b1.set_ 2 (.slice A2 c.wins.length c2)
          have b3 := b2.set_ 3 (.slice A3 c.regs.length c3)
          have b4 := b3.set_ 4 (.slice A4 c.ports.length c4)
          have b5 := b4.set_ 5 (.slice A5 c.chans.length c5)
          refine wp_skip (w' := ((((((w'.setCell ⟨g, 0, none⟩ (.int .u64 c.frame)).setCell ⟨g, 1, none⟩ (.slice A1 c.parts.length c1)).setCell ⟨g, 2, none⟩ (.slice A2 c.wins.length c2)).setCell ⟨g, 3, none⟩ (.slice A3 c.regs.length c3)).setCell ⟨g, 4, none⟩ (.slice A4 c.ports.length c4)).setCell ⟨g, 5, none⟩ (.slice A5 c.chans.length c5))) (by simp only [mk9, h1, e6, ptr9]; go_simp) (hK _ _ ⟨((((((hE.1.setCell hgg _).setCell hgg _).setCell hgg _).setCell hgg _).setCell hgg _).setCell hgg _), hE.2.other (.inr (by omega)) _ (by simp)⟩ (Le9.sto (by omega) (by omega) e6 (((((((Store6.refl g w').step 0 _).step 1 _).step 2 _).step 3 _).step 4 _).step 5 _)) ⟨g, (upd_ne (by decide) _ _).trans e6, hgg, by simpa using b5⟩)
        | 8, ho =>
          cases ho
          have h6 := hp { on := 5, ground := .data } (by simp) rfl
          simp only [S9] at h6
          have h1 := hp { on := 2, ground := .data } (by simp) rfl
          simp only [S9] at h1
          obtain ⟨g, cs, e6, hgg, hbk, h7⟩ := h6
          obtain ⟨d0, d1, d2, d3, d4, d5, rfl⟩ := arr9 h7
          have y0 := hbk.cell 0
          have y1 := hbk.cell 1
          have y2 := hbk.cell 2
          have y3 := hbk.cell 3
          have y4 := hbk.cell 4
          have y5 := hbk.cell 5
          simp at y0 y1 y2 y3 y4 y5
          have hfr := hbk.frozen
          have hgl := hbk.lt
          have b0 := hbk.set_ 0 (.int .u64 c.frame)
          have b1 := b0.set_ 1 (.slice A1 c.parts.length c1)
          have b2 := b1.set_ 2 (.slice A2 c.wins.length c2)
          have b3 := b2.set_ 3 (.slice A3 c.regs.length c3)
          have b4 := b3.set_ 4 (.slice A4 c.ports.length c4)
          have b5 := b4.set_ 5 (.slice A5 c.chans.length c5)
          refine wp_skip (w' := ((((((w'.setCell ⟨g, 0, none⟩ (.int .u64 c.frame)).setCell ⟨g, 1, none⟩ (.slice A1 c.parts.length c1)).setCell ⟨g, 2, none⟩ (.slice A2 c.wins.length c2)).setCell ⟨g, 3, none⟩ (.slice A3 c.regs.length c3)).setCell ⟨g, 4, none⟩ (.slice A4 c.ports.length c4)).setCell ⟨g, 5, none⟩ (.slice A5 c.chans.length c5))) (by simp only [mk9, h1, e6, ptr9]; go_simp) (hK _ _ ⟨((((((hE.1.setCell hgg _).setCell hgg _).setCell hgg _).setCell hgg _).setCell hgg _).setCell hgg _), hE.2.other (.inr (by omega)) _ (by simp)⟩ (Le9.sto (by omega) (by omega) e6 (((((((Store6.refl g w').step 0 _).step 1 _).step 2 _).step 3 _).step 4 _).step 5 _)) ⟨g, (upd_ne (by decide) _ _).trans e6, hgg, by simpa using b5⟩)
        | n + 9, ho => exact absurd ho (by simp)
      case hend =>
        intro u w5 hE hS
        have n0 := hS 6 (by simp)
        have n1 := hS 7 (by simp)
        have n2 := hS 8 (by simp)
        simp only [S9] at n0 n1 n2
        obtain ⟨ga, e6, hga, ka⟩ := n0
        obtain ⟨gb, e7, hgb, kb⟩ := n1
        obtain ⟨gd, e8, hgd, kd⟩ := n2
        have nab := hE.2.ne 3 4 ga gb (by omega) (by omega) (by omega) (by omega) (by omega) e6 e7
        have nad := hE.2.ne 3 5 ga gd (by omega) (by omega) (by omega) (by omega) (by omega) e6 e8
        have nbd := hE.2.ne 4 5 gb gd (by omega) (by omega) (by omega) (by omega) (by omega) e7 e8
        simp only [mk9, e6, e7, e8, ptr9]
        have a1 := ka.set_ 3 (.slice none 0 0)
        have b1 := kb.far (p := ⟨ga, 3, none⟩) (Ne.symm nab) (.slice none 0 0)
        have d1 := kd.far (p := ⟨ga, 3, none⟩) (Ne.symm nad) (.slice none 0 0)
        have a2 := a1.far (p := ⟨gb, 5, none⟩) nab (.slice none 0 0)
        have b2 := b1.set_ 5 (.slice none 0 0)
        have d2 := d1.far (p := ⟨gb, 5, none⟩) (Ne.symm nbd) (.slice none 0 0)
        have a3 := a2.far (p := ⟨gd, 4, none⟩) nad (.slice none 0 0)
        have b3 := b2.far (p := ⟨gd, 4, none⟩) nbd (.slice none 0 0)
        have d3 := d2.set_ 4 (.slice none 0 0)
        have a4 := a3.far (p := ⟨gd, 5, none⟩) nad (.slice none 0 0)
        have b4 := b3.far (p := ⟨gd, 5, none⟩) nbd (.slice none 0 0)
        have d4 := d3.set_ 5 (.slice none 0 0)
        have hba := (((hE.1.setCell (p := ⟨ga, 3, none⟩) hga (.slice none 0 0)).setCell (p := ⟨gb, 5, none⟩) hgb (.slice none 0 0)).setCell (p := ⟨gd, 4, none⟩) hgd (.slice none 0 0)).setCell (p := ⟨gd, 5, none⟩) hgd (.slice none 0 0)
        obtain ⟨W6, hW6⟩ : ∃ W, (((w5.setCell ⟨ga, 3, none⟩ (.slice none 0 0)).setCell ⟨gb, 5, none⟩ (.slice none 0 0)).setCell ⟨gd, 4, none⟩ (.slice none 0 0)).setCell ⟨gd, 5, none⟩ (.slice none 0 0) = W := ⟨_, rfl⟩
        have HW6 := Lib.hid hW6
        rw [hW6] at a4 b4 d4 hba
        simp at a4 b4 d4
        have HA := Lib.hid a4
        have HB := Lib.hid b4
        have HD := Lib.hid d4
        have ST6 := Lib.hid (ST2.out.up hba)
        have fa := ka.frozen
        have fb := kb.frozen
        have fd := kd.frozen
        have la := ka.lt
        have lb := kb.lt
        have ld := kd.lt
        have za := ka.cell 3
        have zb := kb.cell 5
        have zd := kd.cell 4
        have zd5 := kd.cell 5
        simp at za zb zd zd5
        clear hE hS e6 e7 e8 a1 a2 a3 a4 b1 b2 b3 b4 d1 d2 d3 d4 hba hW6 ka kb kd
        go_upto_region 7 with (fail)
        rw [HW6.out]
        clear HW6 fa fb fd la lb ld za zb zd zd5 nab nad nbd hga hgb hgd
        go_wp2_with fail
        refine (alive_ok _).mono ?_
        rintro e w7 ⟨rfl, hb7⟩
        have ST7 := Lib.hid (ST6.out.up hb7)
        have HA7 := Lib.hid (HA.out.below hb7 HA.out.lt)
        have HB7 := Lib.hid (HB.out.below hb7 HB.out.lt)
        have HD7 := Lib.hid (HD.out.below hb7 HD.out.lt)
        clear hb7
        have y0 := HA7.out.cell 0
        have y1 := HA7.out.cell 1
        have y2 := HA7.out.cell 2
        have y3 := HA7.out.cell 3
        have y4 := HA7.out.cell 4
        have y5 := HA7.out.cell 5
        have yl := HA7.out.lt
        simp at y0 y1 y2 y3 y4 y5
        go_wp2_with fail
        refine (vValid_ok (lessR c) A1 A2 none A4 A5 c1 c2 0 c4 c5 w7 (lessR_R ST7.out.R) (lessR_small HSM.out) (lessR_ok HOK.out) true VR).mono ?_
        rintro e w8 ⟨rfl, hb7⟩
        have ST8 := Lib.hid (ST7.out.up hb7)
        have HB8 := Lib.hid (HB7.out.below hb7 HB7.out.lt)
        have HD8 := Lib.hid (HD7.out.below hb7 HD7.out.lt)
        clear hb7 y0 y1 y2 y3 y4 y5 yl
        have y0 := HB8.out.cell 0
        have y1 := HB8.out.cell 1
        have y2 := HB8.out.cell 2
        have y3 := HB8.out.cell 3
        have y4 := HB8.out.cell 4
        have y5 := HB8.out.cell 5
        have yl := HB8.out.lt
        simp at y0 y1 y2 y3 y4 y5
        go_wp2_with fail
        refine (vValid_ok (lessC c) A1 A2 A3 A4 none c1 c2 c3 c4 0 w8 (lessC_R ST8.out.R) (lessC_small HSM.out) (lessC_ok HOK.out) true VC).mono ?_
        rintro e w9 ⟨rfl, hb7⟩
        have ST9 := Lib.hid (ST8.out.up hb7)
        have HD9 := Lib.hid (HD8.out.below hb7 HD8.out.lt)
        clear hb7 y0 y1 y2 y3 y4 y5 yl
        have y0 := HD9.out.cell 0
        have y1 := HD9.out.cell 1
        have y2 := HD9.out.cell 2
        have y3 := HD9.out.cell 3
        have y4 := HD9.out.cell 4
        have y5 := HD9.out.cell 5
        have yl := HD9.out.lt
        simp at y0 y1 y2 y3 y4 y5
        go_wp2_with fail
        refine (vValid_ok (lessP c) A1 A2 A3 none none c1 c2 c3 0 0 w9 (lessP_R ST9.out.R) (lessP_small HSM.out) (lessP_ok HOK.out) true VP).mono ?_
        rintro e w10 ⟨rfl, hb7⟩
        have ST10 := Lib.hid (ST9.out.up hb7)
        clear hb7 y0 y1 y2 y3 y4 y5 yl
        obtain ⟨x0, x1, x2, x3, x4, x5, hz⟩ := ST10.out.cells
        go_wp2_with fail
        refine (vValid_ok c _ _ _ _ _ _ _ _ _ _ _ ST10.out.R HSM.out HOK.out true H2).mono ?_
        rintro e w11 ⟨rfl, hb11⟩
        have HZ := Lib.hid (ST10.out.up hb11).bel
        clear hb11 x0 x1 x2 x3 x4 x5 hz
        go_wp2
        go_ret
        exact ⟨rfl, HZ.out⟩
end Go.Proofs.YtpedlbjbbcbbkaaGreat
