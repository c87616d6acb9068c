/-
  The law MemoryOrder, walked.
-/
import Derived.Deep.DeepCutAuto
import Derived.Test.YtaakcpdpkcadjaaLaw17a
import Derived.Test.YtaakcpdpkcadjaaRevG
namespace Go.Proofs.Ytaakcpdpkcadjaa
open Go.RowKit Go.Lib
attribute [local go_sem] ext_cell
theorem regsAs_small {c : Cfg} (h : c.small) : (c.regsAs c.regs.reverse).small := by
  obtain ⟨h1, h2, h3⟩ := h
  refine ⟨?_, h2, h3⟩
  unfold Cfg.total at h1 ⊢
  simp only [Cfg.regsAs, List.length_reverse]
  exact h1
theorem regsAs_ok {c : Cfg} (h : c.ok) : (c.regsAs c.regs.reverse).ok := by
  obtain ⟨h0, h1, h2, h3, h4, h5⟩ := h
  exact ⟨h0, h1, h2, fun p hp => h3 p (by simpa [Cfg.regsAs] using hp), h4, h5⟩
/-- where the law stands: the configuration with its regions the other way round lies in the box g -/
structure OrdM (w W : World) (g : Nat) (c : Cfg) (A1 A2 A3 A4 A5 : Option Addr) (c1 c2 c3 c4 c5 : Nat) (B3 : Option Addr) (d3 : Nat) (b z m : Int) : Prop where
  st : St w W c A1 A2 A3 A4 A5 c1 c2 c3 c4 c5
  ax : AxBox W (w.heap.size + 1) b z m
  bk : Blk W g 29 #[.int .u64 c.frame, .slice A1 c.parts.length c1, .slice A2 c.wins.length c2, .slice B3 c.regs.length d3, .slice A4 c.ports.length c4, .slice A5 c.chans.length c5]
  rg : Rd W W.heap.size 5 B3 c.regs.length (c.regs.reverse.flatMap Reg.cells)
  cap : c.regs.length ≤ d3 ∧ d3 ≤ maxLen
section
variable {w W V : World} {g : Nat} {c : Cfg} {A1 A2 A3 A4 A5 B3 : Option Addr} {c1 c2 c3 c4 c5 d3 : Nat} {b z m : Int}
theorem OrdM.up (h : OrdM w W g c A1 A2 A3 A4 A5 c1 c2 c3 c4 c5 B3 d3 b z m) (hb : Below W.heap.size W V) : OrdM w V g c A1 A2 A3 A4 A5 c1 c2 c3 c4 c5 B3 d3 b z m :=
  ⟨h.st.up hb, h.ax.up hb, h.bk.below hb h.bk.lt, h.rg.up hb, h.cap⟩
theorem OrdM.toR (h : OrdM w W g c A1 A2 A3 A4 A5 c1 c2 c3 c4 c5 B3 d3 b z m) : CfgR W W.heap.size (c.regsAs c.regs.reverse) A1 A2 B3 A4 A5 c1 c2 d3 c4 c5 := by
  have R := h.st.R
  have hp : (c.regsAs c.regs.reverse).regs.length = c.regs.length := by simp [Cfg.regsAs]
  exact ⟨R.parts, R.wins, by rw [hp]; exact h.rg, R.ports, R.chans, R.cap1, R.cap2, by rw [hp]; exact h.cap, R.cap4, R.cap5⟩
theorem OrdM.y (h : OrdM w W g c A1 A2 A3 A4 A5 c1 c2 c3 c4 c5 B3 d3 b z m) : W.cell? ⟨g, 0, none⟩ = some (.int .u64 c.frame) ∧ W.cell? ⟨g, 1, none⟩ = some (.slice A1 c.parts.length c1) ∧ W.cell? ⟨g, 2, none⟩ = some (.slice A2 c.wins.length c2) ∧
    W.cell? ⟨g, 3, none⟩ = some (.slice B3 c.regs.length d3) ∧ W.cell? ⟨g, 4, none⟩ = some (.slice A4 c.ports.length c4) ∧ W.cell? ⟨g, 5, none⟩ = some (.slice A5 c.chans.length c5) ∧ g < W.heap.size := by
  refine ⟨?_, ?_, ?_, ?_, ?_, ?_, h.bk.lt⟩
  · have := h.bk.cell 0; simpa using this
  · have := h.bk.cell 1; simpa using this
  · have := h.bk.cell 2; simpa using this
  · have := h.bk.cell 3; simpa using this
  · have := h.bk.cell 4; simpa using this
  · have := h.bk.cell 5; simpa using this
end
theorem memCheck_turn (c : Cfg) (A1 A2 A3 A4 A5 : Option Addr) (c1 c2 c3 c4 c5 : Nat) (w : World) (hR : CfgR w w.heap.size c A1 A2 A3 A4 A5 c1 c2 c3 c4 c5) (hs : c.small) (hok : c.ok) (B3 : Option Addr) (d3 : Nat) (hR' : CfgR w w.heap.size (c.regsAs c.regs.reverse) A1 A2 B3 A4 A5 c1 c2 d3 c4 c5) (v : Flt) (hv : Hid (memFlt (c.regsAs c.regs.reverse) = v)) : Calls Try.prog 11 #[cfgV c.frame A1 A2 B3 A4 A5 c.parts.length c.wins.length c.regs.length c.ports.length c.chans.length c1 c2 d3 c4 c5] w fun e w' => e = .returned (fltV v) ∧ Below w.heap.size w w' := by
  have h := memCheck_val (c.regsAs c.regs.reverse) A1 A2 B3 A4 A5 c1 c2 d3 c4 c5 w hR' (regsAs_small hs) (regsAs_ok hok) v hv
  rw [show (c.regsAs c.regs.reverse).regs.length = c.regs.length by simp [Cfg.regsAs]] at h
  exact h
theorem memAllowed_turn (c : Cfg) (A1 A2 A3 A4 A5 : Option Addr) (c1 c2 c3 c4 c5 : Nat) (w : World) (hR : CfgR w w.heap.size c A1 A2 A3 A4 A5 c1 c2 c3 c4 c5) (hs : c.small) (hok : c.ok) (B3 : Option Addr) (d3 : Nat) (hR' : CfgR w w.heap.size (c.regsAs c.regs.reverse) A1 A2 B3 A4 A5 c1 c2 d3 c4 c5) (p m b z : Int) (hb : wU64 b) (hz : wU64 z) (v : Bool) (hv : Hid (allowB b z (covB (ofL c p m) b z) = v)) :
    Calls Try.prog 16 #[cfgV c.frame A1 A2 B3 A4 A5 c.parts.length c.wins.length c.regs.length c.ports.length c.chans.length c1 c2 d3 c4 c5, .int .u16 p, .int .u64 b, .int .u64 z, .int .u8 m] w fun e w' => e = .returned (.bool v) ∧ Below w.heap.size w w' := by
  have h := memAllowed_val (c.regsAs c.regs.reverse) A1 A2 B3 A4 A5 c1 c2 d3 c4 c5 w hR' (regsAs_small hs) (regsAs_ok hok) p m b z hb hz v (Lib.hid (by rw [ofL_rev, covB_rev]; exact hv.out))
  rw [show (c.regsAs c.regs.reverse).regs.length = c.regs.length by simp [Cfg.regsAs]] at h
  exact h
theorem memFlt_turn {c : Cfg} : (rightM c = true ∧ memFlt (c.regsAs c.regs.reverse) = ⟨0, 0, 0⟩) ∨ (rightM c = false ∧ ∃ e i, e ≠ 0 ∧ memFlt (c.regsAs c.regs.reverse) = ⟨e, 3, i⟩) := by
  have h := rightM_rev (c := c)
  unfold memFlt
  unfold rightM at h ⊢
  by_cases h1 : (memBad (c.regsAs c.regs.reverse)).1 = 0
  · rw [decide_eq_true h1] at h
    exact .inl ⟨h.symm, by rw [if_pos h1]; rfl⟩
  · rw [decide_eq_false h1] at h
    exact .inr ⟨h.symm, _, _, h1, by rw [if_neg h1]⟩
set_option maxRecDepth 100000 in
set_option maxHeartbeats 8000000 in
theorem memoryOrder_ok (c : Cfg) (A1 A2 A3 A4 A5 : Option Addr) (c1 c2 c3 c4 c5 : Nat) (w : World) (hR : CfgR w w.heap.size c A1 A2 A3 A4 A5 c1 c2 c3 c4 c5) (hs : c.small) (hok : c.ok) (p b z m : Int) (hb : wU64 b) (hzz : wU64 z) : Calls Try.prog 7 #[cfgV c.frame A1 A2 A3 A4 A5 c.parts.length c.wins.length c.regs.length c.ports.length c.chans.length c1 c2 c3 c4 c5, .int .u16 p, .agg #[.int .u64 b, .int .u64 z, .int .u8 m]] w fun e w' => e = .returned (.bool true) ∧ Below w.heap.size w w' := by
  obtain ⟨W0, hW, st⟩ := St.start_any hR 29
  have HW := Lib.hid hW
  obtain ⟨W1, hW1, ax, hb1⟩ := AxBox.new W0 b z m 46
  have HW1 := Lib.hid hW1
  have ST0 := Lib.hid (st.up hb1)
  have e0 : W0.heap.size = w.heap.size + 1 := by rw [← hW]; simp
  rw [e0] at ax
  have AX0 := Lib.hid ax
  have HOK := Lib.hid hok
  have hbd := hs.bd
  have br := hbd.r
  obtain ⟨ir, hir, hr0, hr1, hr2⟩ := info_parts infoRegion
  obtain ⟨x0, x1, x2, x3, x4, x5, hz⟩ := (st.up hb1).cells
  clear hR hW st hok hb1 hW1 ax hbd e0
  rcases bool_cases (few c) with h1 | h1
  · have H1 := Lib.hid h1
    clear h1
    go_enter Try.func7, Try.ntmps7
    go_upto_region 1 with (fail)
    rw [HW.out, HW1.out]
    go_wp2_with fail
    refine (few_valM c _ _ _ _ _ _ _ _ _ _ _ ST0.out.R hs true H1).mono ?_
    rintro e w1 ⟨rfl, hb1⟩
    have ST1 := Lib.hid (ST0.out.up hb1)
    have AX1 := Lib.hid (AX0.out.up hb1)
    clear hb1 x0 x1 x2 x3 x4 x5 hz
    obtain ⟨x0, x1, x2, x3, x4, x5, hz⟩ := ST1.out.cells
    go_upto_region 4 with (fail)
    have bk := Blk.new w1 29 #[.int .u64 c.frame, .slice A1 c.parts.length c1, .slice A2 c.wins.length c2, .slice A3 c.regs.length c3, .slice A4 c.ports.length c4, .slice A5 c.chans.length c5]
    have hbn := below_one w1 (.cells #[.int .u64 c.frame, .slice A1 c.parts.length c1, .slice A2 c.wins.length c2, .slice A3 c.regs.length c3, .slice A4 c.ports.length c4, .slice A5 c.chans.length c5] 29)
    have hz2 : (w1.alloc (.cells #[.int .u64 c.frame, .slice A1 c.parts.length c1, .slice A2 c.wins.length c2, .slice A3 c.regs.length c3, .slice A4 c.ports.length c4, .slice A5 c.chans.length c5] 29)).heap.size = w1.heap.size + 1 := by simp
    generalize World.alloc w1 _ = W2 at bk hbn hz2 ⊢
    have ST2 := Lib.hid (ST1.out.up hbn)
    have AX2 := Lib.hid (AX1.out.up hbn)
    have BK := Lib.hid bk
    have HZ2 := Lib.hid hz2
    have HO := Lib.hid (World.ownsRow_made (base := W2.heap.size) (e := 43) (size := 5) W2 #[] 0 (Nat.le_refl _) (Nat.zero_le _) rfl)
    clear hbn hz2 bk x0 x1 x2 x3 x4 x5 hz
    obtain ⟨x0, x1, x2, x3, x4, x5, hz⟩ := ST2.out.cells
    go_upto_region 5 with (at_builtin; go_loud (refine wpList_append_rd _ rfl (.tmp 14) (.tmp 16) _ rfl W2.heap.size 43 ir (.agg #[.int .u64 0, .int .u64 0, .int .u16 0, .int .u8 0, .bool false]) 5 24 Try.underlying25 hir hr0 hr1 hr2 rfl (by decide) _ _ _ rfl HO.out (W2.alloc (.cells #[] 43)).heap.size A3 c.regs.length c3 _ rfl (ST2.out.R.regs.up (below_one _ _)) (oneReg _) (by unfold maxLen; omega) (by omega) (by simp) ?_); intro nv4 V4 hown hg; have hb3 := below_own (below_one W2 (.cells #[] 43)) hg HO.out (by simp); have hbk := BK.out.below hb3 (by have := BK.out.lt; omega); have cc := hbk.cell 3; have ff := hbk.frozen 3; simp at cc; rw [Nat.zero_add, List.nil_append] at hown; obtain ⟨B3, d3, rfl, _⟩ := own_form hown)
    have hgz : w.heap.size < w1.heap.size := ST1.out.z
    have hgz2 : w.heap.size + 1 < w1.heap.size := AX1.out.gl
    have bk4 := hbk.set_ 3 (.slice B3 c.regs.length d3)
    simp at bk4
    have hbs := (Below.refl (w.heap.size + 1) V4).setCell (p := ⟨w1.heap.size, 3, none⟩) (by show w.heap.size + 1 ≤ w1.heap.size; omega) (.slice B3 c.regs.length d3)
    have st4 := (ST2.out.up hb3).keep hbs
    have hbs2 := (Below.refl w1.heap.size V4).setCell (p := ⟨w1.heap.size, 3, none⟩) (Nat.le_refl _) (.slice B3 c.regs.length d3)
    have q : ∀ j, (V4.setCell ⟨w1.heap.size, 3, none⟩ (.slice B3 c.regs.length d3)).cell? ⟨w.heap.size + 1, j, none⟩ = V4.cell? ⟨w.heap.size + 1, j, none⟩ := fun j => hbs2.cell (p := ⟨w.heap.size + 1, j, none⟩) hgz2
    have ax4 := AX2.out.up hb3
    have ax5 : AxBox (V4.setCell ⟨w1.heap.size, 3, none⟩ (.slice B3 c.regs.length d3)) (w.heap.size + 1) b z m := ⟨(q 0).trans ax4.p0, (q 1).trans ax4.p1, (q 2).trans ax4.p2, Nat.lt_of_lt_of_le ax4.gl hbs2.size⟩
    have o4 := own_set hown (p := ⟨w1.heap.size, 3, none⟩) (by show w1.heap.size < W2.heap.size; have := HZ2.out; omega) (.slice B3 c.regs.length d3)
    rw [HZ2.out] at o4
    clear hown hg hb3 hbk cc ff x0 x1 x2 x3 x4 x5 hz hbs hbs2 q ax4
    generalize World.setCell V4 _ _ = X4 at bk4 st4 o4 ax5 ⊢
    have q4 := bk4.cell 3
    simp at q4
    have BK4 := Lib.hid bk4
    have ST4 := Lib.hid st4
    have O4 := Lib.hid o4
    have AX4 := Lib.hid ax5
    clear bk4 st4 o4 ax5
    go_upto_region 6 with (go_at_call 18; refine (revReg_own O4.out (by omega)).mono ?_; rintro e X5 ⟨rfl, o5, off5, hb5⟩)
    have bk5 := BK4.out.off off5 (by decide)
    have st5 := ST4.out.keep (hb5.mono (by omega))
    have ax5 : AxBox X5 (w.heap.size + 1) b z m := by
      have q : ∀ j, X5.cell? ⟨w.heap.size + 1, j, none⟩ = X4.cell? ⟨w.heap.size + 1, j, none⟩ := fun j => hb5.cell (p := ⟨w.heap.size + 1, j, none⟩) (by show w.heap.size + 1 < w1.heap.size + 1; omega)
      exact ⟨(q 0).trans AX4.out.p0, (q 1).trans AX4.out.p1, (q 2).trans AX4.out.p2, Nat.lt_of_lt_of_le AX4.out.gl hb5.size⟩
    obtain ⟨hcap, hrd⟩ := own_slice o5
    have OM5 := Lib.hid (show OrdM w X5 w1.heap.size c A1 A2 A3 A4 A5 c1 c2 c3 c4 c5 B3 d3 b z m from ⟨st5, ax5, bk5, hrd, hcap⟩)
    clear q4 bk5 st5 o5 off5 hb5 ax5 hcap hrd
    obtain ⟨y0, y1, y2, y3, y4, y5, gy⟩ := OM5.out.y
    rcases memFlt_turn (c := c) with ⟨hr, hf⟩ | ⟨hr, ec, i, he, hf⟩
    · have HR := Lib.hid hr
      have HF := Lib.hid hf
      have HSP := Lib.hid (rightM_sp HOK.out hr)
      obtain ⟨v, hv⟩ : ∃ v, allowB b z (covB (ofL c p m) b z) = v := ⟨_, rfl⟩
      have HV := Lib.hid hv
      clear hr hf hv
      go_wp2_with fail
      refine (memCheck_turn c _ _ _ _ _ _ _ _ _ _ _ OM5.out.st.R hs HOK.out B3 d3 OM5.out.toR _ HF).mono ?_
      rintro e0 w6 ⟨rfl, hb6⟩
      have OM6 := Lib.hid (OM5.out.up hb6)
      clear hb6 y0 y1 y2 y3 y4 y5 gy
      obtain ⟨x0, x1, x2, x3, x4, x5, hz⟩ := OM6.out.st.cells
      go_wp2_with fail
      refine (rMemRight_ok c _ _ _ _ _ _ _ _ _ _ _ OM6.out.st.R hs HOK.out true HR).mono ?_
      rintro e0 w7 ⟨rfl, hb7⟩
      have OM7 := Lib.hid (OM6.out.up hb7)
      clear hb7 x0 x1 x2 x3 x4 x5 hz
      obtain ⟨x0, x1, x2, x3, x4, x5, hz⟩ := OM7.out.st.cells
      obtain ⟨y0, y1, y2, y3, y4, y5, gy⟩ := OM7.out.y
      obtain ⟨p0, p1, p2, gl⟩ := OM7.out.ax
      go_upto_region 9 with (fail)
      refine wp_region_ext (by kernel_rfl) (by kernel_rfl) ?_
      repeat (go_big_quiet_step ((first
        | (go_at_call 9; exact Calls.quiet_ext (alive_ok _))
        | (go_at_call 16; exact Calls.quiet_ext (memAllowed_turn c _ _ _ _ _ _ _ _ _ _ _ (OM7.out.up (ext_below _ _)).st.R hs HOK.out B3 d3 (OM7.out.up (ext_below _ _)).toR p m b z hb hzz v HV))
        | (go_at_call 17; exact Calls.quiet_ext (rAllowed_val c _ _ _ _ _ _ _ _ _ _ _ (OM7.out.st.ext _).R hs HSP.out p m b z hb hzz v HV)))))
      refine wpQuiet_nil ?_
      intro xq
      have HZ := Lib.hid (OM7.out.st.ext xq).bel
      clear p0 p1 p2 x0 x1 x2 x3 x4 x5 hz y0 y1 y2 y3 y4 y5 gy
      go_wp2
      go_ret
      exact ⟨by simp, HZ.out⟩
    · have HR := Lib.hid hr
      have HF := Lib.hid hf
      have dec1 : decide (ec = 0) = false := decide_eq_false he
      have dec2 : (ec == 0) = false := by simpa using he
      clear hr hf
      go_wp2_with fail
      refine (memCheck_turn c _ _ _ _ _ _ _ _ _ _ _ OM5.out.st.R hs HOK.out B3 d3 OM5.out.toR _ HF).mono ?_
      rintro e0 w6 ⟨rfl, hb6⟩
      have OM6 := Lib.hid (OM5.out.up hb6)
      clear hb6 y0 y1 y2 y3 y4 y5 gy
      obtain ⟨x0, x1, x2, x3, x4, x5, hz⟩ := OM6.out.st.cells
      go_wp2_with fail
      refine (rMemRight_ok c _ _ _ _ _ _ _ _ _ _ _ OM6.out.st.R hs HOK.out false HR).mono ?_
      rintro e0 w7 ⟨rfl, hb7⟩
      have OM7 := Lib.hid (OM6.out.up hb7)
      clear hb7 x0 x1 x2 x3 x4 x5 hz
      obtain ⟨x0, x1, x2, x3, x4, x5, hz⟩ := OM7.out.st.cells
      obtain ⟨y0, y1, y2, y3, y4, y5, gy⟩ := OM7.out.y
      obtain ⟨p0, p1, p2, gl⟩ := OM7.out.ax
      go_upto_region 9 with (fail)
      refine wp_region_ext (by kernel_rfl) (by kernel_rfl) ?_
      repeat (go_big_quiet_step ((go_at_call 9; exact Calls.quiet_ext (alive_ok _))))
      refine wpQuiet_nil ?_
      intro xq
      have HZ := Lib.hid (OM7.out.st.ext xq).bel
      clear p0 p1 p2 x0 x1 x2 x3 x4 x5 hz y0 y1 y2 y3 y4 y5 gy
      go_wp2
      go_ret
      exact ⟨rfl, HZ.out⟩
  · have H1 := Lib.hid h1
    clear h1
    go_enter Try.func7, Try.ntmps7
    go_upto_region 1 with (fail)
    rw [HW.out, HW1.out]
    go_wp2_with fail
    refine (few_valM c _ _ _ _ _ _ _ _ _ _ _ ST0.out.R hs false H1).mono ?_
    rintro e w1 ⟨rfl, hb1⟩
    have HB1 := Lib.hid (ST0.out.up hb1).bel
    clear hb1 x0 x1 x2 x3 x4 x5 hz
    go_wp2_with fail
    refine (alive_ok _).mono ?_
    rintro e w2 ⟨rfl, hb2⟩
    have HZ := Lib.hid (Below.then_ HB1.out hb2)
    clear hb2
    go_wp2
    go_ret
    exact ⟨rfl, HZ.out⟩
end Go.Proofs.Ytaakcpdpkcadjaa
