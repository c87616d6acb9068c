/-
  The walk of the law UniqOrder: it returns true, and nothing that was there turns.
-/
import Derived.Test.YtgkodbejnbfakaaRev
import Derived.Test.YtgkodbejnbfakaaOrd
import Derived.Deep.Cut
namespace Go.Proofs.Ytgkodbejnbfakaa
open Go.RowKit
attribute [local go_sem] ext_cell
section
variable (c : Cfg) (A1 A2 A3 A4 A5 : Option Addr) (c1 c2 c3 c4 c5 : Nat) (w : World) (hR : CfgR w w.heap.size c.rev A1 A2 A3 A4 A5 c1 c2 c3 c4 c5) (hs : c.small) (hok : c.ok)
include hR hs hok
theorem uPartitions_rv (F : Flt) (hF : ckParts c.rev = F) :
    Calls Try.prog 19 #[cfgV c.frame A1 A2 A3 A4 A5 c.parts.length c.wins.length c.regs.length c.ports.length c.chans.length c1 c2 c3 c4 c5] w fun e w' => e = .returned (fltV F) ∧ Below w.heap.size w w' := by
  have h := uPartitions_ck c.rev A1 A2 A3 A4 A5 c1 c2 c3 c4 c5 w hR (Cfg.rev_small hs) (Cfg.rev_ok hok)
  rw [show c.rev.parts.length = c.parts.length from List.length_reverse, show c.rev.ports.length = c.ports.length from List.length_reverse, show c.rev.chans.length = c.chans.length from List.length_reverse, hF] at h
  exact h
theorem uPorts_rv (F : Flt) (hF : ckPorts c.rev = F) :
    Calls Try.prog 22 #[cfgV c.frame A1 A2 A3 A4 A5 c.parts.length c.wins.length c.regs.length c.ports.length c.chans.length c1 c2 c3 c4 c5] w fun e w' => e = .returned (fltV F) ∧ Below w.heap.size w w' := by
  have h := uPorts_ck c.rev A1 A2 A3 A4 A5 c1 c2 c3 c4 c5 w hR (Cfg.rev_small hs) (Cfg.rev_ok hok)
  rw [show c.rev.parts.length = c.parts.length from List.length_reverse, show c.rev.ports.length = c.ports.length from List.length_reverse, show c.rev.chans.length = c.chans.length from List.length_reverse, hF] at h
  exact h
theorem uChannels_rv (F : Flt) (hF : ckChans c.rev = F) :
    Calls Try.prog 24 #[cfgV c.frame A1 A2 A3 A4 A5 c.parts.length c.wins.length c.regs.length c.ports.length c.chans.length c1 c2 c3 c4 c5] w fun e w' => e = .returned (fltV F) ∧ Below w.heap.size w w' := by
  have h := uChannels_ck c.rev A1 A2 A3 A4 A5 c1 c2 c3 c4 c5 w hR (Cfg.rev_small hs) (Cfg.rev_ok hok)
  rw [show c.rev.parts.length = c.parts.length from List.length_reverse, show c.rev.ports.length = c.ports.length from List.length_reverse, show c.rev.chans.length = c.chans.length from List.length_reverse, hF] at h
  exact h
end
set_option maxRecDepth 100000 in
set_option maxHeartbeats 4000000 in
theorem uniqOrder_yes (c : Cfg) (A1 A2 A3 A4 A5 : Option Addr) (c1 c2 c3 c4 c5 : Nat) (w : World) (hR : CfgR w w.heap.size c A1 A2 A3 A4 A5 c1 c2 c3 c4 c5) (hs : c.small) (hok : c.ok) (hf : few c = true) :
    Calls Try.prog 6 #[cfgV c.frame A1 A2 A3 A4 A5 c.parts.length c.wins.length c.regs.length c.ports.length c.chans.length c1 c2 c3 c4 c5] w fun e w' => e = .returned (.bool true) ∧ Below w.heap.size w w' := by
  have HR := Lib.hid hR
  have hct := (few_bound hf).1
  have hcl : c.total ≤ 4194304 := by omega
  have HB := Lib.hid ((Below.refl w.heap.size w).alloc (Nat.le_refl _) (.cells #[.int .u64 c.frame, .slice A1 c.parts.length c1, .slice A2 c.wins.length c2, .slice A3 c.regs.length c3, .slice A4 c.ports.length c4, .slice A5 c.chans.length c5] 29))
  clear hR
  go_enter Try.func6, Try.ntmps6
  go_wp2_with fail
  refine (few_ok c _ _ _ _ _ _ _ _ _ _ _ (HR.out.up HB.out) hs).mono ?_
  rintro e w1 ⟨rfl, hb1⟩
  have hbw := HB.out.trans (hb1.mono (by simp))
  obtain ⟨x0, x1, x2, x3, x4, x5, hz⟩ := boxCell w c A1 A2 A3 A4 A5 c1 c2 c3 c4 c5 _ (hb1.mono (by simp))
  have HB1 := Lib.hid (hb1.mono (show w.heap.size + 1 ≤ (w.alloc (.cells #[.int .u64 c.frame, .slice A1 c.parts.length c1, .slice A2 c.wins.length c2, .slice A3 c.regs.length c3, .slice A4 c.ports.length c4, .slice A5 c.chans.length c5] 29)).heap.size by simp))
  have HW := Lib.hid hbw
  clear hbw hb1
  go_wp2_with fail
  refine (clone_ok c _ _ _ _ _ _ _ _ _ _ _ (HR.out.up HW.out) hcl).mono ?_
  rintro e w2 ⟨B1, B2, B3, B4, B5, d1, d2, d3, d4, d5, rfl, hown, hb2⟩
  have hbx := HB1.out.trans (hb2.mono (by omega))
  have hs2 := hb2.size
  go_upto_region 4 with (fail)
  have hn := Blk.new w2 29 #[.int .u64 c.frame, .slice B1 c.parts.length d1, .slice B2 c.wins.length d2, .slice B3 c.regs.length d3, .slice B4 c.ports.length d4, .slice B5 c.chans.length d5]
  have hbn := (Below.refl w2.heap.size w2).alloc (Nat.le_refl _) (.cells #[.int .u64 c.frame, .slice B1 c.parts.length d1, .slice B2 c.wins.length d2, .slice B3 c.regs.length d3, .slice B4 c.ports.length d4, .slice B5 c.chans.length d5] 29)
  have own3 := hown.below hbn
  have hbx3 := hbx.trans (hbn.mono (by omega))
  generalize World.alloc w2 _ = W3 at hn hbn own3 hbx3 ⊢
  have p1 := hn.cell 1
  simp at p1
  have HO := Lib.hid own3
  have HN := Lib.hid hn
  have HX := Lib.hid hbx3
  clear own3 hn hbx3 hbx hown hbn hb2 x0 x1 x2 x3 x4 x5
  go_upto_region 5 with (go_at_call 29; refine (revParts_ok HO.out hcl).mono ?_; rintro e W4 ⟨rfl, own4, off4, hb4⟩)
  have hn4 := HN.out.off off4 (by decide)
  have hbx4 := HX.out.trans (hb4.mono (by omega))
  have p4 := hn4.cell 4
  simp at p4
  have HO4 := Lib.hid own4
  have HN4 := Lib.hid hn4
  have HX4 := Lib.hid hbx4
  clear own4 hn4 hbx4 hb4 off4 HO HN HX p1
  go_upto_region 6 with (go_at_call 30; refine (revPorts_ok HO4.out (by unfold Cfg.total at hcl ⊢; simpa using hcl)).mono ?_; rintro e W5 ⟨rfl, own5, off5, hb5⟩)
  have hn5 := HN4.out.off off5 (by decide)
  have hbx5 := HX4.out.trans (hb5.mono (by omega))
  have p5 := hn5.cell 5
  simp at p5
  have HO5 := Lib.hid own5
  have HN5 := Lib.hid hn5
  have HX5 := Lib.hid hbx5
  clear own5 hn5 hbx5 hb5 off5 HO4 HN4 HX4 p4
  go_upto_region 7 with (go_at_call 31; refine (revChans_ok HO5.out (by unfold Cfg.total at hcl ⊢; simpa using hcl)).mono ?_; rintro e W6 ⟨rfl, own6, off6, hb6⟩)
  have hn6 := HN5.out.off off6 (by decide)
  have hbx6 := HX5.out.trans (hb6.mono (by omega))
  have p0 := hn6.cell 0
  have p1 := hn6.cell 1
  have p2 := hn6.cell 2
  have p3 := hn6.cell 3
  have p4 := hn6.cell 4
  have p5 := hn6.cell 5
  simp at p0 p1 p2 p3 p4 p5
  have hlt := hn6.lt
  obtain ⟨x0, x1, x2, x3, x4, x5, hz6⟩ := boxCell w c A1 A2 A3 A4 A5 c1 c2 c3 c4 c5 _ hbx6
  have own7 : OwnCfg W6 w1.heap.size c.rev B1 B2 B3 B4 B5 d1 d2 d3 d4 d5 := own6
  have HV := Lib.hid own7.toR
  have HX6 := Lib.hid (HB.out.trans (hbx6.mono (by omega)))
  have HS := Lib.hid hs
  have HK := Lib.hid hok
  clear own7 own6 hn6 hbx6 hb6 off6 HO5 HN5 HX5 hs hok hct hcl
  rcases ord_parts c with ⟨h1, g1⟩ | ⟨k1, h1, g1⟩ <;> rcases ord_ports c with ⟨h2, g2⟩ | ⟨k2, h2, g2⟩ <;> rcases ord_chans c with ⟨h3, g3⟩ | ⟨k3, h3, g3⟩
  all_goals
    have H1 := Lib.hid h1
    have H2 := Lib.hid h2
    have H3 := Lib.hid h3
    clear h1 h2 h3
    refine wp_region_ext (by kernel_rfl) (by kernel_rfl) ?_
    try simp only [List.append]
    repeat (go_big_quiet_step ((first
      | (go_at_call 9; exact Calls.quiet_ext (alive_ok _))
      | (go_at_call 19; exact Calls.quiet_ext (uPartitions_rv c _ _ _ _ _ _ _ _ _ _ _ (HV.out.up (ext_below _ _)) HS.out HK.out _ H1.out))
      | (go_at_call 22; exact Calls.quiet_ext (uPorts_rv c _ _ _ _ _ _ _ _ _ _ _ (HV.out.up (ext_below _ _)) HS.out HK.out _ H2.out))
      | (go_at_call 24; exact Calls.quiet_ext (uChannels_rv c _ _ _ _ _ _ _ _ _ _ _ (HV.out.up (ext_below _ _)) HS.out HK.out _ H3.out))
      | (go_at_call 21; exact Calls.quiet_ext (rPartitions_ok c _ _ _ _ _ _ _ _ _ _ _ ((HR.out.up HX6.out).up (ext_below _ _)) HS.out))
      | (go_at_call 23; exact Calls.quiet_ext (rPorts_ok c _ _ _ _ _ _ _ _ _ _ _ ((HR.out.up HX6.out).up (ext_below _ _)) HS.out))
      | (go_at_call 25; exact Calls.quiet_ext (rChannels_ok c _ _ _ _ _ _ _ _ _ _ _ ((HR.out.up HX6.out).up (ext_below _ _)) HS.out)))))
    refine wpQuiet_nil ?_
    intro xq
    go_wp2
    go_ret
    exact ⟨rfl, HX6.out.trans ((ext_below _ _).mono HX6.out.size)⟩
theorem uniqOrder_ok (c : Cfg) (A1 A2 A3 A4 A5 : Option Addr) (c1 c2 c3 c4 c5 : Nat) (w : World) (hR : CfgR w w.heap.size c A1 A2 A3 A4 A5 c1 c2 c3 c4 c5) (hs : c.small) (hok : c.ok) :
    Calls Try.prog 6 #[cfgV c.frame A1 A2 A3 A4 A5 c.parts.length c.wins.length c.regs.length c.ports.length c.chans.length c1 c2 c3 c4 c5] w fun e w' => e = .returned (.bool true) ∧ Below w.heap.size w w' := by
  rcases few_cases c with hf | hf
  · exact uniqOrder_yes c A1 A2 A3 A4 A5 c1 c2 c3 c4 c5 w hR hs hok hf
  · have HB := Lib.hid ((Below.refl w.heap.size w).alloc (Nat.le_refl _) (.cells #[.int .u64 c.frame, .slice A1 c.parts.length c1, .slice A2 c.wins.length c2, .slice A3 c.regs.length c3, .slice A4 c.ports.length c4, .slice A5 c.chans.length c5] 29))
    have HR := Lib.hid hR
    clear hR
    go_enter Try.func6, Try.ntmps6
    go_wp2_with (go_at_call 8; refine (few_ok c _ _ _ _ _ _ _ _ _ _ _ (HR.out.up HB.out) hs).mono ?_; rintro e w1 ⟨rfl, hb1⟩)
    refine (alive_ok _).mono ?_
    rintro e w2 ⟨rfl, hb2⟩
    have HZ := Lib.hid ((HB.out.trans (hb1.mono (by simp))).trans (hb2.mono (HB.out.trans (hb1.mono (by simp))).size))
    clear hb1 hb2
    go_wp2
    go_ret
    exact ⟨rfl, HZ.out⟩
end Go.Proofs.Ytgkodbejnbfakaa
