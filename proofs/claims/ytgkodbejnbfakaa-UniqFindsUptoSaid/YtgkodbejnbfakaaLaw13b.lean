/-
  The walk of the law UniqFinds: it returns true, and nothing that was there turns.
-/
import Derived.Test.YtgkodbejnbfakaaLaw13a
import Derived.Test.YtgkodbejnbfakaaPlain
import Derived.Deep.Cut
namespace Go.Proofs.Ytgkodbejnbfakaa
open Go.RowKit
attribute [local go_sem] ext_cell
theorem IdxAt.ext {w : World} {g : Nat} {c : Cfg} (h : IdxAt w w.heap.size g c) (x : Ext w) : IdxAt (ext w x) (ext w x).heap.size g c := h.up (ext_below _ _)
theorem CfgR.ext {w : World} {c : Cfg} {A1 A2 A3 A4 A5 : Option Addr} {c1 c2 c3 c4 c5 : Nat} (h : CfgR w w.heap.size c A1 A2 A3 A4 A5 c1 c2 c3 c4 c5) (x : Ext w) : CfgR (ext w x) (ext w x).heap.size c A1 A2 A3 A4 A5 c1 c2 c3 c4 c5 := h.up (ext_below _ _)
set_option maxRecDepth 100000 in
set_option maxHeartbeats 4000000 in
theorem uniqFinds_yes (c : Cfg) (A1 A2 A3 A4 A5 : Option Addr) (c1 c2 c3 c4 c5 : Nat) (w : World) (hR : CfgR w w.heap.size c A1 A2 A3 A4 A5 c1 c2 c3 c4 c5) (hs : c.small) (hok : c.ok) (id : Int) (hid : wU16 id) (s : ByteArray) (hlen : s.size ≤ 100) (hf : few c = true) :
    Calls Try.prog 3 #[cfgV c.frame A1 A2 A3 A4 A5 c.parts.length c.wins.length c.regs.length c.ports.length c.chans.length c1 c2 c3 c4 c5, .int .u16 id, .string s] w fun e w' => e = .returned (.bool true) ∧ Below w.heap.size w w' := by
  have HR := Lib.hid hR
  have HB := Lib.hid ((Below.refl w.heap.size w).alloc (Nat.le_refl _) (.cells #[.int .u64 c.frame, .slice A1 c.parts.length c1, .slice A2 c.wins.length c2, .slice A3 c.regs.length c3, .slice A4 c.ports.length c4, .slice A5 c.chans.length c5] 29))
  have ht : c.total ≤ 1048576 := hs.total
  have bb : c.ports.length ≤ 1048576 := by unfold Cfg.total at ht; omega
  have hsl : s.size ≤ maxLen := by unfold maxLen; omega
  clear hR ht
  go_enter Try.func3, Try.ntmps3
  go_wp2_with fail
  refine (few_ok c _ _ _ _ _ _ _ _ _ _ _ (HR.out.up HB.out) hs).mono ?_
  rintro e w1 ⟨rfl, hb1⟩
  have hbw := HB.out.trans (hb1.mono (by simp))
  obtain ⟨x0, x1, x2, x3, x4, x5, hz⟩ := boxCell w c A1 A2 A3 A4 A5 c1 c2 c3 c4 c5 _ (hb1.mono (by simp))
  have HB1 := Lib.hid (hb1.mono (show w.heap.size + 1 ≤ (w.alloc (.cells #[.int .u64 c.frame, .slice A1 c.parts.length c1, .slice A2 c.wins.length c2, .slice A3 c.regs.length c3, .slice A4 c.ports.length c4, .slice A5 c.chans.length c5] 29)).heap.size by simp))
  have HW := Lib.hid hbw
  clear hbw hb1
  go_wp2_with fail
  refine (new_ok c _ _ _ _ _ _ _ _ _ _ _ (HR.out.up HW.out) hs hok).mono ?_
  rintro e w2 ⟨g, rfl, hg1, hI, hb2⟩
  have hbw := HW.out.trans (hb2.mono HW.out.size)
  have hbx : Below (w.heap.size + 1) (w.alloc (.cells #[.int .u64 c.frame, .slice A1 c.parts.length c1, .slice A2 c.wins.length c2, .slice A3 c.regs.length c3, .slice A4 c.ports.length c4, .slice A5 c.chans.length c5] 29)) w2 := HB1.out.trans (hb2.mono (by omega))
  clear x0 x1 x2 x3 x4 x5 hz
  obtain ⟨x0, x1, x2, x3, x4, x5, hz⟩ := boxCell w c A1 A2 A3 A4 A5 c1 c2 c3 c4 c5 _ hbx
  have HX := Lib.hid hbx
  have HW2 := Lib.hid hbw
  have HI := Lib.hid hI
  clear hbw hbx hb2 hI
  go_wp2
  clear x0 x1 x2 x3 x4 x5 hz
  go_loopw [27] (fun i wr => ∃ k : Nat, k ≤ c.ports.length ∧ i = .int .i64 k ∧ Hid (Below w2.heap.size w2 wr)) (fun i _ => c.ports.length - (intOf i).toNat)
  case atStart => exact ⟨0, Nat.zero_le _, rfl, Lib.hid (Below.refl _ _)⟩
  case round =>
    obtain ⟨k, hk, rfl, hbr⟩ := hrel
    have hsz := hbr.out.size
    obtain ⟨x0, x1, x2, x3, x4, x5, hz⟩ := boxCell w c A1 A2 A3 A4 A5 c1 c2 c3 c4 c5 _ (HX.out.trans (hbr.out.mono (Nat.le_trans (by simp) HX.out.size)))
    by_cases hlt : k < c.ports.length
    · obtain ⟨x, hx⟩ := get_lt hlt
      have hPr := (HR.out.up HW2.out |>.up hbr.out).ports
      obtain ⟨b, o, rfl, hb, g0, g1, g2, g3, g4, g5⟩ := prt_at hPr hx
      have hxm := List.mem_of_getElem? hx
      have hxp := (hok.ports x hxm).part
      have hxn := (hok.ports x hxm).name
      clear hx hPr hxm
      go_upto_region 9 with (fail)
      have hbe : Below wr.heap.size wr (wr.alloc (.cells #[.int .u16 x.id, .int .u16 x.part, .string x.name, .bool x.output, .bool x.queuing, .int .u32 x.size] 37)) := (Below.refl _ _).alloc (Nat.le_refl _) _
      have HI2 := Lib.hid ((HI.out.up hbr.out).up hbe)
      have HR2 := Lib.hid ((HR.out.up HW2.out |>.up hbr.out).up hbe)
      have HE := Lib.hid hbe
      clear hbe
      have hz' : w.heap.size < wr.heap.size + 1 := by omega
      refine wp_region_ext (by kernel_rfl) (by kernel_rfl) ?_
      repeat (go_big_quiet_step ((first
      | (go_at_call_of 11 x.part; exact Calls.quiet_ext (iNamed_ok c g x.part x.name _ (HI2.out.ext _) hxp hxn))
      | (go_at_call 11; exact Calls.quiet_ext (iNamed_ok c g id x.name _ (HI2.out.ext _) hid hxn))
      | (go_at_call_of 12 x.part; exact Calls.quiet_ext (rNamed_ok c _ _ _ _ _ _ _ _ _ _ _ (HR2.out.ext _) hs x.part x.name))
      | (go_at_call 12; exact Calls.quiet_ext (rNamed_ok c _ _ _ _ _ _ _ _ _ _ _ (HR2.out.ext _) hs id x.name)))))
      refine wpQuiet_nil ?_
      intro xq
      go_wp2
      go_roundw
      case rel => exact ⟨k + 1, by omega, by go_num, Lib.hid ((hbr.out.trans (HE.out.mono hsz)).trans ((ext_below _ _).mono (Nat.le_trans hsz HE.out.size)))⟩
      case measure => simp [intOf]; omega
    · obtain rfl : k = c.ports.length := by omega
      go_upto_region 13 with (fail)
      have HI2 := Lib.hid (HI.out.up hbr.out)
      have HR2 := Lib.hid (HR.out.up HW2.out |>.up hbr.out)
      refine wp_region_ext (by kernel_rfl) (by kernel_rfl) ?_
      simp only [List.append]
      repeat (go_big_quiet_step ((first
      | (go_at_call 9; exact Calls.quiet_ext (alive_ok _))
      | (go_at_call_of 13 g; exact Calls.quiet_ext (iPartition_ok c g id _ (HI2.out.ext _) hid))
      | (go_at_call 13; exact Calls.quiet_ext (iPartition_nil id _))
      | (go_at_call_of 15 g; exact Calls.quiet_ext (iPort_ok c g id _ (HI2.out.ext _) hid))
      | (go_at_call 15; exact Calls.quiet_ext (iPort_nil id _))
      | (go_at_call_of 17 g; exact Calls.quiet_ext (iChannel_ok c g id _ (HI2.out.ext _) hid))
      | (go_at_call 17; exact Calls.quiet_ext (iChannel_nil id _))
      | (go_at_call_of 11 g; exact Calls.quiet_ext (iNamed_ok c g id s _ (HI2.out.ext _) hid hsl))
      | (go_at_call 11; exact Calls.quiet_ext (iNamed_nil id s _))
      | (go_at_call 14; exact Calls.quiet_ext (rPartition_ok c _ _ _ _ _ _ _ _ _ _ _ (HR2.out.ext _) hs id))
      | (go_at_call 16; exact Calls.quiet_ext (rPort_ok c _ _ _ _ _ _ _ _ _ _ _ (HR2.out.ext _) hs id))
      | (go_at_call 18; exact Calls.quiet_ext (rChannel_ok c _ _ _ _ _ _ _ _ _ _ _ (HR2.out.ext _) hs id))
      | (go_at_call 12; exact Calls.quiet_ext (rNamed_ok c _ _ _ _ _ _ _ _ _ _ _ (HR2.out.ext _) hs id s)))))
      refine wpQuiet_nil ?_
      intro xq
      go_wp2
      go_ret
      exact ⟨rfl, (HW2.out.trans (hbr.out.mono HW2.out.size)).trans ((ext_below _ _).mono (HW2.out.trans (hbr.out.mono HW2.out.size)).size)⟩
set_option maxRecDepth 100000 in
set_option maxHeartbeats 1000000 in
theorem uniqFinds_few (c : Cfg) (A1 A2 A3 A4 A5 : Option Addr) (c1 c2 c3 c4 c5 : Nat) (w : World) (hR : CfgR w w.heap.size c A1 A2 A3 A4 A5 c1 c2 c3 c4 c5) (hs : c.small) (id : Int) (s : ByteArray) (hf : few c = false) :
    Calls Try.prog 3 #[cfgV c.frame A1 A2 A3 A4 A5 c.parts.length c.wins.length c.regs.length c.ports.length c.chans.length c1 c2 c3 c4 c5, .int .u16 id, .string s] w fun e w' => e = .returned (.bool true) ∧ Below w.heap.size w w' := by
  have HB := Lib.hid ((Below.refl w.heap.size w).alloc (Nat.le_refl _) (.cells #[.int .u64 c.frame, .slice A1 c.parts.length c1, .slice A2 c.wins.length c2, .slice A3 c.regs.length c3, .slice A4 c.ports.length c4, .slice A5 c.chans.length c5] 29))
  have HR := Lib.hid hR
  clear hR
  go_enter Try.func3, Try.ntmps3
  go_wp2_with (go_at_call 8; refine (few_ok c _ _ _ _ _ _ _ _ _ _ _ (HR.out.up HB.out) hs).mono ?_; rintro e w1 ⟨rfl, hb1⟩)
  refine (alive_ok _).mono ?_
  rintro e w2 ⟨rfl, hb2⟩
  have HZ := Lib.hid ((HB.out.trans (hb1.mono (by simp))).trans (hb2.mono (HB.out.trans (hb1.mono (by simp))).size))
  clear hb1 hb2
  go_wp2
  go_ret
  exact ⟨rfl, HZ.out⟩
set_option maxRecDepth 100000 in
set_option maxHeartbeats 1000000 in
theorem uniqFinds_long (c : Cfg) (A1 A2 A3 A4 A5 : Option Addr) (c1 c2 c3 c4 c5 : Nat) (w : World) (hR : CfgR w w.heap.size c A1 A2 A3 A4 A5 c1 c2 c3 c4 c5) (hs : c.small) (id : Int) (s : ByteArray) (hf : few c = true) (hl : 100 < s.size) :
    Calls Try.prog 3 #[cfgV c.frame A1 A2 A3 A4 A5 c.parts.length c.wins.length c.regs.length c.ports.length c.chans.length c1 c2 c3 c4 c5, .int .u16 id, .string s] w fun e w' => e = .returned (.bool true) ∧ Below w.heap.size w w' := by
  have HB := Lib.hid ((Below.refl w.heap.size w).alloc (Nat.le_refl _) (.cells #[.int .u64 c.frame, .slice A1 c.parts.length c1, .slice A2 c.wins.length c2, .slice A3 c.regs.length c3, .slice A4 c.ports.length c4, .slice A5 c.chans.length c5] 29))
  have HR := Lib.hid hR
  clear hR
  have hl' : (100 : Int) < (s.size : Int) := by omega
  go_enter Try.func3, Try.ntmps3
  go_wp2_with (go_at_call 8; refine (few_ok c _ _ _ _ _ _ _ _ _ _ _ (HR.out.up HB.out) hs).mono ?_; rintro e w1 ⟨rfl, hb1⟩)
  refine (alive_ok _).mono ?_
  rintro e w2 ⟨rfl, hb2⟩
  have HZ := Lib.hid ((HB.out.trans (hb1.mono (by simp))).trans (hb2.mono (HB.out.trans (hb1.mono (by simp))).size))
  clear hb1 hb2
  go_wp2
  go_ret
  exact ⟨rfl, HZ.out⟩
theorem uniqFinds_ok (c : Cfg) (A1 A2 A3 A4 A5 : Option Addr) (c1 c2 c3 c4 c5 : Nat) (w : World) (hR : CfgR w w.heap.size c A1 A2 A3 A4 A5 c1 c2 c3 c4 c5) (hs : c.small) (hok : c.ok) (id : Int) (hid : wU16 id) (s : ByteArray) :
    Calls Try.prog 3 #[cfgV c.frame A1 A2 A3 A4 A5 c.parts.length c.wins.length c.regs.length c.ports.length c.chans.length c1 c2 c3 c4 c5, .int .u16 id, .string s] w fun e w' => e = .returned (.bool true) ∧ Below w.heap.size w w' := by
  rcases few_cases c with hf | hf
  · by_cases hl : s.size ≤ 100
    · exact uniqFinds_yes c A1 A2 A3 A4 A5 c1 c2 c3 c4 c5 w hR hs hok id hid s hl hf
    · exact uniqFinds_long c A1 A2 A3 A4 A5 c1 c2 c3 c4 c5 w hR hs id s hf (by omega)
  · exact uniqFinds_few c A1 A2 A3 A4 A5 c1 c2 c3 c4 c5 w hR hs id s hf
end Go.Proofs.Ytgkodbejnbfakaa
