/-
  The walks of the laws UniqChecks and UniqFinds: they return true, and nothing that was there turns.
-/
import Derived.Test.YtgkodbejnbfakaaAlive13
namespace Go.Proofs.Ytgkodbejnbfakaa
open Go.RowKit
attribute [local go_sem] ext_cell
def ckParts (c : Cfg) : Flt := firstOf 1 [refParts c]
def ckPorts (c : Cfg) : Flt := firstOf 4 [refPorts c]
def ckChans (c : Cfg) : Flt := firstOf 5 [rep (c.chans.map (·.id))]
theorem firstOf_two (s a b : Int) : firstOf s [a, b] = firstOf s [if 0 ≤ a then a else b] := by
  unfold firstOf
  by_cases h : 0 ≤ a
  · simp [h]
  · simp [h, firstOf]
theorem uPartitions_ck (c : Cfg) (A1 A2 A3 A4 A5 : Option Addr) (c1 c2 c3 c4 c5 : Nat) (w : World) (hR : CfgR w w.heap.size c A1 A2 A3 A4 A5 c1 c2 c3 c4 c5) (hs : c.small) (hok : c.ok) :
    Calls Try.prog 19 #[cfgV c.frame A1 A2 A3 A4 A5 c.parts.length c.wins.length c.regs.length c.ports.length c.chans.length c1 c2 c3 c4 c5] w fun e w' => e = .returned (fltV (ckParts c)) ∧ Below w.heap.size w w' := by
  have h := uPartitions_ok c A1 A2 A3 A4 A5 c1 c2 c3 c4 c5 w hR hs hok
  rwa [firstOf_two] at h
theorem uPorts_ck (c : Cfg) (A1 A2 A3 A4 A5 : Option Addr) (c1 c2 c3 c4 c5 : Nat) (w : World) (hR : CfgR w w.heap.size c A1 A2 A3 A4 A5 c1 c2 c3 c4 c5) (hs : c.small) (hok : c.ok) :
    Calls Try.prog 22 #[cfgV c.frame A1 A2 A3 A4 A5 c.parts.length c.wins.length c.regs.length c.ports.length c.chans.length c1 c2 c3 c4 c5] w fun e w' => e = .returned (fltV (ckPorts c)) ∧ Below w.heap.size w w' := by
  have h := uPorts_ok c A1 A2 A3 A4 A5 c1 c2 c3 c4 c5 w hR hs hok
  rwa [firstOf_two] at h
theorem uChannels_ck (c : Cfg) (A1 A2 A3 A4 A5 : Option Addr) (c1 c2 c3 c4 c5 : Nat) (w : World) (hR : CfgR w w.heap.size c A1 A2 A3 A4 A5 c1 c2 c3 c4 c5) (hs : c.small) (hok : c.ok) :
    Calls Try.prog 24 #[cfgV c.frame A1 A2 A3 A4 A5 c.parts.length c.wins.length c.regs.length c.ports.length c.chans.length c1 c2 c3 c4 c5] w fun e w' => e = .returned (fltV (ckChans c)) ∧ Below w.heap.size w w' :=
  uChannels_ok c A1 A2 A3 A4 A5 c1 c2 c3 c4 c5 w hR hs hok
theorem fault_parts (c : Cfg) (w : World) : Calls Try.prog 20 #[.int .i64 1, .int .i64 (refParts c)] w fun e w' => e = .returned (fltV (ckParts c)) ∧ Below w.heap.size w w' := fault_ok 1 (refParts c) w
theorem fault_ports (c : Cfg) (w : World) : Calls Try.prog 20 #[.int .i64 4, .int .i64 (refPorts c)] w fun e w' => e = .returned (fltV (ckPorts c)) ∧ Below w.heap.size w w' := fault_ok 4 (refPorts c) w
theorem fault_chans (c : Cfg) (w : World) : Calls Try.prog 20 #[.int .i64 5, .int .i64 (rep (c.chans.map (·.id)))] w fun e w' => e = .returned (fltV (ckChans c)) ∧ Below w.heap.size w w' := fault_ok 5 _ w
theorem few_cases (c : Cfg) : few c = true ∨ few c = false := by cases few c <;> simp
theorem boxCell (w : World) (c : Cfg) (A1 A2 A3 A4 A5 : Option Addr) (c1 c2 c3 c4 c5 : Nat) (t : TypeId) {V : World} (hb : Below (w.heap.size + 1) (w.alloc (.cells #[.int .u64 c.frame, .slice A1 c.parts.length c1, .slice A2 c.wins.length c2, .slice A3 c.regs.length c3, .slice A4 c.ports.length c4, .slice A5 c.chans.length c5] t)) V) :
    V.cell? ⟨w.heap.size, 0, none⟩ = some (.int .u64 c.frame) ∧ V.cell? ⟨w.heap.size, 1, none⟩ = some (.slice A1 c.parts.length c1) ∧ V.cell? ⟨w.heap.size, 2, none⟩ = some (.slice A2 c.wins.length c2) ∧
      V.cell? ⟨w.heap.size, 3, none⟩ = some (.slice A3 c.regs.length c3) ∧ V.cell? ⟨w.heap.size, 4, none⟩ = some (.slice A4 c.ports.length c4) ∧ V.cell? ⟨w.heap.size, 5, none⟩ = some (.slice A5 c.chans.length c5) ∧ w.heap.size < V.heap.size := by
  have q : ∀ j, V.cell? ⟨w.heap.size, j, none⟩ = (w.alloc (.cells #[.int .u64 c.frame, .slice A1 c.parts.length c1, .slice A2 c.wins.length c2, .slice A3 c.regs.length c3, .slice A4 c.ports.length c4, .slice A5 c.chans.length c5] t)).cell? ⟨w.heap.size, j, none⟩ := fun j => hb.cell (p := ⟨w.heap.size, j, none⟩) (by simp)
  refine ⟨?_, ?_, ?_, ?_, ?_, ?_, ?_⟩
  · rw [q]; simp
  · rw [q]; simp
  · rw [q]; simp
  · rw [q]; simp
  · rw [q]; simp
  · rw [q]; simp
  · have := hb.size
    simp at this
    omega
set_option maxRecDepth 100000 in
set_option maxHeartbeats 2000000 in
theorem uniqChecks_ok (c : Cfg) (A1 A2 A3 A4 A5 : Option Addr) (c1 c2 c3 c4 c5 : Nat) (w : World) (hR : CfgR w w.heap.size c A1 A2 A3 A4 A5 c1 c2 c3 c4 c5) (hs : c.small) (hok : c.ok) :
    Calls Try.prog 4 #[cfgV c.frame A1 A2 A3 A4 A5 c.parts.length c.wins.length c.regs.length c.ports.length c.chans.length c1 c2 c3 c4 c5] w fun e w' => e = .returned (.bool true) ∧ Below w.heap.size w w' := by
  have HR := Lib.hid hR
  have HB := Lib.hid ((Below.refl w.heap.size w).alloc (Nat.le_refl _) (.cells #[.int .u64 c.frame, .slice A1 c.parts.length c1, .slice A2 c.wins.length c2, .slice A3 c.regs.length c3, .slice A4 c.ports.length c4, .slice A5 c.chans.length c5] 29))
  clear hR
  rcases few_cases c with hf | hf
  · go_enter Try.func4, Try.ntmps4
    go_wp2_with (go_at_call 8; refine (few_ok c _ _ _ _ _ _ _ _ _ _ _ (HR.out.up HB.out) hs).mono ?_; rintro e w1 ⟨rfl, hb1⟩)
    have hbw := HB.out.trans (hb1.mono (by simp))
    obtain ⟨x0, x1, x2, x3, x4, x5, hz⟩ := boxCell w c A1 A2 A3 A4 A5 c1 c2 c3 c4 c5 _ (hb1.mono (by simp))
    have HW := Lib.hid hbw
    clear hbw hb1
    refine wp_region_ext (by kernel_rfl) (by kernel_rfl) ?_
    repeat (go_big_quiet_step ((first
      | (go_at_call 9; exact Calls.quiet_ext (alive_ok _))
      | (go_at_call 19; exact Calls.quiet_ext (uPartitions_ck c _ _ _ _ _ _ _ _ _ _ _ ((HR.out.up HW.out).up (ext_below _ _)) hs hok))
      | (go_at_call 22; exact Calls.quiet_ext (uPorts_ck c _ _ _ _ _ _ _ _ _ _ _ ((HR.out.up HW.out).up (ext_below _ _)) hs hok))
      | (go_at_call 24; exact Calls.quiet_ext (uChannels_ck c _ _ _ _ _ _ _ _ _ _ _ ((HR.out.up HW.out).up (ext_below _ _)) hs hok))
      | (go_at_call 21; exact Calls.quiet_ext (rPartitions_ok c _ _ _ _ _ _ _ _ _ _ _ ((HR.out.up HW.out).up (ext_below _ _)) hs))
      | (go_at_call 23; exact Calls.quiet_ext (rPorts_ok c _ _ _ _ _ _ _ _ _ _ _ ((HR.out.up HW.out).up (ext_below _ _)) hs))
      | (go_at_call 25; exact Calls.quiet_ext (rChannels_ok c _ _ _ _ _ _ _ _ _ _ _ ((HR.out.up HW.out).up (ext_below _ _)) hs))
      | (go_at_call_of 20 (refParts c); exact Calls.quiet_ext (fault_parts c _))
      | (go_at_call_of 20 (refPorts c); exact Calls.quiet_ext (fault_ports c _))
      | (go_at_call 20; exact Calls.quiet_ext (fault_chans c _)))))
    refine wpQuiet_nil ?_
    intro xq
    go_wp2
    go_ret
    exact ⟨rfl, HW.out.trans ((ext_below _ _).mono HW.out.size)⟩
  · go_enter Try.func4, Try.ntmps4
    go_wp2_with (go_at_call 8; refine (few_ok c _ _ _ _ _ _ _ _ _ _ _ (HR.out.up HB.out) hs).mono ?_; rintro e w1 ⟨rfl, hb1⟩)
    refine (alive_ok _).mono ?_
    rintro e w2 ⟨rfl, hb2⟩
    have HZ := Lib.hid ((HB.out.trans (hb1.mono (by simp))).trans (hb2.mono (HB.out.trans (hb1.mono (by simp))).size))
    clear hb1 hb2
    go_wp2
    go_ret
    exact ⟨rfl, HZ.out⟩
end Go.Proofs.Ytgkodbejnbfakaa
