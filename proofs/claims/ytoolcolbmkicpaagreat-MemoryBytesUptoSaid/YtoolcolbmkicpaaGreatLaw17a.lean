/-
  The laws of the chapter of layer 17: what the arguments must be, MemoryChecks and MemoryAllows, walked.
-/
import Derived.BigQuiet
import Derived.Test.YtoolcolbmkicpaaGreatAlive17
import Derived.Test.YtoolcolbmkicpaaGreatLeft17
import Derived.Test.YtoolcolbmkicpaaGreatCore
namespace Go.Proofs.YtoolcolbmkicpaaGreat
open Go.RowKit Go.Lib
attribute [local go_sem] ext_cell
theorem few_valM (c : Cfg) (A1 A2 A3 A4 A5 : Option Addr) (c1 c2 c3 c4 c5 : Nat) (w : World) (hR : CfgR w w.heap.size c A1 A2 A3 A4 A5 c1 c2 c3 c4 c5) (hs : c.small) (v : Bool) (hv : Hid (few c = v)) : Calls Tryz.prog 12 #[cfgV c.frame A1 A2 A3 A4 A5 c.parts.length c.wins.length c.regs.length c.ports.length c.chans.length c1 c2 c3 c4 c5] w fun e w' => e = .returned (.bool v) ∧ Below w.heap.size w w' := by
  have := few_ok c A1 A2 A3 A4 A5 c1 c2 c3 c4 c5 w hR hs
  rwa [hv.out] at this
def goodM (c : Cfg) : Bool := few c && rightM c
theorem goodM_right {c : Cfg} (h : goodM c = true) : rightM c = true := by unfold goodM at h; simp only [Bool.and_eq_true] at h; exact h.2
set_option maxRecDepth 100000 in
set_option maxHeartbeats 4000000 in
theorem goodM_ok (c : Cfg) (A1 A2 A3 A4 A5 : Option Addr) (c1 c2 c3 c4 c5 : Nat) (w : World) (hR : CfgR w w.heap.size c A1 A2 A3 A4 A5 c1 c2 c3 c4 c5) (hs : c.small) (hok : c.ok) (v : Bool) (hv : Hid (goodM c = v)) : Calls Tryz.prog 4 #[cfgV c.frame A1 A2 A3 A4 A5 c.parts.length c.wins.length c.regs.length c.ports.length c.chans.length c1 c2 c3 c4 c5] w fun e w' => e = .returned (.bool v) ∧ Below w.heap.size w w' := by
  obtain ⟨W0, hW, st⟩ := St.start_any hR 29
  have HW := Lib.hid hW
  have ST0 := Lib.hid st
  obtain ⟨x0, x1, x2, x3, x4, x5, hz⟩ := st.cells
  have HOK := Lib.hid hok
  have hvo := hv.out
  clear hR hW st hok hv
  rcases bool_cases (few c) with h1 | h1
  · rcases bool_cases (rightM c) with h2 | h2
    all_goals
      have H1 := Lib.hid h1
      have H2 := Lib.hid h2
      have HV := Lib.hid (show v = (few c && rightM c) from hvo.symm)
      clear h1 h2 hvo
      go_enter Tryz.func4, Tryz.ntmps4
      go_upto_region 1 with (fail)
      rw [HW.out]
      go_wp2_with fail
      refine (few_valM c _ _ _ _ _ _ _ _ _ _ _ ST0.out.R hs true H1).mono ?_
      rintro e w1 ⟨rfl, hb1⟩
      have ST1 := Lib.hid (ST0.out.up hb1)
      clear hb1 x0 x1 x2 x3 x4 x5 hz
      obtain ⟨x0, x1, x2, x3, x4, x5, hz⟩ := ST1.out.cells
      go_wp2_with fail
      refine (rMemRight_ok c _ _ _ _ _ _ _ _ _ _ _ ST1.out.R hs HOK.out _ H2).mono ?_
      rintro e w2 ⟨rfl, hb2⟩
      have HZ := Lib.hid (ST1.out.up hb2).bel
      clear hb2 x0 x1 x2 x3 x4 x5 hz
      go_wp2
      go_ret
      exact ⟨ret_bool (by simp only [HV.out, H1.out, H2.out, Bool.true_and]), HZ.out⟩
  · have H1 := Lib.hid h1
    have HV := Lib.hid (show v = false from by rw [← hvo]; unfold goodM; rw [h1, Bool.false_and])
    clear h1 hvo
    go_enter Tryz.func4, Tryz.ntmps4
    go_upto_region 1 with (fail)
    rw [HW.out]
    go_wp2_with fail
    refine (few_valM c _ _ _ _ _ _ _ _ _ _ _ ST0.out.R hs false H1).mono ?_
    rintro e w1 ⟨rfl, hb1⟩
    have HZ := Lib.hid (ST0.out.up hb1).bel
    clear hb1 x0 x1 x2 x3 x4 x5 hz
    go_wp2
    go_ret
    exact ⟨ret_bool HV.out.symm, HZ.out⟩
theorem memCheck_val (c : Cfg) (A1 A2 A3 A4 A5 : Option Addr) (c1 c2 c3 c4 c5 : Nat) (w : World) (hR : CfgR w w.heap.size c A1 A2 A3 A4 A5 c1 c2 c3 c4 c5) (hs : c.small) (hok : c.ok) (v : Flt) (hv : Hid (memFlt c = v)) : Calls Tryz.prog 14 #[cfgV c.frame A1 A2 A3 A4 A5 c.parts.length c.wins.length c.regs.length c.ports.length c.chans.length c1 c2 c3 c4 c5] w fun e w' => e = .returned (fltV v) ∧ Below w.heap.size w w' := by
  have := memCheck_ok c A1 A2 A3 A4 A5 c1 c2 c3 c4 c5 w hR hs hok
  rwa [hv.out] at this
theorem memAllowed_val (c : Cfg) (A1 A2 A3 A4 A5 : Option Addr) (c1 c2 c3 c4 c5 : Nat) (w : World) (hR : CfgR w w.heap.size c A1 A2 A3 A4 A5 c1 c2 c3 c4 c5) (hs : c.small) (hok : c.ok) (p m b s : Int) (hb : wU64 b) (hz : wU64 s) (v : Bool) (hv : Hid (allowB b s (covB (ofL c p m) b s) = v)) : Calls Tryz.prog 15 #[cfgV c.frame A1 A2 A3 A4 A5 c.parts.length c.wins.length c.regs.length c.ports.length c.chans.length c1 c2 c3 c4 c5, .int .u16 p, .int .u64 b, .int .u64 s, .int .u8 m] w fun e w' => e = .returned (.bool v) ∧ Below w.heap.size w w' := by
  have := memAllowed_ok c A1 A2 A3 A4 A5 c1 c2 c3 c4 c5 w hR hs hok p m b s hb hz
  rwa [hv.out] at this
theorem fltOne {c : Cfg} {a : Flt} (w : World) (t : TypeId) (_ : Hid (memFlt c = a)) : ∃ W, w.alloc (.cells a.cells t) = W ∧ Below w.heap.size w W ∧ Blk W w.heap.size t a.cells := ⟨_, rfl, below_one _ _, Blk.new _ _ _⟩
/-- the box of an Access -/
structure AxBox (w : World) (g : Nat) (b z m : Int) : Prop where
  p0 : w.cell? ⟨g, 0, none⟩ = some (.int .u64 b)
  p1 : w.cell? ⟨g, 1, none⟩ = some (.int .u64 z)
  p2 : w.cell? ⟨g, 2, none⟩ = some (.int .u8 m)
  gl : g < w.heap.size
theorem AxBox.up {w w' : World} {g : Nat} {b z m : Int} (h : AxBox w g b z m) (hb : Below w.heap.size w w') : AxBox w' g b z m := by
  have q : ∀ j, w'.cell? ⟨g, j, none⟩ = w.cell? ⟨g, j, none⟩ := fun j => hb.cell (p := ⟨g, j, none⟩) h.gl
  exact ⟨(q 0).trans h.p0, (q 1).trans h.p1, (q 2).trans h.p2, Nat.lt_of_lt_of_le h.gl hb.size⟩
theorem AxBox.new (w : World) (b z m : Int) (t : TypeId) : ∃ W, w.alloc (.cells #[.int .u64 b, .int .u64 z, .int .u8 m] t) = W ∧ AxBox W w.heap.size b z m ∧ Below w.heap.size w W := ⟨_, rfl, ⟨by simp, by simp, by simp, by simp⟩, below_one _ _⟩
end Go.Proofs.YtoolcolbmkicpaaGreat
