/-
  The laws of the chapter of layer 18: what the arguments must be, and WiringChecks.
-/
import Derived.Test.YtifmcdnaaaphmaaAlive18
import Derived.Test.YtifmcdnaaaphmaaRef05
namespace Go.Proofs.Ytifmcdnaaaphmaa
open Go.RowKit Go.Lib
attribute [local go_sem] ext_cell
theorem few_val (c : Cfg) (A1 A2 A3 A4 A5 : Option Addr) (c1 c2 c3 c4 c5 : Nat) (w : World) (hR : CfgR w w.heap.size c A1 A2 A3 A4 A5 c1 c2 c3 c4 c5) (hs : c.small) (v : Bool) (hv : Hid (few c = v)) : Calls Try.prog 29 #[cfgV c.frame A1 A2 A3 A4 A5 c.parts.length c.wins.length c.regs.length c.ports.length c.chans.length c1 c2 c3 c4 c5] w fun e w' => e = .returned (.bool v) ∧ Below w.heap.size w w' := by
  have := few_ok c A1 A2 A3 A4 A5 c1 c2 c3 c4 c5 w hR hs
  rwa [hv.out] at this
theorem right_val (c : Cfg) (A1 A2 A3 A4 A5 : Option Addr) (c1 c2 c3 c4 c5 : Nat) (w : World) (hR : CfgR w w.heap.size c A1 A2 A3 A4 A5 c1 c2 c3 c4 c5) (hs : c.small) (v : Bool) (hv : Hid (rightB c = v)) : Calls Try.prog 38 #[cfgV c.frame A1 A2 A3 A4 A5 c.parts.length c.wins.length c.regs.length c.ports.length c.chans.length c1 c2 c3 c4 c5] w fun e w' => e = .returned (.bool v) ∧ Below w.heap.size w w' := by
  have := right_ok c A1 A2 A3 A4 A5 c1 c2 c3 c4 c5 w hR hs
  rwa [hv.out] at this
def fitsB (c : Cfg) : Bool := few c && uniqueB c
def goodB (c : Cfg) : Bool := few c && rightB c
set_option maxRecDepth 100000 in
set_option maxHeartbeats 4000000 in
theorem fits_ok (c : Cfg) (A1 A2 A3 A4 A5 : Option Addr) (c1 c2 c3 c4 c5 : Nat) (w : World) (hR : CfgR w w.heap.size c A1 A2 A3 A4 A5 c1 c2 c3 c4 c5) (hs : c.small) : Calls Try.prog 9 #[cfgV c.frame A1 A2 A3 A4 A5 c.parts.length c.wins.length c.regs.length c.ports.length c.chans.length c1 c2 c3 c4 c5] w fun e w' => e = .returned (.bool (fitsB c)) ∧ Below w.heap.size w w' := by
  obtain ⟨W0, hW, st⟩ := St.start_any hR 29
  have HW := Lib.hid hW
  have ST0 := Lib.hid st
  obtain ⟨x0, x1, x2, x3, x4, x5, hz⟩ := st.cells
  clear hR hW st
  have h1 : few c = true ∨ few c = false := by cases few c <;> simp
  have h2 : uniqueB c = true ∨ uniqueB c = false := by cases uniqueB c <;> simp
  rcases h1 with h1 | h1
  · rcases h2 with h2 | h2
    all_goals
      have H1 := Lib.hid h1
      have H2 := Lib.hid h2
      have HV := Lib.hid (show fitsB c = _ from by unfold fitsB; rw [h1, h2, Bool.true_and])
      clear h1 h2
      go_enter Try.func9, Try.ntmps9
      go_upto_region 1 with (fail)
      rw [HW.out]
      go_wp2_with fail
      refine (few_val c _ _ _ _ _ _ _ _ _ _ _ ST0.out.R hs true H1).mono ?_
      rintro e w1 ⟨rfl, hb1⟩
      have ST1 := Lib.hid (ST0.out.up hb1)
      clear hb1 x0 x1 x2 x3 x4 x5 hz
      obtain ⟨x0, x1, x2, x3, x4, x5, hz⟩ := ST1.out.cells
      go_wp2_with fail
      refine (unique_val c _ _ _ _ _ _ _ _ _ _ _ ST1.out.R hs _ H2).mono ?_
      rintro e w2 ⟨rfl, hb2⟩
      have HZ := Lib.hid (ST1.out.up hb2).bel
      clear hb2 x0 x1 x2 x3 x4 x5 hz
      go_wp2
      go_ret
      exact ⟨ret_bool HV.out.symm, HZ.out⟩
  · have H1 := Lib.hid h1
    have HV := Lib.hid (show fitsB c = false from by unfold fitsB; rw [h1, Bool.false_and])
    clear h1 h2
    go_enter Try.func9, Try.ntmps9
    go_upto_region 1 with (fail)
    rw [HW.out]
    go_wp2_with fail
    refine (few_val c _ _ _ _ _ _ _ _ _ _ _ ST0.out.R hs false H1).mono ?_
    rintro e w1 ⟨rfl, hb1⟩
    have HZ := Lib.hid (ST0.out.up hb1).bel
    clear hb1 x0 x1 x2 x3 x4 x5 hz
    go_wp2
    go_ret
    exact ⟨ret_bool HV.out.symm, HZ.out⟩
set_option maxRecDepth 100000 in
set_option maxHeartbeats 4000000 in
theorem good_ok (c : Cfg) (A1 A2 A3 A4 A5 : Option Addr) (c1 c2 c3 c4 c5 : Nat) (w : World) (hR : CfgR w w.heap.size c A1 A2 A3 A4 A5 c1 c2 c3 c4 c5) (hs : c.small) : Calls Try.prog 15 #[cfgV c.frame A1 A2 A3 A4 A5 c.parts.length c.wins.length c.regs.length c.ports.length c.chans.length c1 c2 c3 c4 c5] w fun e w' => e = .returned (.bool (goodB c)) ∧ Below w.heap.size w w' := by
  obtain ⟨W0, hW, st⟩ := St.start_any hR 29
  have HW := Lib.hid hW
  have ST0 := Lib.hid st
  obtain ⟨x0, x1, x2, x3, x4, x5, hz⟩ := st.cells
  clear hR hW st
  have h1 : few c = true ∨ few c = false := by cases few c <;> simp
  have h2 : rightB c = true ∨ rightB c = false := by cases rightB c <;> simp
  rcases h1 with h1 | h1
  · rcases h2 with h2 | h2
    all_goals
      have H1 := Lib.hid h1
      have H2 := Lib.hid h2
      have HV := Lib.hid (show goodB c = _ from by unfold goodB; rw [h1, h2, Bool.true_and])
      clear h1 h2
      go_enter Try.func15, Try.ntmps15
      go_upto_region 1 with (fail)
      rw [HW.out]
      go_wp2_with fail
      refine (few_val c _ _ _ _ _ _ _ _ _ _ _ ST0.out.R hs true H1).mono ?_
      rintro e w1 ⟨rfl, hb1⟩
      have ST1 := Lib.hid (ST0.out.up hb1)
      clear hb1 x0 x1 x2 x3 x4 x5 hz
      obtain ⟨x0, x1, x2, x3, x4, x5, hz⟩ := ST1.out.cells
      go_wp2_with fail
      refine (right_val c _ _ _ _ _ _ _ _ _ _ _ ST1.out.R hs _ H2).mono ?_
      rintro e w2 ⟨rfl, hb2⟩
      have HZ := Lib.hid (ST1.out.up hb2).bel
      clear hb2 x0 x1 x2 x3 x4 x5 hz
      go_wp2
      go_ret
      exact ⟨ret_bool HV.out.symm, HZ.out⟩
  · have H1 := Lib.hid h1
    have HV := Lib.hid (show goodB c = false from by unfold goodB; rw [h1, Bool.false_and])
    clear h1 h2
    go_enter Try.func15, Try.ntmps15
    go_upto_region 1 with (fail)
    rw [HW.out]
    go_wp2_with fail
    refine (few_val c _ _ _ _ _ _ _ _ _ _ _ ST0.out.R hs false H1).mono ?_
    rintro e w1 ⟨rfl, hb1⟩
    have HZ := Lib.hid (ST0.out.up hb1).bel
    clear hb1 x0 x1 x2 x3 x4 x5 hz
    go_wp2
    go_ret
    exact ⟨ret_bool HV.out.symm, HZ.out⟩
theorem fits_val (c : Cfg) (A1 A2 A3 A4 A5 : Option Addr) (c1 c2 c3 c4 c5 : Nat) (w : World) (hR : CfgR w w.heap.size c A1 A2 A3 A4 A5 c1 c2 c3 c4 c5) (hs : c.small) (v : Bool) (hv : Hid (fitsB c = v)) : Calls Try.prog 9 #[cfgV c.frame A1 A2 A3 A4 A5 c.parts.length c.wins.length c.regs.length c.ports.length c.chans.length c1 c2 c3 c4 c5] w fun e w' => e = .returned (.bool v) ∧ Below w.heap.size w w' := by
  have := fits_ok c A1 A2 A3 A4 A5 c1 c2 c3 c4 c5 w hR hs
  rwa [hv.out] at this
theorem good_val (c : Cfg) (A1 A2 A3 A4 A5 : Option Addr) (c1 c2 c3 c4 c5 : Nat) (w : World) (hR : CfgR w w.heap.size c A1 A2 A3 A4 A5 c1 c2 c3 c4 c5) (hs : c.small) (v : Bool) (hv : Hid (goodB c = v)) : Calls Try.prog 15 #[cfgV c.frame A1 A2 A3 A4 A5 c.parts.length c.wins.length c.regs.length c.ports.length c.chans.length c1 c2 c3 c4 c5] w fun e w' => e = .returned (.bool v) ∧ Below w.heap.size w w' := by
  have := good_ok c A1 A2 A3 A4 A5 c1 c2 c3 c4 c5 w hR hs
  rwa [hv.out] at this
theorem rPorts18_val (c : Cfg) (A1 A2 A3 A4 A5 : Option Addr) (c1 c2 c3 c4 c5 : Nat) (w : World) (hR : CfgR w w.heap.size c A1 A2 A3 A4 A5 c1 c2 c3 c4 c5) (hs : c.small) (ec i : Int) (h : Hid (portBad c = (ec, i))) : Calls Try.prog 11 #[cfgV c.frame A1 A2 A3 A4 A5 c.parts.length c.wins.length c.regs.length c.ports.length c.chans.length c1 c2 c3 c4 c5] w fun e w' => e = .returned (.tuple #[.int .i64 ec, .int .i64 i]) ∧ Below w.heap.size w w' := by
  have := rPorts18_ok c A1 A2 A3 A4 A5 c1 c2 c3 c4 c5 w hR hs
  rwa [h.out] at this
theorem rChannels18_val (c : Cfg) (A1 A2 A3 A4 A5 : Option Addr) (c1 c2 c3 c4 c5 : Nat) (w : World) (hR : CfgR w w.heap.size c A1 A2 A3 A4 A5 c1 c2 c3 c4 c5) (hs : c.small) (ec i : Int) (h : Hid (rChanBad c = (ec, i))) : Calls Try.prog 12 #[cfgV c.frame A1 A2 A3 A4 A5 c.parts.length c.wins.length c.regs.length c.ports.length c.chans.length c1 c2 c3 c4 c5] w fun e w' => e = .returned (.tuple #[.int .i64 ec, .int .i64 i]) ∧ Below w.heap.size w w' := by
  have := rChannels18_ok c A1 A2 A3 A4 A5 c1 c2 c3 c4 c5 w hR hs
  rwa [h.out] at this
theorem wPorts_val (c : Cfg) (A1 A2 A3 A4 A5 : Option Addr) (c1 c2 c3 c4 c5 : Nat) (w : World) (hR : CfgR w w.heap.size c A1 A2 A3 A4 A5 c1 c2 c3 c4 c5) (hs : c.small) (hok : c.ok) (v : Flt) (hv : Hid (pFlt c = v)) : Calls Try.prog 13 #[cfgV c.frame A1 A2 A3 A4 A5 c.parts.length c.wins.length c.regs.length c.ports.length c.chans.length c1 c2 c3 c4 c5] w fun e w' => e = .returned (fltV v) ∧ Below w.heap.size w w' := by
  have := wPorts_ok c A1 A2 A3 A4 A5 c1 c2 c3 c4 c5 w hR hs hok
  rwa [hv.out] at this
theorem wChannels_val (c : Cfg) (A1 A2 A3 A4 A5 : Option Addr) (c1 c2 c3 c4 c5 : Nat) (w : World) (hR : CfgR w w.heap.size c A1 A2 A3 A4 A5 c1 c2 c3 c4 c5) (hs : c.small) (hok : c.ok) (v : Flt) (hv : Hid (xFlt c = v)) : Calls Try.prog 14 #[cfgV c.frame A1 A2 A3 A4 A5 c.parts.length c.wins.length c.regs.length c.ports.length c.chans.length c1 c2 c3 c4 c5] w fun e w' => e = .returned (fltV v) ∧ Below w.heap.size w w' := by
  have := wChannels_ok c A1 A2 A3 A4 A5 c1 c2 c3 c4 c5 w hR hs hok
  rwa [hv.out] at this
theorem fltTwo {c : Cfg} {a b : Flt} (w : World) (t : TypeId) (_ : Hid (pFlt c = a)) (_ : Hid (xFlt c = b)) : ∃ W, (w.alloc (.cells a.cells t)).alloc (.cells b.cells t) = W ∧ Below w.heap.size w W ∧ Blk W w.heap.size t a.cells ∧ Blk W (w.heap.size + 1) t b.cells :=
  ⟨_, rfl, Below.then_ (below_one _ _) (below_one _ _), (Blk.new _ _ _).below (below_one _ _) (by simp), by have := Blk.new (w.alloc (.cells a.cells t)) t b.cells; simpa using this⟩
set_option maxRecDepth 100000 in
set_option maxHeartbeats 4000000 in
theorem wiringChecks_ok (c : Cfg) (A1 A2 A3 A4 A5 : Option Addr) (c1 c2 c3 c4 c5 : Nat) (w : World) (hR : CfgR w w.heap.size c A1 A2 A3 A4 A5 c1 c2 c3 c4 c5) (hs : c.small) (hok : c.ok) : Calls Try.prog 3 #[cfgV c.frame A1 A2 A3 A4 A5 c.parts.length c.wins.length c.regs.length c.ports.length c.chans.length c1 c2 c3 c4 c5] w fun e w' => e = .returned (.bool true) ∧ Below w.heap.size w w' := by
  obtain ⟨W0, hW, st⟩ := St.start_any hR 29
  have HW := Lib.hid hW
  have ST0 := Lib.hid st
  have HOK := Lib.hid hok
  obtain ⟨x0, x1, x2, x3, x4, x5, hz⟩ := st.cells
  clear hR hW st hok
  have h1 : fitsB c = true ∨ fitsB c = false := by cases fitsB c <;> simp
  rcases h1 with h1 | h1
  · have H1 := Lib.hid h1
    clear h1
    obtain ⟨ec, i, hp⟩ : ∃ ec i, portBad c = (ec, i) := ⟨_, _, rfl⟩
    obtain ⟨f, k, hx⟩ : ∃ f k, rChanBad c = (f, k) := ⟨_, _, rfl⟩
    have HP := Lib.hid hp
    have HX := Lib.hid hx
    have hpf : pFlt c = if ec = 0 then ⟨0, 0, 0⟩ else ⟨ec, 4, i⟩ := by unfold pFlt badFlt; rw [hp]; rfl
    have hxf : xFlt c = if f = 0 then ⟨0, 0, 0⟩ else ⟨f, 5, k⟩ := by unfold xFlt badFlt; rw [chanBad_eq, hx]; rfl
    clear hp hx
    rcases Decidable.em (ec = 0) with he | he <;> rcases Decidable.em (f = 0) with hf | hf
    all_goals
      first | rw [if_pos he] at hpf | rw [if_neg he] at hpf
      first | rw [if_pos hf] at hxf | rw [if_neg hf] at hxf
      have HPF := Lib.hid hpf
      have HXF := Lib.hid hxf
      clear hpf hxf
      try subst he
      try subst hf
      go_enter Try.func3, Try.ntmps3
      go_upto_region 1 with (fail)
      rw [HW.out]
      go_wp2_with fail
      refine (fits_val c _ _ _ _ _ _ _ _ _ _ _ ST0.out.R hs true H1).mono ?_
      rintro e0 w1 ⟨rfl, hb1⟩
      have ST1 := Lib.hid (ST0.out.up hb1)
      clear hb1 x0 x1 x2 x3 x4 x5 hz
      obtain ⟨x0, x1, x2, x3, x4, x5, hz⟩ := ST1.out.cells
      go_wp2_with fail
      refine (rPorts18_val c _ _ _ _ _ _ _ _ _ _ _ ST1.out.R hs _ _ HP).mono ?_
      rintro e0 w2 ⟨rfl, hb2⟩
      have ST2 := Lib.hid (ST1.out.up hb2)
      clear hb2 x0 x1 x2 x3 x4 x5 hz
      obtain ⟨x0, x1, x2, x3, x4, x5, hz⟩ := ST2.out.cells
      go_wp2_with fail
      refine (rChannels18_val c _ _ _ _ _ _ _ _ _ _ _ ST2.out.R hs _ _ HX).mono ?_
      rintro e0 w3 ⟨rfl, hb3⟩
      have ST3 := Lib.hid (ST2.out.up hb3)
      clear hb3 x0 x1 x2 x3 x4 x5 hz
      go_upto_region 10 with (fail)
      obtain ⟨W5, hW5, hb5, ka, kb⟩ := fltTwo w3 36 HPF HXF
      simp only [Flt.cells] at hW5 ka kb
      rw [hW5]
      have q0 := ka.cell 0
      have q1 := ka.cell 1
      have q2 := ka.cell 2
      have p0 := kb.cell 0
      have p1 := kb.cell 1
      have p2 := kb.cell 2
      have l0 := ka.lt
      have l1 := kb.lt
      simp at q0 q1 q2 p0 p1 p2
      have ST5 := Lib.hid (ST3.out.up hb5)
      obtain ⟨x0, x1, x2, x3, x4, x5, hz⟩ := ST5.out.cells
      clear hW5 hb5 ka kb
      refine wp_region_ext (by kernel_rfl) (by kernel_rfl) ?_
      repeat (go_big_quiet_step ((first
        | (go_at_call 10; exact Calls.quiet_ext (alive_ok _))
        | (go_at_call 13; exact Calls.quiet_ext (wPorts_val c _ _ _ _ _ _ _ _ _ _ _ (ST5.out.ext _).R hs HOK.out _ HPF))
        | (go_at_call 14; exact Calls.quiet_ext (wChannels_val c _ _ _ _ _ _ _ _ _ _ _ (ST5.out.ext _).R hs HOK.out _ HXF)))))
      refine wpQuiet_nil ?_
      intro xq
      have HZ := Lib.hid (ST5.out.ext xq).bel
      clear q0 q1 q2 p0 p1 p2 x0 x1 x2 x3 x4 x5 hz
      go_wp2
      go_ret
      exact ⟨rfl, HZ.out⟩
  · have H1 := Lib.hid h1
    clear h1
    go_enter Try.func3, Try.ntmps3
    go_upto_region 1 with (fail)
    rw [HW.out]
    go_wp2_with fail
    refine (fits_val c _ _ _ _ _ _ _ _ _ _ _ ST0.out.R hs false H1).mono ?_
    rintro e w1 ⟨rfl, hb1⟩
    have HB1 := Lib.hid (ST0.out.up hb1).bel
    clear hb1 x0 x1 x2 x3 x4 x5 hz
    go_wp2_with fail
    refine (alive_ok _).mono ?_
    rintro e w2 ⟨rfl, hb2⟩
    have HZ := Lib.hid (Below.then_ HB1.out hb2)
    clear hb2
    go_wp2
    go_ret
    exact ⟨rfl, HZ.out⟩
end Go.Proofs.Ytifmcdnaaaphmaa
