/-
  The law WiringFlows, walked.
-/
import Derived.Test.YtifmcdnaaaphmaaLaw18a
import Derived.Test.YtifmcdnaaaphmaaEqs
import Derived.Test.YtifmcdnaaaphmaaRef18f
namespace Go.Proofs.Ytifmcdnaaaphmaa
open Go.RowKit Go.Lib
attribute [local go_sem] ext_cell
theorem flow_val (c : Cfg) (A1 A2 A3 A4 A5 : Option Addr) (c1 c2 c3 c4 c5 : Nat) (w : World) (hR : CfgR w w.heap.size c A1 A2 A3 A4 A5 c1 c2 c3 c4 c5) (hs : c.small) (hok : c.ok) (hr : rightB c = true) (f t : Int) (hf : wU16 f) (ht : wU16 t) (v : Bool) (hv : Hid (flowB c f t = v)) : Calls Try.prog 20 #[cfgV c.frame A1 A2 A3 A4 A5 c.parts.length c.wins.length c.regs.length c.ports.length c.chans.length c1 c2 c3 c4 c5, .int .u16 f, .int .u16 t] w fun e w' => e = .returned (.bool v) ∧ Below w.heap.size w w' := by
  have := flow_ok c A1 A2 A3 A4 A5 c1 c2 c3 c4 c5 w hR hs hok hr f t hf ht
  rwa [hv.out] at this
theorem rFlow_val (c : Cfg) (A1 A2 A3 A4 A5 : Option Addr) (c1 c2 c3 c4 c5 : Nat) (w : World) (hR : CfgR w w.heap.size c A1 A2 A3 A4 A5 c1 c2 c3 c4 c5) (hs : c.small) (hr : rightB c = true) (f t : Int) (v : Bool) (hv : Hid (flowB c f t = v)) : Calls Try.prog 25 #[cfgV c.frame A1 A2 A3 A4 A5 c.parts.length c.wins.length c.regs.length c.ports.length c.chans.length c1 c2 c3 c4 c5, .int .u16 f, .int .u16 t] w fun e w' => e = .returned (.bool v) ∧ Below w.heap.size w w' := by
  have := rFlow_ok c A1 A2 A3 A4 A5 c1 c2 c3 c4 c5 w hR hs hr f t
  rwa [hv.out] at this
set_option maxRecDepth 100000 in
set_option maxHeartbeats 8000000 in
theorem wiringFlows_ok (c : Cfg) (A1 A2 A3 A4 A5 : Option Addr) (c1 c2 c3 c4 c5 : Nat) (w : World) (hR : CfgR w w.heap.size c A1 A2 A3 A4 A5 c1 c2 c3 c4 c5) (hs : c.small) (hok : c.ok) (f t : Int) (hf : wU16 f) (ht : wU16 t) : Calls Try.prog 7 #[cfgV c.frame A1 A2 A3 A4 A5 c.parts.length c.wins.length c.regs.length c.ports.length c.chans.length c1 c2 c3 c4 c5, .int .u16 f, .int .u16 t] w fun e w' => e = .returned (.bool true) ∧ Below w.heap.size w w' := by
  obtain ⟨W0, hW, st⟩ := St.start_any hR 29
  have HW := Lib.hid hW
  have ST0 := Lib.hid st
  have HOK := Lib.hid hok
  have hbd := hs.bd
  have bp := hbd.p
  obtain ⟨x0, x1, x2, x3, x4, x5, hz⟩ := st.cells
  clear hR hW st hok hbd
  rcases bool_cases (goodB c) with h1 | h1
  · have H1 := Lib.hid h1
    have hr : rightB c = true := by unfold goodB at h1; simp only [Bool.and_eq_true] at h1; exact h1.2
    have HRT := Lib.hid hr
    clear h1 hr
    by_cases h12 : 12 < c.parts.length
    · have m12 : decide ((12 : Int) < (c.parts.length : Int)) = true := decide_eq_true (by omega)
      go_enter Try.func7, Try.ntmps7
      go_upto_region 1 with (fail)
      rw [HW.out]
      go_wp2_with fail
      refine (good_val c _ _ _ _ _ _ _ _ _ _ _ ST0.out.R hs true H1).mono ?_
      rintro e w1 ⟨rfl, hb1⟩
      have ST1 := Lib.hid (ST0.out.up hb1)
      clear hb1 x0 x1 x2 x3 x4 x5 hz
      obtain ⟨x0, x1, x2, x3, x4, x5, hz⟩ := ST1.out.cells
      go_wp2_with fail
      refine (alive_ok _).mono ?_
      rintro e w2 ⟨rfl, hb2⟩
      have HZ := Lib.hid (ST1.out.up hb2).bel
      clear hb2 x0 x1 x2 x3 x4 x5 hz
      go_wp2
      go_ret
      exact ⟨rfl, HZ.out⟩
    · have m12 : decide ((12 : Int) < (c.parts.length : Int)) = false := decide_eq_false (by omega)
      obtain ⟨v, hv⟩ : ∃ v, flowB c f t = v := ⟨_, rfl⟩
      have HV := Lib.hid hv
      clear hv
      go_enter Try.func7, Try.ntmps7
      go_upto_region 1 with (fail)
      rw [HW.out]
      go_wp2_with fail
      refine (good_val c _ _ _ _ _ _ _ _ _ _ _ ST0.out.R hs true H1).mono ?_
      rintro e w1 ⟨rfl, hb1⟩
      have ST1 := Lib.hid (ST0.out.up hb1)
      clear hb1 x0 x1 x2 x3 x4 x5 hz
      obtain ⟨x0, x1, x2, x3, x4, x5, hz⟩ := ST1.out.cells
      go_wp2_with fail
      refine (matrix_ok c _ _ _ _ _ _ _ _ _ _ _ ST1.out.R hs HOK.out HRT.out).mono ?_
      rintro e w2 ⟨v2, rfl, hm2, hb2⟩
      have ST2 := Lib.hid (ST1.out.up hb2)
      obtain ⟨mA, mc, rfl, hr2⟩ := hm2.reads
      have HM2 := Lib.hid hr2
      clear hb2 hm2 hr2 x0 x1 x2 x3 x4 x5 hz
      obtain ⟨x0, x1, x2, x3, x4, x5, hz⟩ := ST2.out.cells
      go_wp2_with fail
      refine (rMatrix_ok c _ _ _ _ _ _ _ _ _ _ _ ST2.out.R hs (right_wired HRT.out)).mono ?_
      rintro e w3 ⟨v3, rfl, hm3, hb3⟩
      have ST3 := Lib.hid (ST2.out.up hb3)
      obtain ⟨nA, nc, rfl, hr3⟩ := hm3.reads
      have HM3 := Lib.hid (HM2.out.up hb3)
      have HN3 := Lib.hid hr3
      have hlm : (matRows c).length ≤ 1048576 := by rw [show (matRows c).length = c.parts.length from matTo_len c _]; exact bp
      have HRL := Lib.hid (fun (i : Nat) (l : List Int) (h : (matRows c)[i]? = some l) => row_len h)
      clear hb3 hm3 hr3 x0 x1 x2 x3 x4 x5 hz m12 h12
      generalize matRows c = M at *
      go_wp2
      go_loopw [31] (fun i wr => ∃ (k : Nat), k ≤ M.length ∧ i = .int .i64 k ∧ Hid (Below w3.heap.size w3 wr)) (fun i _ => M.length - (intOf i).toNat)
      case atStart => exact ⟨0, Nat.zero_le _, rfl, Lib.hid (Below.refl _ _)⟩
      case round =>
        obtain ⟨k, hk, rfl, HB⟩ := hrel
        by_cases hlt : k < M.length
        · obtain ⟨l, hl⟩ := get_lt hlt
          have hll := HRL.out k l hl
          obtain ⟨b1, o1, A1', c1', rfl, hb1, g1, r1⟩ := (HM3.out.up HB.out).row hl
          obtain ⟨b2, o2, A2', c2', rfl, hb2, g2, r2⟩ := (HN3.out.up HB.out).row hl
          have R1 := Lib.hid r1
          have R2 := Lib.hid r2
          have k0 : (0 : Int) ≤ (k : Int) := by omega
          have k1 : (k : Int) < (M.length : Int) := by omega
          clear hl r1 r2
          go_wp2_with fail
          refine wp_region_ext (by kernel_rfl) (by kernel_rfl) ?_
          repeat (go_big_quiet_step ((go_at_call 24; exact Calls.quiet_ext (eqI_same l _ _ _ _ _ (by omega) (R1.out.up (ext_below _ _)) (R2.out.up (ext_below _ _))))))
          refine wpQuiet_nil ?_
          intro xq
          have HB2 := Lib.hid (Below.then_ HB.out (ext_below _ xq))
          clear g1 g2 hb1 hb2
          go_wp2
          go_roundw
          case rel => exact ⟨k + 1, by omega, by go_num, HB2⟩
          case measure => simp [intOf]; omega
        · obtain rfl : k = M.length := by omega
          have ST4 := Lib.hid (ST3.out.up HB.out)
          obtain ⟨x0, x1, x2, x3, x4, x5, hz⟩ := ST4.out.cells
          rcases bool_cases v with rfl | rfl
          all_goals
            go_wp2
            refine wp_region_ext (by kernel_rfl) (by kernel_rfl) ?_
            repeat (go_big_quiet_step ((first
              | (go_at_call 10; exact Calls.quiet_ext (alive_ok _))
              | (go_at_call 20; exact Calls.quiet_ext (flow_val c _ _ _ _ _ _ _ _ _ _ _ (ST4.out.ext _).R hs HOK.out HRT.out f t hf ht _ HV))
              | (go_at_call 25; exact Calls.quiet_ext (rFlow_val c _ _ _ _ _ _ _ _ _ _ _ (ST4.out.ext _).R hs HRT.out f t _ HV)))))
            refine wpQuiet_nil ?_
            intro xq
            have HZ := Lib.hid (ST4.out.ext xq).bel
            clear x0 x1 x2 x3 x4 x5 hz
            go_wp2
            go_ret
            exact ⟨rfl, HZ.out⟩
  · have H1 := Lib.hid h1
    clear h1
    go_enter Try.func7, Try.ntmps7
    go_upto_region 1 with (fail)
    rw [HW.out]
    go_wp2_with fail
    refine (good_val c _ _ _ _ _ _ _ _ _ _ _ ST0.out.R hs false H1).mono ?_
    rintro e w1 ⟨rfl, hb1⟩
    have HB1 := Lib.hid (ST0.out.up hb1).bel
    clear hb1 x0 x1 x2 x3 x4 x5 hz
    go_wp2_with fail
    refine (alive_ok _).mono ?_
    rintro e w2 ⟨rfl, hb2⟩
    have HZ := Lib.hid (Below.then_ HB1.out hb2)
    clear hb2
    go_wp2
    go_ret
    exact ⟨rfl, HZ.out⟩
end Go.Proofs.Ytifmcdnaaaphmaa
