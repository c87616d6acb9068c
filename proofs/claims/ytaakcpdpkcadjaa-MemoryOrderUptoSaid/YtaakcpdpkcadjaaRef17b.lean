/-
  The reference of layer 17: Check, Right, walked. Printed by gen/ref17b.py.
-/
import Derived.BigQuiet
import Derived.Test.YtaakcpdpkcadjaaClashP
namespace Go.Proofs.Ytaakcpdpkcadjaa
open Go.RowKit
attribute [local go_sem] ext_cell
theorem rPartition_valM (c : Cfg) (A1 A2 A3 A4 A5 : Option Addr) (c1 c2 c3 c4 c5 : Nat) (w : World) (hR : CfgR w w.heap.size c A1 A2 A3 A4 A5 c1 c2 c3 c4 c5) (hs : c.small) (id : Int) (v : Int) (hv : Hid (idx (fun x => x.id == id) c.parts = v)) :
    Calls Try.prog 21 #[cfgV c.frame A1 A2 A3 A4 A5 c.parts.length c.wins.length c.regs.length c.ports.length c.chans.length c1 c2 c3 c4 c5, .int .u16 id] w fun e w' => e = .returned (.int .i64 v) ∧ Below w.heap.size w w' := by
  have h := rPartition_ok c A1 A2 A3 A4 A5 c1 c2 c3 c4 c5 w hR hs id
  rwa [hv.out] at h
theorem meet_val (a b c d : Int) (w : World) (v : Bool) (hx : okSp a b) (hy : okSp c d) (hv : Hid (meetS ⟨a, b⟩ ⟨c, d⟩ = v)) :
    Calls Try.prog 24 #[.agg #[.int .u64 a, .int .u64 b], .agg #[.int .u64 c, .int .u64 d]] w fun e w' => e = .returned (.bool v) ∧ Below w.heap.size w w' := by
  have h := rMeet_ok ⟨a, b⟩ ⟨c, d⟩ w hx hy
  rwa [hv.out] at h
set_option maxRecDepth 100000 in
set_option maxHeartbeats 4000000 in
theorem rMemCheck_ok (c : Cfg) (A1 A2 A3 A4 A5 : Option Addr) (c1 c2 c3 c4 c5 : Nat) (w : World) (hR : CfgR w w.heap.size c A1 A2 A3 A4 A5 c1 c2 c3 c4 c5) (hs : c.small) (hok : c.ok) : Calls Try.prog 10 #[cfgV c.frame A1 A2 A3 A4 A5 c.parts.length c.wins.length c.regs.length c.ports.length c.chans.length c1 c2 c3 c4 c5] w fun e w' => e = .returned (.tuple #[.int .i64 (memBad c).1, .int .i64 (memBad c).2]) ∧ Below w.heap.size w w' := by
  have hbd := hs.bd
  have ST0 := Lib.hid (St.start hR 29)
  have br := hbd.r
  have HOK := Lib.hid hok
  clear hR hbd hok
  go_enter Try.func10, Try.ntmps10
  go_wp2
  go_loopw [4] (fun i wr => ∃ k : Nat, k ≤ c.regs.length ∧ i = .int .i64 k ∧ Hid (regBad c = bad k ((c.regs.map (regCode c)).drop k)) ∧ Hid (St w (wr) c A1 A2 A3 A4 A5 c1 c2 c3 c4 c5)) (fun i _ => c.regs.length - (intOf i).toNat)
  case atStart => exact ⟨0, Nat.zero_le _, rfl, Lib.hid rfl, ST0⟩
  case round =>
    obtain ⟨k, hk, rfl, hrest, ST⟩ := hrel
    obtain ⟨x0, x1, x2, x3, x4, x5, hz⟩ := ST.out.cells
    by_cases hlt : k < c.regs.length
    · obtain ⟨x, hx⟩ := get_lt hlt
      have HRO := Lib.hid (HOK.out.regs x (List.mem_of_getElem? hx))
      obtain ⟨bb, o, rfl, hbb, g0, g1, g2, g3, g4⟩ := reg_at ST.out.R.regs hx
      have HX := Lib.hid (show (c.regs.map (regCode c))[k]? = some (regCode c x) by simp [hx])
      clear hx
      have n0 : (0 : Int) ≤ (k : Int) := by omega
      have n1 : (k : Int) < (c.regs.length : Int) := by omega
      go_upto_region 5 with (fail)
      obtain ⟨W4, hW4, rb, hb4⟩ := RgBox.new wr x 43
      rw [hW4]
      have ST4 := Lib.hid (ST.out.up hb4)
      have HRB := Lib.hid rb
      clear hW4 hb4 rb g0 g1 g2 g3 g4 hbb x0 x1 x2 x3 x4 x5 hz
      obtain ⟨x0, x1, x2, x3, x4, x5, hz⟩ := ST4.out.cells
      obtain ⟨p0, p1, p2, p3, p4, hg⟩ := HRB.out
      obtain ⟨v, hv⟩ : ∃ v, idx (fun y => y.id == x.part) c.parts = v := ⟨_, rfl⟩
      have HV := Lib.hid hv
      by_cases hi : v < 0
      · have HC := Lib.hid (show regCode c x = 19 by unfold regCode; rw [hv, if_pos hi])
        clear hv
        go_wp2_with fail
        refine (rPartition_valM c _ _ _ _ _ _ _ _ _ _ _ ST4.out.R hs x.part v HV).mono ?_
        rintro e w5 ⟨rfl, hb5⟩
        have HZ := Lib.hid (ST4.out.up hb5).bel
        clear hb5 x0 x1 x2 x3 x4 x5 hz p0 p1 p2 p3 p4 hg
        go_wp2
        go_ret2
        refine ⟨ret_pairM (p := (19, (k : Int))) ?_, HZ.out⟩
        have hb := bad_hit hrest.out HX.out (by rw [HC.out]; decide)
        unfold memBad
        rw [if_neg (show ¬ (regBad c).1 = 0 by rw [hb, HC.out]; simp), hb, HC.out]
      · obtain ⟨vb, hvb⟩ : ∃ vb, validB x.base x.size = vb := ⟨_, rfl⟩
        have HVB := Lib.hid hvb
        have HC := Lib.hid (show regCode c x = if vb then 0 else 24 by unfold regCode; rw [hv, if_neg hi, hvb])
        have hi2 : decide (v < 0) = false := decide_eq_false hi
        clear hv hvb
        go_wp2_with fail
        refine (rPartition_valM c _ _ _ _ _ _ _ _ _ _ _ ST4.out.R hs x.part v HV).mono ?_
        rintro e w5 ⟨rfl, hb5⟩
        have ST5 := Lib.hid (ST4.out.up hb5)
        have HRB5 := Lib.hid (HRB.out.up hb5)
        clear hb5 x0 x1 x2 x3 x4 x5 hz p0 p1 p2 p3 p4 hg
        obtain ⟨p0, p1, p2, p3, p4, hg⟩ := HRB5.out
        go_wp2_with fail
        refine (rSpan_ok x w5).mono ?_
        rintro e w6 ⟨rfl, hb6⟩
        have ST6 := Lib.hid (ST5.out.up hb6)
        clear hb6 p0 p1 p2 p3 p4 hg
        go_wp2_with fail
        refine (rValid_ok x.base x.size w6 HRO.out.base HRO.out.size).mono ?_
        rw [HVB.out]
        rintro e w7 ⟨rfl, hb7⟩
        have ST7 := Lib.hid (ST6.out.up hb7)
        clear hb7
        cases vb
        · go_wp2
          go_ret2
          refine ⟨ret_pairM (p := (24, (k : Int))) ?_, ST7.out.bel⟩
          have hb := bad_hit hrest.out HX.out (by rw [HC.out]; decide)
          unfold memBad
          rw [if_neg (show ¬ (regBad c).1 = 0 by rw [hb, HC.out]; simp), hb, HC.out]
          rfl
        · go_wp2
          go_roundw
          case rel => exact ⟨k + 1, by omega, by go_num, Lib.hid (bad_miss hrest.out (by rw [HX.out, HC.out]; rfl)), ST7⟩
          case measure => simp [intOf]; omega
    · obtain rfl : k = c.regs.length := by omega
      have hrb : regBad c = (0, 0) := bad_end (l := c.regs.map (regCode c)) (by simpa using hrest.out)
      have HMB := Lib.hid (show memBad c = clashBad c.regs by unfold memBad; rw [hrb]; rfl)
      have HSP := Lib.hid (regBad_ok HOK.out (by rw [hrb]))
      clear hrb hrest
      generalize hwo : wr = wo at ST x0 x1 x2 x3 x4 x5 hz ⊢
      clear hwo
      go_wp2
      clear x0 x1 x2 x3 x4 x5 hz
      go_loopw [6] (fun j wr => ∃ n : Nat, n ≤ c.regs.length ∧ j = .int .i64 n ∧ Hid (clashBad c.regs = bad n (((List.range c.regs.length).map (clashAt c.regs)).drop n)) ∧ Hid (St w (wr) c A1 A2 A3 A4 A5 c1 c2 c3 c4 c5)) (fun j _ => c.regs.length - (intOf j).toNat)
      case atStart => exact ⟨0, Nat.zero_le _, rfl, Lib.hid rfl, ST⟩
      case round =>
        obtain ⟨n, hn, rfl, hrest, STn⟩ := hrel
        obtain ⟨x0, x1, x2, x3, x4, x5, hz⟩ := STn.out.cells
        by_cases hlt : n < c.regs.length
        · obtain ⟨y, hy⟩ := get_lt hlt
          have HY := Lib.hid hy
          have HCL := Lib.hid (clash_list hlt)
          have n0 : (0 : Int) ≤ (n : Int) := by omega
          have n1 : (n : Int) < (c.regs.length : Int) := by omega
          clear hy
          generalize hwo : wr = wp at STn x0 x1 x2 x3 x4 x5 hz ⊢
          clear hwo
          go_wp2
          clear x0 x1 x2 x3 x4 x5 hz
          go_loopw [7] (fun i wr => ∃ m : Nat, m ≤ n ∧ i = .int .i64 m ∧ Hid ((c.regs.take m).any (fun x => overR x y) = false) ∧ Hid (St w (wr) c A1 A2 A3 A4 A5 c1 c2 c3 c4 c5)) (fun i _ => n - (intOf i).toNat)
          case atStart => exact ⟨0, Nat.zero_le _, rfl, Lib.hid rfl, STn⟩
          case round =>
            obtain ⟨m, hm, rfl, HM, STm⟩ := hrel
            by_cases hml : m < n
            · obtain ⟨x, hx⟩ := get_lt (show m < c.regs.length by omega)
              have HX := Lib.hid hx
              have hox := HSP.out x (List.mem_of_getElem? hx)
              have hoy := HSP.out y (List.mem_of_getElem? HY.out)
              obtain ⟨bb, o, rfl, hbb, g0, g1, g2, g3, g4⟩ := reg_at STm.out.R.regs hx
              obtain ⟨b2, o2, e2, hbb2, k0, k1, k2, k3, k4⟩ := reg_at STm.out.R.regs HY.out
              obtain ⟨rfl, rfl⟩ : bb = b2 ∧ o = o2 := by simpa using e2
              have m0 : (0 : Int) ≤ (m : Int) := by omega
              have m1 : (m : Int) < (c.regs.length : Int) := by omega
              obtain ⟨x0, x1, x2, x3, x4, x5, hz⟩ := STm.out.cells
              obtain ⟨vm, hvm⟩ : ∃ v, meetS (spnOf x) (spnOf y) = v := ⟨_, rfl⟩
              have HVM := Lib.hid hvm
              clear hx e2
              cases vm
              · have HO := Lib.hid (show overR x y = false by unfold overR; rw [HVM.out]; simp [regAl, regNe])
                have hsy : (⟨y.base, y.size⟩ : Spn) = spnOf y := by unfold spnOf; rfl
                have hoy2 : okSp y.base y.size := by have h := hoy; exact h
                have HM2 := Lib.hid (show meetS ⟨x.base, x.size⟩ ⟨y.base, y.size⟩ = false from (congrArg (meetS (spnOf x)) hsy).trans HVM.out)
                clear hsy
                go_wp2_with fail
                refine wp_region_ext (by kernel_rfl) (by kernel_rfl) ?_
                repeat (go_big_quiet_step (fail))
                go_big_quiet_step ((go_at_call 23; exact Calls.quiet_ext (rSpan_ok ⟨x.base, x.size, x.part, x.rights, x.shared⟩ _)))
                repeat (go_big_quiet_step (fail))
                go_big_quiet_step ((go_at_call 23; exact Calls.quiet_ext (rSpan_ok ⟨y.base, y.size, y.part, y.rights, y.shared⟩ _)))
                repeat (go_big_quiet_step (fail))
                go_big_quiet_step ((go_at_call 24; exact Calls.quiet_ext (meet_val _ _ _ _ _ _ hox hoy2 HM2)))
                repeat (go_big_quiet_step (fail))
                refine wpQuiet_nil ?_
                intro xq
                go_wp2
                go_roundw
                case rel => exact ⟨m + 1, by omega, by go_num, Lib.hid (over_miss HX.out HM.out HO.out), Lib.hid (STm.out.ext xq)⟩
                case measure => simp [intOf]; omega
              · rcases bool_cases x.shared with hs1 | hs1
                rotate_left
                · rw [hs1] at g4
                  have HO := Lib.hid (show overR x y = true by unfold overR; rw [HVM.out]; simp [regAl, regNe, hs1])
                  have hsy : (⟨y.base, y.size⟩ : Spn) = spnOf y := by unfold spnOf; rfl
                  have hoy2 : okSp y.base y.size := by have h := hoy; exact h
                  have HM2 := Lib.hid (show meetS ⟨x.base, x.size⟩ ⟨y.base, y.size⟩ = true from (congrArg (meetS (spnOf x)) hsy).trans HVM.out)
                  clear hsy
                  go_wp2_with fail
                  refine wp_region_ext (by kernel_rfl) (by kernel_rfl) ?_
                  repeat (go_big_quiet_step (fail))
                  go_big_quiet_step ((go_at_call 23; exact Calls.quiet_ext (rSpan_ok ⟨x.base, x.size, x.part, x.rights, false⟩ _)))
                  repeat (go_big_quiet_step (fail))
                  go_big_quiet_step ((go_at_call 23; exact Calls.quiet_ext (rSpan_ok ⟨y.base, y.size, y.part, y.rights, y.shared⟩ _)))
                  repeat (go_big_quiet_step (fail))
                  go_big_quiet_step ((go_at_call 24; exact Calls.quiet_ext (meet_val _ _ _ _ _ _ hox hoy2 HM2)))
                  repeat (go_big_quiet_step (fail))
                  refine wpQuiet_nil ?_
                  intro xq
                  go_wp2
                  go_ret2
                  refine ⟨ret_pairM (p := (21, (n : Int))) ?_, (STm.out.ext xq).bel⟩
                  have hc := over_hit HY.out HX.out hml HO.out
                  rw [HMB.out, bad_hit hrest.out HCL.out (by rw [hc]; decide), hc]
                rw [hs1] at g4
                rcases bool_cases y.shared with hs2 | hs2
                rotate_left
                · rw [hs2] at k4
                  have HO := Lib.hid (show overR x y = true by unfold overR; rw [HVM.out]; simp [regAl, regNe, hs1, hs2])
                  have hsy : (⟨y.base, y.size⟩ : Spn) = spnOf y := by unfold spnOf; rfl
                  have hoy2 : okSp y.base y.size := by have h := hoy; exact h
                  have HM2 := Lib.hid (show meetS ⟨x.base, x.size⟩ ⟨y.base, y.size⟩ = true from (congrArg (meetS (spnOf x)) hsy).trans HVM.out)
                  clear hsy
                  go_wp2_with fail
                  refine wp_region_ext (by kernel_rfl) (by kernel_rfl) ?_
                  repeat (go_big_quiet_step (fail))
                  go_big_quiet_step ((go_at_call 23; exact Calls.quiet_ext (rSpan_ok ⟨x.base, x.size, x.part, x.rights, true⟩ _)))
                  repeat (go_big_quiet_step (fail))
                  go_big_quiet_step ((go_at_call 23; exact Calls.quiet_ext (rSpan_ok ⟨y.base, y.size, y.part, y.rights, false⟩ _)))
                  repeat (go_big_quiet_step (fail))
                  go_big_quiet_step ((go_at_call 24; exact Calls.quiet_ext (meet_val _ _ _ _ _ _ hox hoy2 HM2)))
                  repeat (go_big_quiet_step (fail))
                  refine wpQuiet_nil ?_
                  intro xq
                  go_wp2
                  go_ret2
                  refine ⟨ret_pairM (p := (21, (n : Int))) ?_, (STm.out.ext xq).bel⟩
                  have hc := over_hit HY.out HX.out hml HO.out
                  rw [HMB.out, bad_hit hrest.out HCL.out (by rw [hc]; decide), hc]
                rw [hs2] at k4
                rcases Decidable.em (x.base = y.base) with q0 | q0
                rotate_left
                · have HO := Lib.hid (show overR x y = false by unfold overR; rw [HVM.out]; simp [regAl, regNe, hs1, hs2, q0])
                  have hsy : (⟨y.base, y.size⟩ : Spn) = spnOf y := by unfold spnOf; rfl
                  have hoy2 : okSp y.base y.size := by have h := hoy; exact h
                  have HM2 := Lib.hid (show meetS ⟨x.base, x.size⟩ ⟨y.base, y.size⟩ = true from (congrArg (meetS (spnOf x)) hsy).trans HVM.out)
                  clear hsy
                  go_wp2_with fail
                  refine wp_region_ext (by kernel_rfl) (by kernel_rfl) ?_
                  repeat (go_big_quiet_step (fail))
                  go_big_quiet_step ((go_at_call 23; exact Calls.quiet_ext (rSpan_ok ⟨x.base, x.size, x.part, x.rights, true⟩ _)))
                  repeat (go_big_quiet_step (fail))
                  go_big_quiet_step ((go_at_call 23; exact Calls.quiet_ext (rSpan_ok ⟨y.base, y.size, y.part, y.rights, true⟩ _)))
                  repeat (go_big_quiet_step (fail))
                  go_big_quiet_step ((go_at_call 24; exact Calls.quiet_ext (meet_val _ _ _ _ _ _ hox hoy2 HM2)))
                  repeat (go_big_quiet_step (fail))
                  refine wpQuiet_nil ?_
                  intro xq
                  go_wp2
                  go_roundw
                  case rel => exact ⟨m + 1, by omega, by go_num, Lib.hid (over_miss HX.out HM.out HO.out), Lib.hid (STm.out.ext xq)⟩
                  case measure => simp [intOf]; omega
                rw [← q0] at k0
                rcases Decidable.em (x.size = y.size) with q1 | q1
                rotate_left
                · have HO := Lib.hid (show overR x y = false by unfold overR; rw [HVM.out]; simp [regAl, regNe, hs1, hs2, q0, q1])
                  have hsy : (⟨x.base, y.size⟩ : Spn) = spnOf y := by unfold spnOf; rw [q0]
                  have hoy2 : okSp x.base y.size := by have h := hoy; rw [← q0] at h; exact h
                  have HM2 := Lib.hid (show meetS ⟨x.base, x.size⟩ ⟨x.base, y.size⟩ = true from (congrArg (meetS (spnOf x)) hsy).trans HVM.out)
                  clear hsy q0
                  go_wp2_with fail
                  refine wp_region_ext (by kernel_rfl) (by kernel_rfl) ?_
                  repeat (go_big_quiet_step (fail))
                  go_big_quiet_step ((go_at_call 23; exact Calls.quiet_ext (rSpan_ok ⟨x.base, x.size, x.part, x.rights, true⟩ _)))
                  repeat (go_big_quiet_step (fail))
                  go_big_quiet_step ((go_at_call 23; exact Calls.quiet_ext (rSpan_ok ⟨x.base, y.size, y.part, y.rights, true⟩ _)))
                  repeat (go_big_quiet_step (fail))
                  go_big_quiet_step ((go_at_call 24; exact Calls.quiet_ext (meet_val _ _ _ _ _ _ hox hoy2 HM2)))
                  repeat (go_big_quiet_step (fail))
                  refine wpQuiet_nil ?_
                  intro xq
                  go_wp2
                  go_roundw
                  case rel => exact ⟨m + 1, by omega, by go_num, Lib.hid (over_miss HX.out HM.out HO.out), Lib.hid (STm.out.ext xq)⟩
                  case measure => simp [intOf]; omega
                rw [← q1] at k1
                rcases Decidable.em (x.part = y.part) with q2 | q2
                rotate_left
                · have HO := Lib.hid (show overR x y = false by unfold overR; rw [HVM.out]; simp [regAl, regNe, hs1, hs2, q0, q1, q2])
                  have hsy : (⟨x.base, x.size⟩ : Spn) = spnOf y := by unfold spnOf; rw [q0, q1]
                  have hoy2 : okSp x.base x.size := by have h := hoy; rw [← q0, ← q1] at h; exact h
                  have HM2 := Lib.hid (show meetS ⟨x.base, x.size⟩ ⟨x.base, x.size⟩ = true from (congrArg (meetS (spnOf x)) hsy).trans HVM.out)
                  clear hsy q0 q1
                  go_wp2_with fail
                  refine wp_region_ext (by kernel_rfl) (by kernel_rfl) ?_
                  repeat (go_big_quiet_step (fail))
                  go_big_quiet_step ((go_at_call 23; exact Calls.quiet_ext (rSpan_ok ⟨x.base, x.size, x.part, x.rights, true⟩ _)))
                  repeat (go_big_quiet_step (fail))
                  go_big_quiet_step ((go_at_call 23; exact Calls.quiet_ext (rSpan_ok ⟨x.base, x.size, y.part, y.rights, true⟩ _)))
                  repeat (go_big_quiet_step (fail))
                  go_big_quiet_step ((go_at_call 24; exact Calls.quiet_ext (meet_val _ _ _ _ _ _ hox hoy2 HM2)))
                  repeat (go_big_quiet_step (fail))
                  refine wpQuiet_nil ?_
                  intro xq
                  go_wp2
                  go_roundw
                  case rel => exact ⟨m + 1, by omega, by go_num, Lib.hid (over_miss HX.out HM.out HO.out), Lib.hid (STm.out.ext xq)⟩
                  case measure => simp [intOf]; omega
                rw [← q2] at k2
                rcases Decidable.em (x.rights = y.rights) with q3 | q3
                rotate_left
                · have HO := Lib.hid (show overR x y = false by unfold overR; rw [HVM.out]; simp [regAl, regNe, hs1, hs2, q0, q1, q2, q3])
                  have hsy : (⟨x.base, x.size⟩ : Spn) = spnOf y := by unfold spnOf; rw [q0, q1]
                  have hoy2 : okSp x.base x.size := by have h := hoy; rw [← q0, ← q1] at h; exact h
                  have HM2 := Lib.hid (show meetS ⟨x.base, x.size⟩ ⟨x.base, x.size⟩ = true from (congrArg (meetS (spnOf x)) hsy).trans HVM.out)
                  clear hsy q0 q1 q2
                  go_wp2_with fail
                  refine wp_region_ext (by kernel_rfl) (by kernel_rfl) ?_
                  repeat (go_big_quiet_step (fail))
                  go_big_quiet_step ((go_at_call 23; exact Calls.quiet_ext (rSpan_ok ⟨x.base, x.size, x.part, x.rights, true⟩ _)))
                  repeat (go_big_quiet_step (fail))
                  go_big_quiet_step ((go_at_call 23; exact Calls.quiet_ext (rSpan_ok ⟨x.base, x.size, x.part, y.rights, true⟩ _)))
                  repeat (go_big_quiet_step (fail))
                  go_big_quiet_step ((go_at_call 24; exact Calls.quiet_ext (meet_val _ _ _ _ _ _ hox hoy2 HM2)))
                  repeat (go_big_quiet_step (fail))
                  refine wpQuiet_nil ?_
                  intro xq
                  go_wp2
                  go_roundw
                  case rel => exact ⟨m + 1, by omega, by go_num, Lib.hid (over_miss HX.out HM.out HO.out), Lib.hid (STm.out.ext xq)⟩
                  case measure => simp [intOf]; omega
                rw [← q3] at k3
                have HO := Lib.hid (show overR x y = true by unfold overR; rw [HVM.out]; simp [regAl, regNe, hs1, hs2, q0, q1, q2, q3])
                have hsy : (⟨x.base, x.size⟩ : Spn) = spnOf y := by unfold spnOf; rw [q0, q1]
                have hoy2 : okSp x.base x.size := by have h := hoy; rw [← q0, ← q1] at h; exact h
                have HM2 := Lib.hid (show meetS ⟨x.base, x.size⟩ ⟨x.base, x.size⟩ = true from (congrArg (meetS (spnOf x)) hsy).trans HVM.out)
                clear hsy q0 q1 q2 q3
                go_wp2_with fail
                refine wp_region_ext (by kernel_rfl) (by kernel_rfl) ?_
                repeat (go_big_quiet_step (fail))
                go_big_quiet_step ((go_at_call 23; exact Calls.quiet_ext (rSpan_ok ⟨x.base, x.size, x.part, x.rights, true⟩ _)))
                repeat (go_big_quiet_step (fail))
                go_big_quiet_step ((go_at_call 23; exact Calls.quiet_ext (rSpan_ok ⟨x.base, x.size, x.part, x.rights, true⟩ _)))
                repeat (go_big_quiet_step (fail))
                go_big_quiet_step ((go_at_call 24; exact Calls.quiet_ext (meet_val _ _ _ _ _ _ hox hoy2 HM2)))
                repeat (go_big_quiet_step (fail))
                refine wpQuiet_nil ?_
                intro xq
                go_wp2
                go_ret2
                refine ⟨ret_pairM (p := (21, (n : Int))) ?_, (STm.out.ext xq).bel⟩
                have hc := over_hit HY.out HX.out hml HO.out
                rw [HMB.out, bad_hit hrest.out HCL.out (by rw [hc]; decide), hc]
            · obtain rfl : m = n := by omega
              have HC := Lib.hid (over_end HY.out HM.out)
              obtain ⟨x0, x1, x2, x3, x4, x5, hz⟩ := STm.out.cells
              go_wp2
              go_roundw
              case rel => exact ⟨m + 1, by omega, by go_num, Lib.hid (bad_miss hrest.out (by rw [HCL.out, HC.out])), STm⟩
              case measure => simp [intOf]; omega
        · obtain rfl : n = c.regs.length := by omega
          have hcb : clashBad c.regs = (0, 0) := bad_end (l := (List.range c.regs.length).map (clashAt c.regs)) (by simpa using hrest.out)
          have HE := Lib.hid (HMB.out.trans hcb)
          clear hcb
          go_wp2
          go_ret2
          exact ⟨ret_pairM (p := (0, 0)) HE.out.symm, STn.out.bel⟩
end Go.Proofs.Ytaakcpdpkcadjaa
