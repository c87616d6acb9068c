/-
  conf.Check, walked: the fault of the limits, of the names, of the rights.
-/
import Derived.Test.YtldchpmilknlmaaGreatChkP
import Derived.Test.YtldchpmilknlmaaGreatNameW
import Derived.Test.YtldchpmilknlmaaGreatCntW
namespace Go.Proofs.YtldchpmilknlmaaGreat
open Go.RowKit
theorem chkFnPar_ok (x : Par) (w : World) (v : Bool) (hv : Hid (badPar x = v)) : Calls Tryz.prog 72 #[.agg #[.int .u16 x.id, .string x.name, .int .u64 x.period, .int .u64 x.duration]] w fun e w' => e = .returned (.bool v) ∧ Below w.heap.size w w' := by
  obtain ⟨u, hu⟩ : ∃ u, nameOk x.name = u := ⟨_, rfl⟩
  have hvu : v = !u := by rw [← hv.out, ← hu]; rfl
  have hb := below_one w (.cells #[.int .u16 x.id, .string x.name, .int .u64 x.period, .int .u64 x.duration] 36)
  have HC := Lib.hid (show ∀ W, Calls Tryz.prog 73 #[.string x.name] W fun e w' => e = .returned (.bool u) ∧ Below W.heap.size W w' from fun W => by rw [← hu]; exact nameValid_ok x.name W)
  have HVU := Lib.hid hvu
  clear hu hv hvu
  go_enter Tryz.func72, Tryz.ntmps72
  go_wp2_with fail
  refine (HC.out _).mono ?_
  rintro e w1 ⟨rfl, hb1⟩
  have HZ := Lib.hid (Below.then_ hb hb1)
  clear hb hb1
  go_wp2
  go_ret
  exact ⟨by rw [HVU.out]; rfl, HZ.out⟩
set_option maxRecDepth 100000 in
set_option maxHeartbeats 2000000 in
theorem idxFPar_ok (l : List Par) (A : Option Addr) (cp : Nat) (w : World) (hl : l.length ≤ 4194304) (hR : Rd w w.heap.size 4 A l.length (l.flatMap Par.cells)) (v : Int) (hv : Hid (idx badPar l = v)) :
    Calls Tryz.prog 71 #[.slice A l.length cp, .func (.func 72) #[] #[]] w fun e w' => e = .returned (.int .i64 v) ∧ Below w.heap.size w w' := by
  have hent : ∀ a w, (callFunc 72 a).run Tryz.prog w = .ok (.enter 72 a) w := enters_of Tryz.func72 (by kernel_rfl) rfl
  have HR := Lib.hid hR
  clear hR
  go_enter Tryz.func71, Tryz.ntmps71
  go_wp2
  go_loopw [8] (fun i wr => ∃ k : Nat, k ≤ l.length ∧ i = .int .i64 k ∧ Hid (v = idxFrom badPar k (l.drop k)) ∧ Hid (Below w.heap.size w wr)) (fun i _ => l.length - (intOf i).toNat)
  case atStart => exact ⟨0, Nat.zero_le _, rfl, Lib.hid (by rw [← hv.out]; rfl), Lib.hid (Below.refl _ _)⟩
  case round =>
    obtain ⟨k, hk, rfl, HI, HW⟩ := hrel
    by_cases hlt : k < l.length
    · obtain ⟨x, hx⟩ := get_lt hlt
      obtain ⟨b, o, rfl, hb, g0, g1, g2, g3⟩ := par_at (HR.out.up HW.out) hx
      have k0 : (0 : Int) ≤ (k : Int) := by omega
      have k1 : (k : Int) < (l.length : Int) := by omega
      have HX := Lib.hid hx
      obtain ⟨u, hu⟩ : ∃ u, badPar x = u := ⟨_, rfl⟩
      have HU := Lib.hid hu
      clear hx hu
      go_wp2_with fail
      refine (chkFnPar_ok x _ u HU).mono ?_
      rintro e w1 ⟨rfl, hb1⟩
      have HB1 := Lib.hid (Below.then_ HW.out hb1)
      clear hb1 g0 g1 g2 g3
      cases u
      · go_wp2
        go_roundw
        case rel => exact ⟨k + 1, by omega, by go_num, Lib.hid (idx_miss HI.out HX.out HU.out), HB1⟩
        case measure => simp [intOf]; omega
      · have HV := Lib.hid (idx_hit HI.out HX.out HU.out)
        go_wp2
        go_ret
        exact ⟨by rw [HV.out]; rfl, HB1.out⟩
    · obtain rfl : k = l.length := by omega
      have HV := Lib.hid (idx_end HI.out)
      go_wp2
      go_ret
      exact ⟨by rw [HV.out]; rfl, HW.out⟩
theorem chkFnPrt_ok (x : Prt) (w : World) (v : Bool) (hv : Hid (badPrt x = v)) : Calls Tryz.prog 75 #[.agg #[.int .u16 x.id, .int .u16 x.part, .string x.name, .bool x.output, .bool x.queuing, .int .u32 x.size]] w fun e w' => e = .returned (.bool v) ∧ Below w.heap.size w w' := by
  obtain ⟨u, hu⟩ : ∃ u, nameOk x.name = u := ⟨_, rfl⟩
  have hvu : v = !u := by rw [← hv.out, ← hu]; rfl
  have hb := below_one w (.cells #[.int .u16 x.id, .int .u16 x.part, .string x.name, .bool x.output, .bool x.queuing, .int .u32 x.size] 43)
  have HC := Lib.hid (show ∀ W, Calls Tryz.prog 73 #[.string x.name] W fun e w' => e = .returned (.bool u) ∧ Below W.heap.size W w' from fun W => by rw [← hu]; exact nameValid_ok x.name W)
  have HVU := Lib.hid hvu
  clear hu hv hvu
  go_enter Tryz.func75, Tryz.ntmps75
  go_wp2_with fail
  refine (HC.out _).mono ?_
  rintro e w1 ⟨rfl, hb1⟩
  have HZ := Lib.hid (Below.then_ hb hb1)
  clear hb hb1
  go_wp2
  go_ret
  exact ⟨by rw [HVU.out]; rfl, HZ.out⟩
set_option maxRecDepth 100000 in
set_option maxHeartbeats 2000000 in
theorem idxFPrt_ok (l : List Prt) (A : Option Addr) (cp : Nat) (w : World) (hl : l.length ≤ 4194304) (hR : Rd w w.heap.size 6 A l.length (l.flatMap Prt.cells)) (v : Int) (hv : Hid (idx badPrt l = v)) :
    Calls Tryz.prog 74 #[.slice A l.length cp, .func (.func 75) #[] #[]] w fun e w' => e = .returned (.int .i64 v) ∧ Below w.heap.size w w' := by
  have hent : ∀ a w, (callFunc 75 a).run Tryz.prog w = .ok (.enter 75 a) w := enters_of Tryz.func75 (by kernel_rfl) rfl
  have HR := Lib.hid hR
  clear hR
  go_enter Tryz.func74, Tryz.ntmps74
  go_wp2
  go_loopw [8] (fun i wr => ∃ k : Nat, k ≤ l.length ∧ i = .int .i64 k ∧ Hid (v = idxFrom badPrt k (l.drop k)) ∧ Hid (Below w.heap.size w wr)) (fun i _ => l.length - (intOf i).toNat)
  case atStart => exact ⟨0, Nat.zero_le _, rfl, Lib.hid (by rw [← hv.out]; rfl), Lib.hid (Below.refl _ _)⟩
  case round =>
    obtain ⟨k, hk, rfl, HI, HW⟩ := hrel
    by_cases hlt : k < l.length
    · obtain ⟨x, hx⟩ := get_lt hlt
      obtain ⟨b, o, rfl, hb, g0, g1, g2, g3, g4, g5⟩ := prt_at (HR.out.up HW.out) hx
      have k0 : (0 : Int) ≤ (k : Int) := by omega
      have k1 : (k : Int) < (l.length : Int) := by omega
      have HX := Lib.hid hx
      obtain ⟨u, hu⟩ : ∃ u, badPrt x = u := ⟨_, rfl⟩
      have HU := Lib.hid hu
      clear hx hu
      go_wp2_with fail
      refine (chkFnPrt_ok x _ u HU).mono ?_
      rintro e w1 ⟨rfl, hb1⟩
      have HB1 := Lib.hid (Below.then_ HW.out hb1)
      clear hb1 g0 g1 g2 g3 g4 g5
      cases u
      · go_wp2
        go_roundw
        case rel => exact ⟨k + 1, by omega, by go_num, Lib.hid (idx_miss HI.out HX.out HU.out), HB1⟩
        case measure => simp [intOf]; omega
      · have HV := Lib.hid (idx_hit HI.out HX.out HU.out)
        go_wp2
        go_ret
        exact ⟨by rw [HV.out]; rfl, HB1.out⟩
    · obtain rfl : k = l.length := by omega
      have HV := Lib.hid (idx_end HI.out)
      go_wp2
      go_ret
      exact ⟨by rw [HV.out]; rfl, HW.out⟩
theorem chkFnReg_ok (x : Reg) (w : World) (v : Bool) (hv : Hid (badReg x = v)) : Calls Tryz.prog 77 #[.agg #[.int .u64 x.base, .int .u64 x.size, .int .u16 x.part, .int .u8 x.rights, .bool x.shared]] w fun e w' => e = .returned (.bool v) ∧ Below w.heap.size w w' := by
  have hb := below_one w (.cells #[.int .u64 x.base, .int .u64 x.size, .int .u16 x.part, .int .u8 x.rights, .bool x.shared] 40)
  by_cases h7 : 7 < x.rights
  · have HV := Lib.hid (show v = true by rw [← hv.out]; unfold badReg; exact decide_eq_true h7)
    clear hv
    go_enter Tryz.func77, Tryz.ntmps77
    go_wp2
    go_ret
    exact ⟨by rw [HV.out]; first | rfl | simp [h7], hb⟩
  · have HV := Lib.hid (show v = false by rw [← hv.out]; unfold badReg; exact decide_eq_false h7)
    clear hv
    go_enter Tryz.func77, Tryz.ntmps77
    go_wp2
    go_ret
    exact ⟨by rw [HV.out]; first | rfl | simp [h7], hb⟩
set_option maxRecDepth 100000 in
set_option maxHeartbeats 2000000 in
theorem idxFReg_ok (l : List Reg) (A : Option Addr) (cp : Nat) (w : World) (hl : l.length ≤ 4194304) (hR : Rd w w.heap.size 5 A l.length (l.flatMap Reg.cells)) (v : Int) (hv : Hid (idx badReg l = v)) :
    Calls Tryz.prog 76 #[.slice A l.length cp, .func (.func 77) #[] #[]] w fun e w' => e = .returned (.int .i64 v) ∧ Below w.heap.size w w' := by
  have hent : ∀ a w, (callFunc 77 a).run Tryz.prog w = .ok (.enter 77 a) w := enters_of Tryz.func77 (by kernel_rfl) rfl
  have HR := Lib.hid hR
  clear hR
  go_enter Tryz.func76, Tryz.ntmps76
  go_wp2
  go_loopw [8] (fun i wr => ∃ k : Nat, k ≤ l.length ∧ i = .int .i64 k ∧ Hid (v = idxFrom badReg k (l.drop k)) ∧ Hid (Below w.heap.size w wr)) (fun i _ => l.length - (intOf i).toNat)
  case atStart => exact ⟨0, Nat.zero_le _, rfl, Lib.hid (by rw [← hv.out]; rfl), Lib.hid (Below.refl _ _)⟩
  case round =>
    obtain ⟨k, hk, rfl, HI, HW⟩ := hrel
    by_cases hlt : k < l.length
    · obtain ⟨x, hx⟩ := get_lt hlt
      obtain ⟨b, o, rfl, hb, g0, g1, g2, g3, g4⟩ := reg_at (HR.out.up HW.out) hx
      have k0 : (0 : Int) ≤ (k : Int) := by omega
      have k1 : (k : Int) < (l.length : Int) := by omega
      have HX := Lib.hid hx
      obtain ⟨u, hu⟩ : ∃ u, badReg x = u := ⟨_, rfl⟩
      have HU := Lib.hid hu
      clear hx hu
      go_wp2_with fail
      refine (chkFnReg_ok x _ u HU).mono ?_
      rintro e w1 ⟨rfl, hb1⟩
      have HB1 := Lib.hid (Below.then_ HW.out hb1)
      clear hb1 g0 g1 g2 g3 g4
      cases u
      · go_wp2
        go_roundw
        case rel => exact ⟨k + 1, by omega, by go_num, Lib.hid (idx_miss HI.out HX.out HU.out), HB1⟩
        case measure => simp [intOf]; omega
      · have HV := Lib.hid (idx_hit HI.out HX.out HU.out)
        go_wp2
        go_ret
        exact ⟨by rw [HV.out]; rfl, HB1.out⟩
    · obtain rfl : k = l.length := by omega
      have HV := Lib.hid (idx_end HI.out)
      go_wp2
      go_ret
      exact ⟨by rw [HV.out]; rfl, HW.out⟩
theorem idx7_0 (a0 a1 a2 a3 a4 a5 a6 : Int) (w : World) : (Instr.index 52 (.agg #[.int .i64 a0, .int .i64 a1, .int .i64 a2, .int .i64 a3, .int .i64 a4, .int .i64 a5, .int .i64 a6]) (.int .i64 (((0 : Nat) : Int)))).run Tryz.prog w = .ok (.int .i64 a0) w := by kernel_rfl
theorem idx7_1 (a0 a1 a2 a3 a4 a5 a6 : Int) (w : World) : (Instr.index 52 (.agg #[.int .i64 a0, .int .i64 a1, .int .i64 a2, .int .i64 a3, .int .i64 a4, .int .i64 a5, .int .i64 a6]) (.int .i64 (((1 : Nat) : Int)))).run Tryz.prog w = .ok (.int .i64 a1) w := by kernel_rfl
theorem idx7_2 (a0 a1 a2 a3 a4 a5 a6 : Int) (w : World) : (Instr.index 52 (.agg #[.int .i64 a0, .int .i64 a1, .int .i64 a2, .int .i64 a3, .int .i64 a4, .int .i64 a5, .int .i64 a6]) (.int .i64 (((2 : Nat) : Int)))).run Tryz.prog w = .ok (.int .i64 a2) w := by kernel_rfl
theorem idx7_3 (a0 a1 a2 a3 a4 a5 a6 : Int) (w : World) : (Instr.index 52 (.agg #[.int .i64 a0, .int .i64 a1, .int .i64 a2, .int .i64 a3, .int .i64 a4, .int .i64 a5, .int .i64 a6]) (.int .i64 (((3 : Nat) : Int)))).run Tryz.prog w = .ok (.int .i64 a3) w := by kernel_rfl
theorem idx7_4 (a0 a1 a2 a3 a4 a5 a6 : Int) (w : World) : (Instr.index 52 (.agg #[.int .i64 a0, .int .i64 a1, .int .i64 a2, .int .i64 a3, .int .i64 a4, .int .i64 a5, .int .i64 a6]) (.int .i64 (((4 : Nat) : Int)))).run Tryz.prog w = .ok (.int .i64 a4) w := by kernel_rfl
theorem idx7_5 (a0 a1 a2 a3 a4 a5 a6 : Int) (w : World) : (Instr.index 52 (.agg #[.int .i64 a0, .int .i64 a1, .int .i64 a2, .int .i64 a3, .int .i64 a4, .int .i64 a5, .int .i64 a6]) (.int .i64 (((5 : Nat) : Int)))).run Tryz.prog w = .ok (.int .i64 a5) w := by kernel_rfl
theorem idx7_6 (a0 a1 a2 a3 a4 a5 a6 : Int) (w : World) : (Instr.index 52 (.agg #[.int .i64 a0, .int .i64 a1, .int .i64 a2, .int .i64 a3, .int .i64 a4, .int .i64 a5, .int .i64 a6]) (.int .i64 (((6 : Nat) : Int)))).run Tryz.prog w = .ok (.int .i64 a6) w := by kernel_rfl
theorem idx7n_0 (a0 a1 a2 a3 a4 a5 a6 : Int) (w : World) : (Instr.index 52 (.agg #[.int .i64 a0, .int .i64 a1, .int .i64 a2, .int .i64 a3, .int .i64 a4, .int .i64 a5, .int .i64 a6]) (.int .i64 ((((0 : Int)))))).run Tryz.prog w = .ok (.int .i64 a0) w := by kernel_rfl
theorem idx7n_1 (a0 a1 a2 a3 a4 a5 a6 : Int) (w : World) : (Instr.index 52 (.agg #[.int .i64 a0, .int .i64 a1, .int .i64 a2, .int .i64 a3, .int .i64 a4, .int .i64 a5, .int .i64 a6]) (.int .i64 ((((1 : Int)))))).run Tryz.prog w = .ok (.int .i64 a1) w := by kernel_rfl
theorem idx7n_2 (a0 a1 a2 a3 a4 a5 a6 : Int) (w : World) : (Instr.index 52 (.agg #[.int .i64 a0, .int .i64 a1, .int .i64 a2, .int .i64 a3, .int .i64 a4, .int .i64 a5, .int .i64 a6]) (.int .i64 ((((2 : Int)))))).run Tryz.prog w = .ok (.int .i64 a2) w := by kernel_rfl
theorem idx7n_3 (a0 a1 a2 a3 a4 a5 a6 : Int) (w : World) : (Instr.index 52 (.agg #[.int .i64 a0, .int .i64 a1, .int .i64 a2, .int .i64 a3, .int .i64 a4, .int .i64 a5, .int .i64 a6]) (.int .i64 ((((3 : Int)))))).run Tryz.prog w = .ok (.int .i64 a3) w := by kernel_rfl
theorem idx7n_4 (a0 a1 a2 a3 a4 a5 a6 : Int) (w : World) : (Instr.index 52 (.agg #[.int .i64 a0, .int .i64 a1, .int .i64 a2, .int .i64 a3, .int .i64 a4, .int .i64 a5, .int .i64 a6]) (.int .i64 ((((4 : Int)))))).run Tryz.prog w = .ok (.int .i64 a4) w := by kernel_rfl
theorem idx7n_5 (a0 a1 a2 a3 a4 a5 a6 : Int) (w : World) : (Instr.index 52 (.agg #[.int .i64 a0, .int .i64 a1, .int .i64 a2, .int .i64 a3, .int .i64 a4, .int .i64 a5, .int .i64 a6]) (.int .i64 ((((5 : Int)))))).run Tryz.prog w = .ok (.int .i64 a5) w := by kernel_rfl
theorem idx7n_6 (a0 a1 a2 a3 a4 a5 a6 : Int) (w : World) : (Instr.index 52 (.agg #[.int .i64 a0, .int .i64 a1, .int .i64 a2, .int .i64 a3, .int .i64 a4, .int .i64 a5, .int .i64 a6]) (.int .i64 ((((6 : Int)))))).run Tryz.prog w = .ok (.int .i64 a6) w := by kernel_rfl
attribute [local go_sem] idx7_0 idx7n_0 idx7_1 idx7n_1 idx7_2 idx7n_2 idx7_3 idx7n_3 idx7_4 idx7n_4 idx7_5 idx7n_5 idx7_6 idx7n_6
theorem limits_ok (w : World) : Calls Tryz.prog 70 #[] w fun e w' => e = .returned (.agg #[.int .i64 0, .int .i64 64, .int .i64 1024, .int .i64 1024, .int .i64 1024, .int .i64 512, .int .i64 1024]) ∧ Below w.heap.size w w' := by
  go_enter Tryz.func70, Tryz.ntmps70
  go_wp2
  refine bodyPost_ret (v := .agg #[.int .i64 0, .int .i64 64, .int .i64 1024, .int .i64 1024, .int .i64 1024, .int .i64 512, .int .i64 1024]) (by simp [results, Tryz.results70, go_sem]) rfl ⟨rfl, ?_⟩
  first | exact below_one _ _ | (repeat (first | exact Below.refl _ _ | refine Below.setCell ?_ (by simp) _ | refine Below.alloc ?_ (by simp) _))
set_option maxRecDepth 100000 in
set_option maxHeartbeats 16000000 in
theorem confCheck_ok (c : Cfg) (A1 A2 A3 A4 A5 : Option Addr) (c1 c2 c3 c4 c5 : Nat) (w : World) (hR : CfgR w w.heap.size c A1 A2 A3 A4 A5 c1 c2 c3 c4 c5) (ht : c.total ≤ 4194304) (ec sc ic : Int) (hv : Hid (chkBad c = (ec, sc, ic))) : Calls Tryz.prog 30 #[cfgV c.frame A1 A2 A3 A4 A5 c.parts.length c.wins.length c.regs.length c.ports.length c.chans.length c1 c2 c3 c4 c5] w fun e w' => e = .returned (.agg #[.int .i64 ec, .int .i64 sc, .int .i64 ic]) ∧ Below w.heap.size w w' := by
  obtain ⟨W0, hW, st⟩ := St.start_any hR 29
  have HW := Lib.hid hW
  have e0 : W0.heap.size = w.heap.size + 1 := by rw [← hW]; simp
  have hres := Blk.new W0 65 #[.int .i64 0, .int .i64 0, .int .i64 0]
  have hb1 := below_one W0 (.cells #[.int .i64 0, .int .i64 0, .int .i64 0] 65)
  obtain ⟨W1, hW1⟩ : ∃ W1, W0.alloc (.cells #[.int .i64 0, .int .i64 0, .int .i64 0] 65) = W1 := ⟨_, rfl⟩
  rw [hW1] at hres hb1
  rw [e0] at hres
  have HW1 := Lib.hid hW1
  have HRES := Lib.hid hres
  have ST1 := Lib.hid (st.up hb1)
  have hsd : sumDests c.chans ≤ 4194304 := by unfold Cfg.total at ht; omega
  have b1 : c.parts.length ≤ 4194304 := by unfold Cfg.total at ht; omega
  have b2 : c.wins.length ≤ 4194304 := by unfold Cfg.total at ht; omega
  have b3 : c.regs.length ≤ 4194304 := by unfold Cfg.total at ht; omega
  have b4 : c.ports.length ≤ 4194304 := by unfold Cfg.total at ht; omega
  have b5 : c.chans.length ≤ 4194304 := by unfold Cfg.total at ht; omega
  clear hR hW st hres hb1 hW1 e0
  go_enter Tryz.func30, Tryz.ntmps30
  go_upto_region 1 with (fail)
  rw [HW.out, HW1.out]
  go_wp2_with fail
  refine (limits_ok W1).mono ?_
  rintro e w2 ⟨rfl, hb2⟩
  have hlm := Blk.new w2 52 #[.int .i64 0, .int .i64 64, .int .i64 1024, .int .i64 1024, .int .i64 1024, .int .i64 512, .int .i64 1024]
  have hb3 := below_one w2 (.cells #[.int .i64 0, .int .i64 64, .int .i64 1024, .int .i64 1024, .int .i64 1024, .int .i64 512, .int .i64 1024] 52)
  obtain ⟨W3, hW3⟩ : ∃ W3, w2.alloc (.cells #[.int .i64 0, .int .i64 64, .int .i64 1024, .int .i64 1024, .int .i64 1024, .int .i64 512, .int .i64 1024] 52) = W3 := ⟨_, rfl⟩
  rw [hW3] at hlm hb3
  have HW3 := Lib.hid hW3
  have HLM := Lib.hid hlm
  have ST3 := Lib.hid ((ST1.out.up hb2).up hb3)
  have HR3 := Lib.hid ((HRES.out.below hb2 HRES.out.lt).below hb3 (by have := HRES.out.lt; have := hb2.size; omega))
  clear hlm hb3 hb2 hW3
  go_upto_region 2 with (fail)
  rw [HW3.out]
  obtain ⟨x0, x1, x2, x3, x4, x5, hz⟩ := ST3.out.cells
  go_wp2_with fail
  refine (countsW_ok c _ _ _ _ _ _ _ _ _ _ _ ST3.out.R ht).mono ?_
  rintro e w4 ⟨rfl, hb4⟩
  have ST4 := Lib.hid (ST3.out.up hb4)
  have HLM4 := Lib.hid (HLM.out.below hb4 HLM.out.lt)
  have HR4 := Lib.hid (HR3.out.below hb4 HR3.out.lt)
  clear hb4 x0 x1 x2 x3 x4 x5 hz
  generalize w2.heap.size = gl at HLM4 ⊢
  have l0 := HLM4.out.cell 0
  have l1 := HLM4.out.cell 1
  have l2 := HLM4.out.cell 2
  have l3 := HLM4.out.cell 3
  have l4 := HLM4.out.cell 4
  have l5 := HLM4.out.cell 5
  have l6 := HLM4.out.cell 6
  simp at l0 l1 l2 l3 l4 l5 l6
  have r0 := HR4.out.cell 0
  have r1 := HR4.out.cell 1
  have r2 := HR4.out.cell 2
  simp at r0 r1 r2
  have hfr := HR4.out.frozen
  have hrl := HR4.out.lt
  have HLL := Lib.hid (show W3.heap.size = W3.heap.size from rfl)
  go_wp2
  go_loopw [12] (fun i wr => ∃ k : Nat, k ≤ 7 ∧ i = .int .i64 k ∧ Hid (∀ j, 1 ≤ j → j < k → overC c j = false) ∧ wr = w4) (fun i _ => 7 - (intOf i).toNat)
  case atStart => exact ⟨0, by omega, rfl, Lib.hid (fun j h1 h2 => by omega), by first | rfl | trivial⟩
  case round =>
    obtain ⟨k, hk, rfl, HG, rfl⟩ := hrel
    rcases (show k = 0 ∨ k = 1 ∨ k = 2 ∨ k = 3 ∨ k = 4 ∨ k = 5 ∨ k = 6 ∨ k = 7 by omega) with rfl | rfl | rfl | rfl | rfl | rfl | rfl | rfl
    · have hix := fun w => idx7_0 0 c.parts.length c.wins.length c.regs.length c.ports.length c.chans.length (sumDests c.chans) w
      go_wp2
      go_roundw
      case rel => exact ⟨1, by omega, by go_num, Lib.hid (fun j h1 h2 => by omega), by first | rfl | trivial⟩
      case measure => simp [intOf]
    · have hix := fun w => idx7_1 0 c.parts.length c.wins.length c.regs.length c.ports.length c.chans.length (sumDests c.chans) w
      by_cases ho : 64 < c.parts.length
      · have hi : (64 : Int) < ((c.parts.length : Nat) : Int) := by omega
        have hch := limBad_hit (c := c) (k := 1) (by omega) (by omega) HG.out (by unfold overC limOf cntOf; exact decide_eq_true ho)
        rw [hv.out] at hch
        injection hch with e1 e2
        injection e2 with e2 e3
        have e3' : ic = 64 := by rw [e3]; rfl
        have e2' : sc = 1 := by rw [e2]; rfl
        subst e1 e2' e3'
        clear ho hv HG e2 e3
        go_wp2
        refine bodyPost_ret (v := .agg #[.int .i64 7, .int .i64 1, .int .i64 64]) (by simp [results, Tryz.results30, go_sem, r0, r1, r2]) rfl ⟨rfl, ?_⟩
        exact Below.setCell (Below.setCell (Below.setCell ST4.out.bel (by simp) _) (by simp) _) (by simp) _
      · have hi : ¬ (64 : Int) < ((c.parts.length : Nat) : Int) := by omega
        have HN := Lib.hid (show ∀ i, 1 ≤ i → i < 2 → overC c i = false from fun i h1 h2 => by
          rcases Nat.lt_succ_iff_lt_or_eq.1 h2 with h | rfl
          · exact HG.out i h1 h
          · unfold overC limOf cntOf; exact decide_eq_false ho)
        clear ho
        go_wp2
        go_roundw
        case rel => exact ⟨2, by omega, by go_num, HN, by first | rfl | trivial⟩
        case measure => simp [intOf]
    · have hix := fun w => idx7_2 0 c.parts.length c.wins.length c.regs.length c.ports.length c.chans.length (sumDests c.chans) w
      by_cases ho : 1024 < c.wins.length
      · have hi : (1024 : Int) < ((c.wins.length : Nat) : Int) := by omega
        have hch := limBad_hit (c := c) (k := 2) (by omega) (by omega) HG.out (by unfold overC limOf cntOf; exact decide_eq_true ho)
        rw [hv.out] at hch
        injection hch with e1 e2
        injection e2 with e2 e3
        have e3' : ic = 1024 := by rw [e3]; rfl
        have e2' : sc = 2 := by rw [e2]; rfl
        subst e1 e2' e3'
        clear ho hv HG e2 e3
        go_wp2
        refine bodyPost_ret (v := .agg #[.int .i64 7, .int .i64 2, .int .i64 1024]) (by simp [results, Tryz.results30, go_sem, r0, r1, r2]) rfl ⟨rfl, ?_⟩
        exact Below.setCell (Below.setCell (Below.setCell ST4.out.bel (by simp) _) (by simp) _) (by simp) _
      · have hi : ¬ (1024 : Int) < ((c.wins.length : Nat) : Int) := by omega
        have HN := Lib.hid (show ∀ i, 1 ≤ i → i < 3 → overC c i = false from fun i h1 h2 => by
          rcases Nat.lt_succ_iff_lt_or_eq.1 h2 with h | rfl
          · exact HG.out i h1 h
          · unfold overC limOf cntOf; exact decide_eq_false ho)
        clear ho
        go_wp2
        go_roundw
        case rel => exact ⟨3, by omega, by go_num, HN, by first | rfl | trivial⟩
        case measure => simp [intOf]
    · have hix := fun w => idx7_3 0 c.parts.length c.wins.length c.regs.length c.ports.length c.chans.length (sumDests c.chans) w
      by_cases ho : 1024 < c.regs.length
      · have hi : (1024 : Int) < ((c.regs.length : Nat) : Int) := by omega
        have hch := limBad_hit (c := c) (k := 3) (by omega) (by omega) HG.out (by unfold overC limOf cntOf; exact decide_eq_true ho)
        rw [hv.out] at hch
        injection hch with e1 e2
        injection e2 with e2 e3
        have e3' : ic = 1024 := by rw [e3]; rfl
        have e2' : sc = 3 := by rw [e2]; rfl
        subst e1 e2' e3'
        clear ho hv HG e2 e3
        go_wp2
        refine bodyPost_ret (v := .agg #[.int .i64 7, .int .i64 3, .int .i64 1024]) (by simp [results, Tryz.results30, go_sem, r0, r1, r2]) rfl ⟨rfl, ?_⟩
        exact Below.setCell (Below.setCell (Below.setCell ST4.out.bel (by simp) _) (by simp) _) (by simp) _
      · have hi : ¬ (1024 : Int) < ((c.regs.length : Nat) : Int) := by omega
        have HN := Lib.hid (show ∀ i, 1 ≤ i → i < 4 → overC c i = false from fun i h1 h2 => by
          rcases Nat.lt_succ_iff_lt_or_eq.1 h2 with h | rfl
          · exact HG.out i h1 h
          · unfold overC limOf cntOf; exact decide_eq_false ho)
        clear ho
        go_wp2
        go_roundw
        case rel => exact ⟨4, by omega, by go_num, HN, by first | rfl | trivial⟩
        case measure => simp [intOf]
    · have hix := fun w => idx7_4 0 c.parts.length c.wins.length c.regs.length c.ports.length c.chans.length (sumDests c.chans) w
      by_cases ho : 1024 < c.ports.length
      · have hi : (1024 : Int) < ((c.ports.length : Nat) : Int) := by omega
        have hch := limBad_hit (c := c) (k := 4) (by omega) (by omega) HG.out (by unfold overC limOf cntOf; exact decide_eq_true ho)
        rw [hv.out] at hch
        injection hch with e1 e2
        injection e2 with e2 e3
        have e3' : ic = 1024 := by rw [e3]; rfl
        have e2' : sc = 4 := by rw [e2]; rfl
        subst e1 e2' e3'
        clear ho hv HG e2 e3
        go_wp2
        refine bodyPost_ret (v := .agg #[.int .i64 7, .int .i64 4, .int .i64 1024]) (by simp [results, Tryz.results30, go_sem, r0, r1, r2]) rfl ⟨rfl, ?_⟩
        exact Below.setCell (Below.setCell (Below.setCell ST4.out.bel (by simp) _) (by simp) _) (by simp) _
      · have hi : ¬ (1024 : Int) < ((c.ports.length : Nat) : Int) := by omega
        have HN := Lib.hid (show ∀ i, 1 ≤ i → i < 5 → overC c i = false from fun i h1 h2 => by
          rcases Nat.lt_succ_iff_lt_or_eq.1 h2 with h | rfl
          · exact HG.out i h1 h
          · unfold overC limOf cntOf; exact decide_eq_false ho)
        clear ho
        go_wp2
        go_roundw
        case rel => exact ⟨5, by omega, by go_num, HN, by first | rfl | trivial⟩
        case measure => simp [intOf]
    · have hix := fun w => idx7_5 0 c.parts.length c.wins.length c.regs.length c.ports.length c.chans.length (sumDests c.chans) w
      by_cases ho : 512 < c.chans.length
      · have hi : (512 : Int) < ((c.chans.length : Nat) : Int) := by omega
        have hch := limBad_hit (c := c) (k := 5) (by omega) (by omega) HG.out (by unfold overC limOf cntOf; exact decide_eq_true ho)
        rw [hv.out] at hch
        injection hch with e1 e2
        injection e2 with e2 e3
        have e3' : ic = 512 := by rw [e3]; rfl
        have e2' : sc = 5 := by rw [e2]; rfl
        subst e1 e2' e3'
        clear ho hv HG e2 e3
        go_wp2
        refine bodyPost_ret (v := .agg #[.int .i64 7, .int .i64 5, .int .i64 512]) (by simp [results, Tryz.results30, go_sem, r0, r1, r2]) rfl ⟨rfl, ?_⟩
        exact Below.setCell (Below.setCell (Below.setCell ST4.out.bel (by simp) _) (by simp) _) (by simp) _
      · have hi : ¬ (512 : Int) < ((c.chans.length : Nat) : Int) := by omega
        have HN := Lib.hid (show ∀ i, 1 ≤ i → i < 6 → overC c i = false from fun i h1 h2 => by
          rcases Nat.lt_succ_iff_lt_or_eq.1 h2 with h | rfl
          · exact HG.out i h1 h
          · unfold overC limOf cntOf; exact decide_eq_false ho)
        clear ho
        go_wp2
        go_roundw
        case rel => exact ⟨6, by omega, by go_num, HN, by first | rfl | trivial⟩
        case measure => simp [intOf]
    · have hix := fun w => idx7_6 0 c.parts.length c.wins.length c.regs.length c.ports.length c.chans.length (sumDests c.chans) w
      by_cases ho : 1024 < sumDests c.chans
      · have hi : (1024 : Int) < ((sumDests c.chans : Nat) : Int) := by omega
        have hch := limBad_hit (c := c) (k := 6) (by omega) (by omega) HG.out (by unfold overC limOf cntOf; exact decide_eq_true ho)
        rw [hv.out] at hch
        injection hch with e1 e2
        injection e2 with e2 e3
        have e3' : ic = 1024 := by rw [e3]; rfl
        have e2' : sc = 6 := by rw [e2]; rfl
        subst e1 e2' e3'
        clear ho hv HG e2 e3
        go_wp2
        refine bodyPost_ret (v := .agg #[.int .i64 7, .int .i64 6, .int .i64 1024]) (by simp [results, Tryz.results30, go_sem, r0, r1, r2]) rfl ⟨rfl, ?_⟩
        exact Below.setCell (Below.setCell (Below.setCell ST4.out.bel (by simp) _) (by simp) _) (by simp) _
      · have hi : ¬ (1024 : Int) < ((sumDests c.chans : Nat) : Int) := by omega
        have HN := Lib.hid (show ∀ i, 1 ≤ i → i < 7 → overC c i = false from fun i h1 h2 => by
          rcases Nat.lt_succ_iff_lt_or_eq.1 h2 with h | rfl
          · exact HG.out i h1 h
          · unfold overC limOf cntOf; exact decide_eq_false ho)
        clear ho
        go_wp2
        go_roundw
        case rel => exact ⟨7, by omega, by go_num, HN, by first | rfl | trivial⟩
        case measure => simp [intOf]
    · have hnb := limBad_none HG.out
      rw [hv.out] at hnb
      have HNB := Lib.hid hnb
      obtain ⟨i1, hi1⟩ : ∃ i, idx badPar c.parts = i := ⟨_, rfl⟩
      obtain ⟨i2, hi2⟩ : ∃ i, idx badPrt c.ports = i := ⟨_, rfl⟩
      obtain ⟨i3, hi3⟩ : ∃ i, idx badReg c.regs = i := ⟨_, rfl⟩
      have HI1 := Lib.hid hi1
      have HI2 := Lib.hid hi2
      have HI3 := Lib.hid hi3
      have hnb2 : (ec, sc, ic) = if 0 ≤ i1 then (6, 1, i1) else if 0 ≤ i2 then (6, 4, i2) else if 0 ≤ i3 then ((15 : Int), (3 : Int), i3) else (0, 0, 0) := by rw [hnb]; unfold nameBads; rw [hi1, hi2, hi3]
      have HN2 := Lib.hid hnb2
      clear hnb hi1 hi2 hi3 hv HG l0 l1 l2 l3 l4 l5 l6 r0 r1 r2 hfr hrl hnb2
      obtain ⟨x0, x1, x2, x3, x4, x5, hz⟩ := ST4.out.cells
      go_wp2_with fail
      refine (idxFPar_ok c.parts _ _ _ b1 ST4.out.R.parts i1 HI1).mono ?_
      rintro e w5 ⟨rfl, hb5⟩
      have ST5 := Lib.hid (ST4.out.up hb5)
      have HR5 := Lib.hid (HR4.out.below hb5 HR4.out.lt)
      clear hb5 x0 x1 x2 x3 x4 x5 hz
      by_cases p1 : 0 ≤ i1
      · have hn2 := HN2.out
        rw [if_pos (by omega)] at hn2
        injection hn2 with e1 e2
        injection e2 with e2 e3
        subst e1 e2 e3
        have r0 := HR5.out.cell 0
        have r1 := HR5.out.cell 1
        have r2 := HR5.out.cell 2
        simp at r0 r1 r2
        have hfr := HR5.out.frozen
        have hrl := HR5.out.lt
        clear HN2 HNB HI1 HI2 HI3
        go_wp2
        refine bodyPost_ret (v := .agg #[.int .i64 6, .int .i64 1, .int .i64 _]) (by simp [results, Tryz.results30, go_sem, r0, r1, r2]) rfl ⟨rfl, ?_⟩
        exact Below.setCell (Below.setCell (Below.setCell ST5.out.bel (by simp) _) (by simp) _) (by simp) _
      obtain ⟨x0, x1, x2, x3, x4, x5, hz⟩ := ST5.out.cells
      go_wp2_with fail
      refine (idxFPrt_ok c.ports _ _ _ b4 ST5.out.R.ports i2 HI2).mono ?_
      rintro e w6 ⟨rfl, hb6⟩
      have ST6 := Lib.hid (ST5.out.up hb6)
      have HR6 := Lib.hid (HR5.out.below hb6 HR5.out.lt)
      clear hb6 x0 x1 x2 x3 x4 x5 hz
      by_cases p2 : 0 ≤ i2
      · have hn2 := HN2.out
        rw [if_neg (by omega), if_pos (by omega)] at hn2
        injection hn2 with e1 e2
        injection e2 with e2 e3
        subst e1 e2 e3
        have r0 := HR6.out.cell 0
        have r1 := HR6.out.cell 1
        have r2 := HR6.out.cell 2
        simp at r0 r1 r2
        have hfr := HR6.out.frozen
        have hrl := HR6.out.lt
        clear HN2 HNB HI1 HI2 HI3
        go_wp2
        refine bodyPost_ret (v := .agg #[.int .i64 6, .int .i64 4, .int .i64 _]) (by simp [results, Tryz.results30, go_sem, r0, r1, r2]) rfl ⟨rfl, ?_⟩
        exact Below.setCell (Below.setCell (Below.setCell ST6.out.bel (by simp) _) (by simp) _) (by simp) _
      obtain ⟨x0, x1, x2, x3, x4, x5, hz⟩ := ST6.out.cells
      go_wp2_with fail
      refine (idxFReg_ok c.regs _ _ _ b3 ST6.out.R.regs i3 HI3).mono ?_
      rintro e w7 ⟨rfl, hb7⟩
      have ST7 := Lib.hid (ST6.out.up hb7)
      have HR7 := Lib.hid (HR6.out.below hb7 HR6.out.lt)
      clear hb7 x0 x1 x2 x3 x4 x5 hz
      by_cases p3 : 0 ≤ i3
      · have hn2 := HN2.out
        rw [if_neg (by omega), if_neg (by omega), if_pos (by omega)] at hn2
        injection hn2 with e1 e2
        injection e2 with e2 e3
        subst e1 e2 e3
        have r0 := HR7.out.cell 0
        have r1 := HR7.out.cell 1
        have r2 := HR7.out.cell 2
        simp at r0 r1 r2
        have hfr := HR7.out.frozen
        have hrl := HR7.out.lt
        clear HN2 HNB HI1 HI2 HI3
        go_wp2
        refine bodyPost_ret (v := .agg #[.int .i64 15, .int .i64 3, .int .i64 _]) (by simp [results, Tryz.results30, go_sem, r0, r1, r2]) rfl ⟨rfl, ?_⟩
        exact Below.setCell (Below.setCell (Below.setCell ST7.out.bel (by simp) _) (by simp) _) (by simp) _
      · have hn2 := HN2.out
        rw [if_neg (by omega), if_neg (by omega), if_neg (by omega)] at hn2
        injection hn2 with e1 e2
        injection e2 with e2 e3
        subst e1 e2 e3
        have r0 := HR7.out.cell 0
        have r1 := HR7.out.cell 1
        have r2 := HR7.out.cell 2
        simp at r0 r1 r2
        have hfr := HR7.out.frozen
        have hrl := HR7.out.lt
        clear HN2 HNB HI1 HI2 HI3
        go_wp2
        refine bodyPost_ret (v := .agg #[.int .i64 0, .int .i64 0, .int .i64 0]) (by simp [results, Tryz.results30, go_sem, r0, r1, r2]) rfl ⟨rfl, ?_⟩
        exact Below.setCell (Below.setCell (Below.setCell ST7.out.bel (by simp) _) (by simp) _) (by simp) _
end Go.Proofs.YtldchpmilknlmaaGreat
