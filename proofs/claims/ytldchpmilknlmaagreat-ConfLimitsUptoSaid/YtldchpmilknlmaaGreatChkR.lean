/-
  Check of the reference of layer 5, walked.
-/
import Derived.BigQuiet
import Derived.OwnWalk
import Derived.Test.YtldchpmilknlmaaGreatChkC
namespace Go.Proofs.YtldchpmilknlmaaGreat
open Go.RowKit
attribute [local go_sem] ext_cell
theorem limit1_ok (w : World) : Calls Tryz.prog 31 #[.int .i64 1] w fun e w' => e = .returned (.int .i64 64) ∧ Below w.heap.size w w' := by
  go_enter Tryz.func31, Tryz.ntmps31
  go_wp2
  go_ret
  exact ⟨rfl, Below.refl _ _⟩
theorem limit2_ok (w : World) : Calls Tryz.prog 31 #[.int .i64 2] w fun e w' => e = .returned (.int .i64 1024) ∧ Below w.heap.size w w' := by
  go_enter Tryz.func31, Tryz.ntmps31
  go_wp2
  go_ret
  exact ⟨rfl, Below.refl _ _⟩
theorem limit3_ok (w : World) : Calls Tryz.prog 31 #[.int .i64 3] w fun e w' => e = .returned (.int .i64 1024) ∧ Below w.heap.size w w' := by
  go_enter Tryz.func31, Tryz.ntmps31
  go_wp2
  go_ret
  exact ⟨rfl, Below.refl _ _⟩
theorem limit4_ok (w : World) : Calls Tryz.prog 31 #[.int .i64 4] w fun e w' => e = .returned (.int .i64 1024) ∧ Below w.heap.size w w' := by
  go_enter Tryz.func31, Tryz.ntmps31
  go_wp2
  go_ret
  exact ⟨rfl, Below.refl _ _⟩
theorem limit5_ok (w : World) : Calls Tryz.prog 31 #[.int .i64 5] w fun e w' => e = .returned (.int .i64 512) ∧ Below w.heap.size w w' := by
  go_enter Tryz.func31, Tryz.ntmps31
  go_wp2
  go_ret
  exact ⟨rfl, Below.refl _ _⟩
theorem limit6_ok (w : World) : Calls Tryz.prog 31 #[.int .i64 6] w fun e w' => e = .returned (.int .i64 1024) ∧ Below w.heap.size w w' := by
  go_enter Tryz.func31, Tryz.ntmps31
  go_wp2
  go_ret
  exact ⟨rfl, Below.refl _ _⟩
set_option maxRecDepth 100000 in
set_option maxHeartbeats 16000000 in
theorem rConfCheck_ok (c : Cfg) (A1 A2 A3 A4 A5 : Option Addr) (c1 c2 c3 c4 c5 : Nat) (w : World) (hR : CfgR w w.heap.size c A1 A2 A3 A4 A5 c1 c2 c3 c4 c5) (hs : c.small) (ec sc ic : Int) (hv : Hid (chkBad c = (ec, sc, ic))) : Calls Tryz.prog 29 #[cfgV c.frame A1 A2 A3 A4 A5 c.parts.length c.wins.length c.regs.length c.ports.length c.chans.length c1 c2 c3 c4 c5] w fun e w' => e = .returned (.tuple #[.int .i64 ec, .int .i64 sc, .int .i64 ic]) ∧ Below w.heap.size w w' := by
  obtain ⟨W0, hW, st⟩ := St.start_any hR 29
  have HW := Lib.hid hW
  have ST0 := Lib.hid st
  have ht : c.total ≤ 1048576 := hs.total
  have HPN := Lib.hid hs.pnames
  have HTN := Lib.hid hs.tnames
  have hsd : sumDests c.chans ≤ 1048576 := by unfold Cfg.total at ht; omega
  have b1 : c.parts.length ≤ 1048576 := by unfold Cfg.total at ht; omega
  have b2 : c.wins.length ≤ 1048576 := by unfold Cfg.total at ht; omega
  have b3 : c.regs.length ≤ 1048576 := by unfold Cfg.total at ht; omega
  have b4 : c.ports.length ≤ 1048576 := by unfold Cfg.total at ht; omega
  have b5 : c.chans.length ≤ 1048576 := by unfold Cfg.total at ht; omega
  obtain ⟨x0, x1, x2, x3, x4, x5, hz⟩ := st.cells
  clear hR hW st
  go_enter Tryz.func29, Tryz.ntmps29
  go_upto_region 1 with (fail)
  rw [HW.out]
  go_wp2_with fail
  refine (counts_ok c _ _ _ _ _ _ _ _ _ _ _ ST0.out.R hs).mono ?_
  rintro e w1 ⟨rfl, hb1⟩
  have ST1 := Lib.hid (ST0.out.up hb1)
  clear hb1 x0 x1 x2 x3 x4 x5 hz
  go_upto_region 2 with (fail)
  have hcn := Blk.new w1 52 #[.int .i64 0, .int .i64 c.parts.length, .int .i64 c.wins.length, .int .i64 c.regs.length, .int .i64 c.ports.length, .int .i64 c.chans.length, .int .i64 (sumDests c.chans)]
  have hb2 := below_one w1 (.cells #[.int .i64 0, .int .i64 c.parts.length, .int .i64 c.wins.length, .int .i64 c.regs.length, .int .i64 c.ports.length, .int .i64 c.chans.length, .int .i64 (sumDests c.chans)] 52)
  generalize World.alloc w1 _ = W2 at hcn hb2 ⊢
  have ST2 := Lib.hid (ST1.out.up hb2)
  clear hb2
  generalize w1.heap.size = gn at hcn ⊢
  have HCN := Lib.hid hcn
  clear hcn
  go_wp2
  go_loopw [6] (fun i wr => ∃ k : Nat, 1 ≤ k ∧ k ≤ 7 ∧ i = .int .i64 k ∧ Hid (∀ j, 1 ≤ j → j < k → overC c j = false) ∧ Hid (Below W2.heap.size W2 wr)) (fun i _ => 7 - (intOf i).toNat)
  case atStart => exact ⟨1, by omega, by omega, rfl, Lib.hid (fun j h1 h2 => by omega), Lib.hid (Below.refl _ _)⟩
  case round =>
    obtain ⟨k, hk1, hk, rfl, HG, HW2⟩ := hrel
    have HCk := Lib.hid (HCN.out.below HW2.out HCN.out.lt)
    have ST := Lib.hid (ST2.out.up HW2.out)
    rcases (show k = 1 ∨ k = 2 ∨ k = 3 ∨ k = 4 ∨ k = 5 ∨ k = 6 ∨ k = 7 by omega) with rfl | rfl | rfl | rfl | rfl | rfl | rfl
    · have q := HCk.out.cell 1
      simp at q
      have hgl := HCk.out.lt
      by_cases ho : 64 < c.parts.length
      · have hi : (64 : Int) < ((c.parts.length : Nat) : Int) := by omega
        have hch := limBad_hit (c := c) (k := 1) (by omega) (by omega) HG.out (by unfold overC limOf cntOf; exact decide_eq_true ho)
        rw [hv.out] at hch
        injection hch with e1 e2
        injection e2 with e2 e3
        have e3' : ic = 64 := by rw [e3]; rfl
        have e2' : sc = 1 := by rw [e2]; rfl
        subst e1 e2' e3'
        clear ho hv HG e2 e3
        go_upto_region 5 with (fail)
        refine wp_region_ext (by kernel_rfl) (by kernel_rfl) ?_
        repeat (go_big_quiet_step ((go_at_call 31; exact Calls.quiet_ext (limit1_ok _))))
        refine wpQuiet_nil ?_
        intro xq
        have HZ := Lib.hid (ST.out.ext xq)
        clear q hgl
        go_wp2_with fail
        refine (limit1_ok _).mono ?_
        rintro e w5 ⟨rfl, hb5⟩
        have HZ5 := Lib.hid (HZ.out.up hb5).bel
        clear hb5
        go_wp2
        go_ret3
        exact ⟨rfl, HZ5.out⟩
      · have hi : ¬ (64 : Int) < ((c.parts.length : Nat) : Int) := by omega
        have HN := Lib.hid (show ∀ i, 1 ≤ i → i < 2 → overC c i = false from fun i h1 h2 => by
          rcases Nat.lt_succ_iff_lt_or_eq.1 h2 with h | rfl
          · exact HG.out i h1 h
          · unfold overC limOf cntOf; exact decide_eq_false ho)
        clear ho
        go_upto_region 5 with (fail)
        refine wp_region_ext (by kernel_rfl) (by kernel_rfl) ?_
        repeat (go_big_quiet_step ((go_at_call 31; exact Calls.quiet_ext (limit1_ok _))))
        refine wpQuiet_nil ?_
        intro xq
        have HB2 := Lib.hid (Below.then_ HW2.out (ext_below _ xq))
        clear q hgl
        go_wp2
        go_roundw
        case rel => exact ⟨2, by omega, by omega, by go_num, HN, HB2⟩
        case measure => simp [intOf]
    · have q := HCk.out.cell 2
      simp at q
      have hgl := HCk.out.lt
      by_cases ho : 1024 < c.wins.length
      · have hi : (1024 : Int) < ((c.wins.length : Nat) : Int) := by omega
        have hch := limBad_hit (c := c) (k := 2) (by omega) (by omega) HG.out (by unfold overC limOf cntOf; exact decide_eq_true ho)
        rw [hv.out] at hch
        injection hch with e1 e2
        injection e2 with e2 e3
        have e3' : ic = 1024 := by rw [e3]; rfl
        have e2' : sc = 2 := by rw [e2]; rfl
        subst e1 e2' e3'
        clear ho hv HG e2 e3
        go_upto_region 5 with (fail)
        refine wp_region_ext (by kernel_rfl) (by kernel_rfl) ?_
        repeat (go_big_quiet_step ((go_at_call 31; exact Calls.quiet_ext (limit2_ok _))))
        refine wpQuiet_nil ?_
        intro xq
        have HZ := Lib.hid (ST.out.ext xq)
        clear q hgl
        go_wp2_with fail
        refine (limit2_ok _).mono ?_
        rintro e w5 ⟨rfl, hb5⟩
        have HZ5 := Lib.hid (HZ.out.up hb5).bel
        clear hb5
        go_wp2
        go_ret3
        exact ⟨rfl, HZ5.out⟩
      · have hi : ¬ (1024 : Int) < ((c.wins.length : Nat) : Int) := by omega
        have HN := Lib.hid (show ∀ i, 1 ≤ i → i < 3 → overC c i = false from fun i h1 h2 => by
          rcases Nat.lt_succ_iff_lt_or_eq.1 h2 with h | rfl
          · exact HG.out i h1 h
          · unfold overC limOf cntOf; exact decide_eq_false ho)
        clear ho
        go_upto_region 5 with (fail)
        refine wp_region_ext (by kernel_rfl) (by kernel_rfl) ?_
        repeat (go_big_quiet_step ((go_at_call 31; exact Calls.quiet_ext (limit2_ok _))))
        refine wpQuiet_nil ?_
        intro xq
        have HB2 := Lib.hid (Below.then_ HW2.out (ext_below _ xq))
        clear q hgl
        go_wp2
        go_roundw
        case rel => exact ⟨3, by omega, by omega, by go_num, HN, HB2⟩
        case measure => simp [intOf]
    · have q := HCk.out.cell 3
      simp at q
      have hgl := HCk.out.lt
      by_cases ho : 1024 < c.regs.length
      · have hi : (1024 : Int) < ((c.regs.length : Nat) : Int) := by omega
        have hch := limBad_hit (c := c) (k := 3) (by omega) (by omega) HG.out (by unfold overC limOf cntOf; exact decide_eq_true ho)
        rw [hv.out] at hch
        injection hch with e1 e2
        injection e2 with e2 e3
        have e3' : ic = 1024 := by rw [e3]; rfl
        have e2' : sc = 3 := by rw [e2]; rfl
        subst e1 e2' e3'
        clear ho hv HG e2 e3
        go_upto_region 5 with (fail)
        refine wp_region_ext (by kernel_rfl) (by kernel_rfl) ?_
        repeat (go_big_quiet_step ((go_at_call 31; exact Calls.quiet_ext (limit3_ok _))))
        refine wpQuiet_nil ?_
        intro xq
        have HZ := Lib.hid (ST.out.ext xq)
        clear q hgl
        go_wp2_with fail
        refine (limit3_ok _).mono ?_
        rintro e w5 ⟨rfl, hb5⟩
        have HZ5 := Lib.hid (HZ.out.up hb5).bel
        clear hb5
        go_wp2
        go_ret3
        exact ⟨rfl, HZ5.out⟩
      · have hi : ¬ (1024 : Int) < ((c.regs.length : Nat) : Int) := by omega
        have HN := Lib.hid (show ∀ i, 1 ≤ i → i < 4 → overC c i = false from fun i h1 h2 => by
          rcases Nat.lt_succ_iff_lt_or_eq.1 h2 with h | rfl
          · exact HG.out i h1 h
          · unfold overC limOf cntOf; exact decide_eq_false ho)
        clear ho
        go_upto_region 5 with (fail)
        refine wp_region_ext (by kernel_rfl) (by kernel_rfl) ?_
        repeat (go_big_quiet_step ((go_at_call 31; exact Calls.quiet_ext (limit3_ok _))))
        refine wpQuiet_nil ?_
        intro xq
        have HB2 := Lib.hid (Below.then_ HW2.out (ext_below _ xq))
        clear q hgl
        go_wp2
        go_roundw
        case rel => exact ⟨4, by omega, by omega, by go_num, HN, HB2⟩
        case measure => simp [intOf]
    · have q := HCk.out.cell 4
      simp at q
      have hgl := HCk.out.lt
      by_cases ho : 1024 < c.ports.length
      · have hi : (1024 : Int) < ((c.ports.length : Nat) : Int) := by omega
        have hch := limBad_hit (c := c) (k := 4) (by omega) (by omega) HG.out (by unfold overC limOf cntOf; exact decide_eq_true ho)
        rw [hv.out] at hch
        injection hch with e1 e2
        injection e2 with e2 e3
        have e3' : ic = 1024 := by rw [e3]; rfl
        have e2' : sc = 4 := by rw [e2]; rfl
        subst e1 e2' e3'
        clear ho hv HG e2 e3
        go_upto_region 5 with (fail)
        refine wp_region_ext (by kernel_rfl) (by kernel_rfl) ?_
        repeat (go_big_quiet_step ((go_at_call 31; exact Calls.quiet_ext (limit4_ok _))))
        refine wpQuiet_nil ?_
        intro xq
        have HZ := Lib.hid (ST.out.ext xq)
        clear q hgl
        go_wp2_with fail
        refine (limit4_ok _).mono ?_
        rintro e w5 ⟨rfl, hb5⟩
        have HZ5 := Lib.hid (HZ.out.up hb5).bel
        clear hb5
        go_wp2
        go_ret3
        exact ⟨rfl, HZ5.out⟩
      · have hi : ¬ (1024 : Int) < ((c.ports.length : Nat) : Int) := by omega
        have HN := Lib.hid (show ∀ i, 1 ≤ i → i < 5 → overC c i = false from fun i h1 h2 => by
          rcases Nat.lt_succ_iff_lt_or_eq.1 h2 with h | rfl
          · exact HG.out i h1 h
          · unfold overC limOf cntOf; exact decide_eq_false ho)
        clear ho
        go_upto_region 5 with (fail)
        refine wp_region_ext (by kernel_rfl) (by kernel_rfl) ?_
        repeat (go_big_quiet_step ((go_at_call 31; exact Calls.quiet_ext (limit4_ok _))))
        refine wpQuiet_nil ?_
        intro xq
        have HB2 := Lib.hid (Below.then_ HW2.out (ext_below _ xq))
        clear q hgl
        go_wp2
        go_roundw
        case rel => exact ⟨5, by omega, by omega, by go_num, HN, HB2⟩
        case measure => simp [intOf]
    · have q := HCk.out.cell 5
      simp at q
      have hgl := HCk.out.lt
      by_cases ho : 512 < c.chans.length
      · have hi : (512 : Int) < ((c.chans.length : Nat) : Int) := by omega
        have hch := limBad_hit (c := c) (k := 5) (by omega) (by omega) HG.out (by unfold overC limOf cntOf; exact decide_eq_true ho)
        rw [hv.out] at hch
        injection hch with e1 e2
        injection e2 with e2 e3
        have e3' : ic = 512 := by rw [e3]; rfl
        have e2' : sc = 5 := by rw [e2]; rfl
        subst e1 e2' e3'
        clear ho hv HG e2 e3
        go_upto_region 5 with (fail)
        refine wp_region_ext (by kernel_rfl) (by kernel_rfl) ?_
        repeat (go_big_quiet_step ((go_at_call 31; exact Calls.quiet_ext (limit5_ok _))))
        refine wpQuiet_nil ?_
        intro xq
        have HZ := Lib.hid (ST.out.ext xq)
        clear q hgl
        go_wp2_with fail
        refine (limit5_ok _).mono ?_
        rintro e w5 ⟨rfl, hb5⟩
        have HZ5 := Lib.hid (HZ.out.up hb5).bel
        clear hb5
        go_wp2
        go_ret3
        exact ⟨rfl, HZ5.out⟩
      · have hi : ¬ (512 : Int) < ((c.chans.length : Nat) : Int) := by omega
        have HN := Lib.hid (show ∀ i, 1 ≤ i → i < 6 → overC c i = false from fun i h1 h2 => by
          rcases Nat.lt_succ_iff_lt_or_eq.1 h2 with h | rfl
          · exact HG.out i h1 h
          · unfold overC limOf cntOf; exact decide_eq_false ho)
        clear ho
        go_upto_region 5 with (fail)
        refine wp_region_ext (by kernel_rfl) (by kernel_rfl) ?_
        repeat (go_big_quiet_step ((go_at_call 31; exact Calls.quiet_ext (limit5_ok _))))
        refine wpQuiet_nil ?_
        intro xq
        have HB2 := Lib.hid (Below.then_ HW2.out (ext_below _ xq))
        clear q hgl
        go_wp2
        go_roundw
        case rel => exact ⟨6, by omega, by omega, by go_num, HN, HB2⟩
        case measure => simp [intOf]
    · have q := HCk.out.cell 6
      simp at q
      have hgl := HCk.out.lt
      by_cases ho : 1024 < sumDests c.chans
      · have hi : (1024 : Int) < ((sumDests c.chans : Nat) : Int) := by omega
        have hch := limBad_hit (c := c) (k := 6) (by omega) (by omega) HG.out (by unfold overC limOf cntOf; exact decide_eq_true ho)
        rw [hv.out] at hch
        injection hch with e1 e2
        injection e2 with e2 e3
        have e3' : ic = 1024 := by rw [e3]; rfl
        have e2' : sc = 6 := by rw [e2]; rfl
        subst e1 e2' e3'
        clear ho hv HG e2 e3
        go_upto_region 5 with (fail)
        refine wp_region_ext (by kernel_rfl) (by kernel_rfl) ?_
        repeat (go_big_quiet_step ((go_at_call 31; exact Calls.quiet_ext (limit6_ok _))))
        refine wpQuiet_nil ?_
        intro xq
        have HZ := Lib.hid (ST.out.ext xq)
        clear q hgl
        go_wp2_with fail
        refine (limit6_ok _).mono ?_
        rintro e w5 ⟨rfl, hb5⟩
        have HZ5 := Lib.hid (HZ.out.up hb5).bel
        clear hb5
        go_wp2
        go_ret3
        exact ⟨rfl, HZ5.out⟩
      · have hi : ¬ (1024 : Int) < ((sumDests c.chans : Nat) : Int) := by omega
        have HN := Lib.hid (show ∀ i, 1 ≤ i → i < 7 → overC c i = false from fun i h1 h2 => by
          rcases Nat.lt_succ_iff_lt_or_eq.1 h2 with h | rfl
          · exact HG.out i h1 h
          · unfold overC limOf cntOf; exact decide_eq_false ho)
        clear ho
        go_upto_region 5 with (fail)
        refine wp_region_ext (by kernel_rfl) (by kernel_rfl) ?_
        repeat (go_big_quiet_step ((go_at_call 31; exact Calls.quiet_ext (limit6_ok _))))
        refine wpQuiet_nil ?_
        intro xq
        have HB2 := Lib.hid (Below.then_ HW2.out (ext_below _ xq))
        clear q hgl
        go_wp2
        go_roundw
        case rel => exact ⟨7, by omega, by omega, by go_num, HN, HB2⟩
        case measure => simp [intOf]
    · rw [show ((7 : Nat) : Int) = 7 from rfl]
      have hnb := limBad_none HG.out
      rw [hv.out] at hnb
      obtain ⟨i1, hi1⟩ : ∃ i, idx badPar c.parts = i := ⟨_, rfl⟩
      obtain ⟨i2, hi2⟩ : ∃ i, idx badPrt c.ports = i := ⟨_, rfl⟩
      obtain ⟨i3, hi3⟩ : ∃ i, idx badReg c.regs = i := ⟨_, rfl⟩
      have hnb2 : (ec, sc, ic) = if 0 ≤ i1 then (6, 1, i1) else if 0 ≤ i2 then (6, 4, i2) else if 0 ≤ i3 then ((15 : Int), (3 : Int), i3) else (0, 0, 0) := by rw [hnb]; unfold nameBads; rw [hi1, hi2, hi3]
      have HN2 := Lib.hid hnb2
      have HI1 := Lib.hid (show i1 = idxFrom badPar 0 (c.parts.drop 0) by rw [← hi1]; rfl)
      have HI2 := Lib.hid (show i2 = idxFrom badPrt 0 (c.ports.drop 0) by rw [← hi2]; rfl)
      have HI3 := Lib.hid (show i3 = idxFrom badReg 0 (c.regs.drop 0) by rw [← hi3]; rfl)
      clear hnb hi1 hi2 hi3 hv HG hnb2 HCk
      go_wp2
      clear HW2
      go_loopw [7] (fun i wl => ∃ m : Nat, m ≤ c.parts.length ∧ i = .int .i64 m ∧ Hid (i1 = idxFrom badPar m (c.parts.drop m)) ∧ Hid (St w wl c A1 A2 A3 A4 A5 c1 c2 c3 c4 c5)) (fun i _ => c.parts.length - (intOf i).toNat)
      case atStart => exact ⟨0, Nat.zero_le _, rfl, HI1, ST⟩
      case round =>
      obtain ⟨m, hm, rfl, HIx, STl⟩ := hrel
      obtain ⟨y0, y1, y2, y3, y4, y5, hy⟩ := STl.out.cells
      by_cases hlt : m < c.parts.length
      · obtain ⟨x, hx⟩ := get_lt hlt
        obtain ⟨bb, oo, rfl, hbb, g0, g1, g2, g3⟩ := par_at STl.out.R.parts hx
        have m0 : (0 : Int) ≤ (m : Int) := by omega
        have m1 : (m : Int) < (c.parts.length : Int) := by omega
        have HX := Lib.hid hx
        obtain ⟨u, hu⟩ : ∃ u, nameOk x.name = u := ⟨_, rfl⟩
        have hsz : x.name.size ≤ 4194304 := by have := HPN.out x (List.mem_of_getElem? hx); unfold BIG at this; omega
        have HU := Lib.hid (show badPar x = !u by unfold badPar; rw [hu])
        have HC := Lib.hid (show ∀ W, Calls Tryz.prog 69 #[.string x.name] W fun e w' => e = .returned (.bool u) ∧ Below W.heap.size W w' from fun W => by rw [← hu]; exact rNameValid_ok x.name hsz W)
        clear hx hu
        go_wp2_with fail
        refine (HC.out _).mono ?_
        rintro e w6 ⟨rfl, hb6⟩
        have ST6 := Lib.hid (STl.out.up hb6)
        clear hb6 g0 g1 g2 g3 y0 y1 y2 y3 y4 y5 hy
        cases u
        · have HV := Lib.hid (idx_hit HIx.out HX.out HU.out)
          have hn2 := HN2.out
          rw [HV.out] at hn2
          rw [if_pos (by omega)] at hn2
          injection hn2 with e1 e2
          injection e2 with e2 e3
          subst e1 e2 e3
          clear HN2
          go_wp2
          go_ret3
          exact ⟨rfl, ST6.out.bel⟩
        · go_wp2
          go_roundw
          case rel => exact ⟨m + 1, by omega, by go_num, Lib.hid (idx_miss HIx.out HX.out HU.out), ST6⟩
          case measure => simp [intOf]; omega
      obtain rfl : m = c.parts.length := by omega
      have HE1 := idx_end HIx.out
      subst HE1
      clear ST HI1
      have ST := STl
      clear HIx STl
      go_wp2
      clear y0 y1 y2 y3 y4 y5 hy
      go_loopw [8] (fun i wl => ∃ m : Nat, m ≤ c.ports.length ∧ i = .int .i64 m ∧ Hid (i2 = idxFrom badPrt m (c.ports.drop m)) ∧ Hid (St w wl c A1 A2 A3 A4 A5 c1 c2 c3 c4 c5)) (fun i _ => c.ports.length - (intOf i).toNat)
      case atStart => exact ⟨0, Nat.zero_le _, rfl, HI2, ST⟩
      case round =>
      obtain ⟨m, hm, rfl, HIx, STl⟩ := hrel
      obtain ⟨y0, y1, y2, y3, y4, y5, hy⟩ := STl.out.cells
      by_cases hlt : m < c.ports.length
      · obtain ⟨x, hx⟩ := get_lt hlt
        obtain ⟨bb, oo, rfl, hbb, g0, g1, g2, g3, g4, g5⟩ := prt_at STl.out.R.ports hx
        have m0 : (0 : Int) ≤ (m : Int) := by omega
        have m1 : (m : Int) < (c.ports.length : Int) := by omega
        have HX := Lib.hid hx
        obtain ⟨u, hu⟩ : ∃ u, nameOk x.name = u := ⟨_, rfl⟩
        have hsz : x.name.size ≤ 4194304 := by have := HTN.out x (List.mem_of_getElem? hx); unfold BIG at this; omega
        have HU := Lib.hid (show badPrt x = !u by unfold badPrt; rw [hu])
        have HC := Lib.hid (show ∀ W, Calls Tryz.prog 69 #[.string x.name] W fun e w' => e = .returned (.bool u) ∧ Below W.heap.size W w' from fun W => by rw [← hu]; exact rNameValid_ok x.name hsz W)
        clear hx hu
        go_wp2_with fail
        refine (HC.out _).mono ?_
        rintro e w6 ⟨rfl, hb6⟩
        have ST6 := Lib.hid (STl.out.up hb6)
        clear hb6 g0 g1 g2 g3 g4 g5 y0 y1 y2 y3 y4 y5 hy
        cases u
        · have HV := Lib.hid (idx_hit HIx.out HX.out HU.out)
          have hn2 := HN2.out
          rw [HV.out] at hn2
          rw [if_neg (by omega), if_pos (by omega)] at hn2
          injection hn2 with e1 e2
          injection e2 with e2 e3
          subst e1 e2 e3
          clear HN2
          go_wp2
          go_ret3
          exact ⟨rfl, ST6.out.bel⟩
        · go_wp2
          go_roundw
          case rel => exact ⟨m + 1, by omega, by go_num, Lib.hid (idx_miss HIx.out HX.out HU.out), ST6⟩
          case measure => simp [intOf]; omega
      obtain rfl : m = c.ports.length := by omega
      have HE2 := idx_end HIx.out
      subst HE2
      clear ST HI2
      have ST := STl
      clear HIx STl
      go_wp2
      clear y0 y1 y2 y3 y4 y5 hy
      go_loopw [9] (fun i wl => ∃ m : Nat, m ≤ c.regs.length ∧ i = .int .i64 m ∧ Hid (i3 = idxFrom badReg m (c.regs.drop m)) ∧ Hid (St w wl c A1 A2 A3 A4 A5 c1 c2 c3 c4 c5)) (fun i _ => c.regs.length - (intOf i).toNat)
      case atStart => exact ⟨0, Nat.zero_le _, rfl, HI3, ST⟩
      case round =>
      obtain ⟨m, hm, rfl, HIx, STl⟩ := hrel
      obtain ⟨y0, y1, y2, y3, y4, y5, hy⟩ := STl.out.cells
      by_cases hlt : m < c.regs.length
      · obtain ⟨x, hx⟩ := get_lt hlt
        obtain ⟨bb, oo, rfl, hbb, g0, g1, g2, g3, g4⟩ := reg_at STl.out.R.regs hx
        have m0 : (0 : Int) ≤ (m : Int) := by omega
        have m1 : (m : Int) < (c.regs.length : Int) := by omega
        have HX := Lib.hid hx
        clear hx
        by_cases h7 : 7 < x.rights
        · have HV := Lib.hid (idx_hit HIx.out HX.out (show badReg x = true from decide_eq_true h7))
          have hn2 := HN2.out
          rw [HV.out] at hn2
          rw [if_neg (by omega), if_neg (by omega), if_pos (by omega)] at hn2
          injection hn2 with e1 e2
          injection e2 with e2 e3
          subst e1 e2 e3
          clear HN2
          go_wp2
          go_ret3
          exact ⟨rfl, STl.out.bel⟩
        · have HM := Lib.hid (idx_miss HIx.out HX.out (show badReg x = false from decide_eq_false h7))
          go_wp2
          go_roundw
          case rel => exact ⟨m + 1, by omega, by go_num, HM, STl⟩
          case measure => simp [intOf]; omega
      obtain rfl : m = c.regs.length := by omega
      have HE3 := idx_end HIx.out
      subst HE3
      clear ST HI3
      have ST := STl
      clear HIx STl
      go_wp2
      clear y0 y1 y2 y3 y4 y5 hy
      have hn2 := HN2.out
      rw [if_neg (by omega), if_neg (by omega), if_neg (by omega)] at hn2
      injection hn2 with e1 e2
      injection e2 with e2 e3
      subst e1 e2 e3
      go_ret3
      exact ⟨rfl, ST.out.bel⟩
end Go.Proofs.YtldchpmilknlmaaGreat
