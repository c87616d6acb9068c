/-
  ValidCollects of layer 19, walked.
-/
import Derived.Test.YtpedlbjbbcbbkaaGreatAlive19
namespace Go.Proofs.YtpedlbjbbcbbkaaGreat
open Go.RowKit
theorem resF_perf {c : Cfg} {k : Nat} (h : (resF c k).code ≠ 0) : perfC c k = true := by
  unfold resF at h
  rcases bool_cases (perfC c k) with hp | hp
  · exact hp
  · rw [hp] at h
    exact absurd rfl h
set_option maxRecDepth 100000 in
set_option maxHeartbeats 8000000 in
theorem validCollects_ok (c : Cfg) (A1 A2 A3 A4 A5 : Option Addr) (c1 c2 c3 c4 c5 : Nat) (w : World) (hR : CfgR w w.heap.size c A1 A2 A3 A4 A5 c1 c2 c3 c4 c5) (hs : c.small) (hok : c.ok) : Calls Tryz.prog 6 #[cfgV c.frame A1 A2 A3 A4 A5 c.parts.length c.wins.length c.regs.length c.ports.length c.chans.length c1 c2 c3 c4 c5] w fun e w' => e = .returned (.bool true) ∧ Below w.heap.size w w' := by
  obtain ⟨i0, hi, hz0, hz1, hz2⟩ := info_parts infoFlt
  obtain ⟨W0, hW, st⟩ := St.start_any hR 29
  have HW := Lib.hid hW
  have ST0 := Lib.hid st
  have HOK := Lib.hid hok
  obtain ⟨x0, x1, x2, x3, x4, x5, hz⟩ := st.cells
  clear hR hW st hok
  rcases bool_cases (few19 c) with h1 | h1
  rotate_left
  · have H1 := Lib.hid h1
    clear h1
    go_enter Tryz.func6, Tryz.ntmps6
    go_upto_region 1 with (fail)
    rw [HW.out]
    go_wp2_with fail
    refine (few19_ok c _ _ _ _ _ _ _ _ _ _ _ ST0.out.R hs HOK.out false H1).mono ?_
    rintro e w1 ⟨rfl, hb1⟩
    have HB1 := Lib.hid (ST0.out.up hb1).bel
    clear hb1 x0 x1 x2 x3 x4 x5 hz
    go_wp2_with fail
    refine (alive_ok _).mono ?_
    rintro e w2 ⟨rfl, hb2⟩
    have HZ := Lib.hid (Below.then_ HB1.out hb2)
    clear hb2
    go_wp2
    go_ret
    exact ⟨rfl, HZ.out⟩
  · have H1 := Lib.hid h1
    clear h1
    go_enter Tryz.func6, Tryz.ntmps6
    go_upto_region 1 with (fail)
    rw [HW.out]
    go_wp2_with fail
    refine (few19_ok c _ _ _ _ _ _ _ _ _ _ _ ST0.out.R hs HOK.out true H1).mono ?_
    rintro e w1 ⟨rfl, hb1⟩
    have ST1 := Lib.hid (ST0.out.up hb1)
    clear hb1 x0 x1 x2 x3 x4 x5 hz
    go_wp2_with fail
    refine (vNames_ok w1).mono ?_
    rintro e w4 ⟨⟨A, rfl, hN⟩, hb4⟩
    have ST4 := Lib.hid (ST1.out.up hb4)
    have HN4 := Lib.hid hN
    clear hN hb4
    go_wp2
    go_loopw [3, 14] (fun v i wr => ∃ k : Nat, k ≤ 9 ∧ i = .int .i64 k ∧ Hid (wr.ownsRow w4.heap.size 37 3 v (fltsK c k).length ((fltsK c k).flatMap FltC)) ∧ Hid (Below w4.heap.size w4 wr)) (fun _ i _ => 9 - (intOf i).toNat)
    case atStart => exact ⟨0, Nat.zero_le _, rfl, Lib.hid (World.ownsRow_nil _ _ _ _), Lib.hid (Below.refl _ _)⟩
    case round =>
      obtain ⟨n, hn, rfl, HO, HBk⟩ := hrel
      by_cases hnl : n < 9
      · obtain ⟨rB, rd, rfl, _⟩ := own_form HO.out
        obtain ⟨bb, o, rfl, hbb4, g4⟩ := nm_at HN4.out (k := n) (s := nmS n) (by unfold nms; simp [hnl])
        have g0 := (HBk.out.cell (p := ⟨bb, o + n, none⟩) hbb4).trans g4
        have n0 : (0 : Int) ≤ (n : Int) := by omega
        have n1 : (n : Int) < 9 := by omega
        obtain ⟨fn, hfn⟩ : ∃ fn, resF c n = fn := ⟨_, rfl⟩
        obtain ⟨qn, hqn⟩ : ∃ qn, perfC c n = qn := ⟨_, rfl⟩
        have HF := Lib.hid hfn
        have HFN := Lib.hid ((onlyF_nm hnl).trans hfn)
        have HQN := Lib.hid ((onlyB_nm hnl).trans hqn)
        have HQ := Lib.hid hqn
        have HNX := Lib.hid (fltsK_next c n)
        have ST6 := Lib.hid (ST4.out.up HBk.out)
        obtain ⟨x0, x1, x2, x3, x4, x5, hz⟩ := ST6.out.cells
        have hlen := fltsK_len c n
        clear hfn hqn hbb4 g4
        go_wp2_with fail
        refine (vOnly_ok c _ _ _ _ _ _ _ _ _ _ _ ST6.out.R hs HOK.out (nmS n) nm_max fn HFN qn HQN).mono ?_
        rintro e w5 ⟨rfl, hb5⟩
        obtain ⟨W5, hW5, hb6, ka⟩ : ∃ W, w5.alloc (.cells fn.cells 37) = W ∧ Below w5.heap.size w5 W ∧ Blk W w5.heap.size 37 fn.cells := ⟨_, rfl, below_one _ _, Blk.new _ _ _⟩
        have HB5 := Lib.hid (HBk.out.trans ((Below.then_ hb5 hb6).mono HBk.out.size))
        have HO5 := Lib.hid (own_below HO.out (Below.then_ hb5 hb6))
        simp only [Flt.cells] at hW5
        have p0 := ka.cell 0
        have p1 := ka.cell 1
        have p2 := ka.cell 2
        have pl := ka.lt
        simp [Flt.cells] at p0 p1 p2
        clear hb5 hb6 ka x0 x1 x2 x3 x4 x5 hz g0
        go_upto_region 8 with (fail)
        clear hW5
        generalize w5.heap.size = g5 at p0 p1 p2 pl ⊢
        by_cases hc0 : fn.code = 0
        · have hno : fn = noFlt := by have := resF_zero (c := c) (i := n) (by rw [HF.out]; exact hc0); rwa [HF.out] at this
          have hcb : (fn.code == 0) = true := by rw [hno]; rfl
          have hcp : (fn.part == 0) = true := by rw [hno]; rfl
          have hca : (fn.at_ == 0) = true := by rw [hno]; rfl
          have HGD := Lib.hid (show fltsK c (n + 1) = fltsK c n by rw [HNX.out, HF.out, if_pos hc0])
          clear hc0 hno
          cases qn
          all_goals
            go_wp2
            go_roundw
            case rel => exact ⟨n + 1, by omega, by go_num, Lib.hid (by rw [HGD.out]; exact HO5.out), HB5⟩
            case measure => simp [intOf]; omega
        · have hcb : (fn.code == 0) = false := beq_eq_false_iff_ne.2 hc0
          obtain rfl : qn = true := by rw [← HQ.out]; exact resF_perf (by rw [HF.out]; exact hc0)
          have hal2 := below_one W5 (.cells fn.cells 37)
          have HO6 := Lib.hid (own_below HO5.out hal2)
          have HB6 := Lib.hid (HB5.out.trans (hal2.mono HB5.out.size))
          have HNX2 := Lib.hid (show fltsK c (n + 1) = fltsK c n ++ [fn] by rw [HNX.out, HF.out, if_neg hc0])
          have hsz := HB5.out.size
          clear hal2 hc0
          go_wp2_with (at_builtin; go_loud (refine wpList_append_lies _ rfl (.tmp 30) (.tmp 32) _ rfl w4.heap.size 37 i0 (.agg #[.int .i64 0, .int .i64 0, .int .i64 0]) 3 24 Tryz.underlying32 hi hz0 hz1 hz2 rfl (by decide) _ _ _ rfl HO6.out ⟨W5.heap.size, 0, none⟩ 1 1 (FltC fn) rfl rfl (World.news_of_block (heap_alloc_new W5 _)) (by intro u hu; simp [FltC] at hu; rcases hu with rfl | rfl | rfl <;> rfl) (by omega) (by unfold maxLen; omega) (by omega) (by simp; omega) _ rfl ?_); intro g2 cap w7 hown hg2 hat hlt7)
          have HB7 := Lib.hid (HB6.out.grown hg2 (by simp; omega) (fun k e => (HO6.out.lt k e).1))
          have HON := Lib.hid (show w7.ownsRow w4.heap.size 37 3 (.slice (some ⟨g2, 0, none⟩) ((fltsK c n).length + 1) cap) (fltsK c (n + 1)).length ((fltsK c (n + 1)).flatMap FltC) by rw [HNX2.out, List.length_append, List.flatMap_append]; simpa using hown)
          clear hown hg2 hat hlt7
          go_wp2
          go_roundw
          case rel => exact ⟨n + 1, by omega, by go_num, HON, HB7⟩
          case measure => simp [intOf]; omega
      · obtain rfl : n = 9 := by omega
        have HE := Lib.hid (show fltsK c 9 = fltsOf c from rfl)
        have hown := HO.out
        rw [HE.out] at hown
        obtain ⟨rB, rd, rfl, _, _, hrd⟩ := own_form hown
        have HRD := Lib.hid hrd
        have STE := Lib.hid (ST4.out.up HBk.out)
        obtain ⟨m, hm⟩ : ∃ m, (fltsOf c).length = m := ⟨_, rfl⟩
        have HM := Lib.hid hm
        have hm9 : (fltsOf c).length ≤ 9 := fltsK_len c 9
        have HM9 := Lib.hid hm9
        clear hown hrd hm hm9 HO HBk
        go_wp2_with fail
        refine (alive_ok _).mono ?_
        rintro e w8 ⟨rfl, hb8⟩
        have ST8 := Lib.hid (STE.out.up hb8)
        have HRD8 := Lib.hid (HRD.out.up hb8)
        clear hb8
        obtain ⟨x0, x1, x2, x3, x4, x5, hz⟩ := ST8.out.cells
        go_wp2_with fail
        refine (vAll_ok c _ _ _ _ _ _ _ _ _ _ _ ST8.out.R hs HOK.out).mono ?_
        rintro e w9 ⟨v9, rfl, ho9, hb9⟩
        obtain ⟨RA, rc, rfl, _, _, hrd9⟩ := own_form ho9
        have HRD9 := Lib.hid hrd9
        have ST9 := Lib.hid (ST8.out.up hb9)
        have HRE9 := Lib.hid (HRD8.out.up hb9)
        clear ho9 hrd9 hb9 x0 x1 x2 x3 x4 x5 hz
        go_wp2_with fail
        refine (eqFlt_same (fltsOf c) _ _ _ _ _ (by have := HM9.out; omega) HRD9.out HRE9.out).mono ?_
        rintro e w10 ⟨rfl, hb10⟩
        have ST10 := Lib.hid (ST9.out.up hb10)
        have HRE10 := Lib.hid (HRE9.out.up hb10)
        clear hb10
        obtain ⟨x0, x1, x2, x3, x4, x5, hz⟩ := ST10.out.cells
        go_wp2_with fail
        refine (rAll_ok c _ _ _ _ _ _ _ _ _ _ _ ST10.out.R hs HOK.out).mono ?_
        rintro e w11 ⟨v11, rfl, ho11, hb11⟩
        obtain ⟨RC, re, rfl, _, _, hrd11⟩ := own_form ho11
        have HRD11 := Lib.hid hrd11
        have ST11 := Lib.hid (ST10.out.up hb11)
        have HRE11 := Lib.hid (HRE10.out.up hb11)
        clear ho11 hrd11 hb11 x0 x1 x2 x3 x4 x5 hz
        go_wp2_with fail
        refine (eqFlt_same (fltsOf c) _ _ _ _ _ (by have := HM9.out; omega) HRE11.out HRD11.out).mono ?_
        rintro e w12 ⟨rfl, hb12⟩
        have HZ := Lib.hid (ST11.out.up hb12).bel
        clear hb12
        go_wp2
        go_ret
        exact ⟨rfl, HZ.out⟩
end Go.Proofs.YtpedlbjbbcbbkaaGreat
