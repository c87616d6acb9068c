/-
  The laws RouteNames and RouteMutual of the chapter of layer 23, walked.
-/
import Derived.BigQuiet
import Derived.Deep.RegionHeld3
import Derived.Test.YthnbgbocanpkjaaGreatLaw23a
namespace Go.Proofs.YthnbgbocanpkjaaGreat
open Go.RowKit Go.Lib
theorem beqb_refl (a : ByteArray) : (a == a) = true := by
  rcases beqb_cases a a with h | h
  · exact h
  · exact absurd rfl (beqb_false h)
theorem named_self {c : Cfg} (hr : RightR c) {k : Nat} {x : Prt} (hx : c.ports[k]? = some x) : portAns (namedOf c x.part x.name) = (x, true) := by
  have hm := List.mem_of_getElem? hx
  have h : namedOf c x.part x.name = some x := by
    rcases h1 : namedOf c x.part x.name with _ | y
    · have := List.find?_eq_none.1 (show c.ports.find? (fun y => y.part == x.part && y.name == x.name) = none from h1) x hm
      rw [beqb_refl] at this
      simp at this
    · have h2 := show c.ports.find? (fun y => y.part == x.part && y.name == x.name) = some y from h1
      have hy := List.mem_of_find?_eq_some h2
      have hp := List.find?_some h2
      simp only [Bool.and_eq_true, beq_iff_eq] at hp
      rw [inj_of_nodup hr.tk hy hm (by unfold Prt.key; rw [hp.1, beqb_true hp.2])]
  rw [h]; rfl
set_option maxRecDepth 100000 in
set_option maxHeartbeats 16000000 in
theorem routeNames_ok (c : Cfg) (A1 A2 A3 A4 A5 : Option Addr) (c1 c2 c3 c4 c5 : Nat) (w : World) (hR : CfgR w w.heap.size c A1 A2 A3 A4 A5 c1 c2 c3 c4 c5) (hs : c.small) (hok : c.ok) (pt : Int) (hpt : wU16 pt) (nm : ByteArray) (hnm : nm.size ≤ maxLen) : Calls Tryz.prog 5 #[cfgV c.frame A1 A2 A3 A4 A5 c.parts.length c.wins.length c.regs.length c.ports.length c.chans.length c1 c2 c3 c4 c5, .int .u16 pt, .string nm] w fun e w' => e = .returned (.bool true) ∧ Below w.heap.size w w' := by
  obtain ⟨W0, hW, st⟩ := St.start_any hR 29
  have HW := Lib.hid hW
  have ST0 := Lib.hid st
  have HSM := Lib.hid hs
  have HOK := Lib.hid hok
  obtain ⟨x0, x1, x2, x3, x4, x5, hz⟩ := st.cells
  clear hR hW st hs hok
  rcases Bool.eq_false_or_eq_true (goodR c) with h1 | h1
  · have hr1 : rightR c = true := by unfold goodR at h1; simp at h1; exact h1.2
    have HR := Lib.hid hr1
    have HRR := Lib.hid (rightR_iff.1 hr1)
    have H1 := Lib.hid h1
    clear h1 hr1
    by_cases hn : 100 < nm.size
    · have hn1 : (100 : Int) < (nm.size : Int) := by omega
      go_enter Tryz.func5, Tryz.ntmps5
      go_upto_region 1 with (fail)
      rw [HW.out]
      go_wp2_with fail
      refine (goodR_ok c _ _ _ _ _ _ _ _ _ _ _ ST0.out.R HSM.out true H1).mono ?_
      rintro e w1 ⟨rfl, hb1⟩
      have ST1 := Lib.hid (ST0.out.up hb1)
      clear hb1 x0 x1 x2 x3 x4 x5 hz
      go_wp2_with fail
      refine (alive_ok _).mono ?_
      rintro e w2 ⟨rfl, hb2⟩
      have HZ := Lib.hid (ST1.out.up hb2).bel
      clear hb2
      go_wp2
      go_ret
      exact ⟨rfl, HZ.out⟩
    have hn1 : ¬ (100 : Int) < (nm.size : Int) := by omega
    have bt := HSM.out.bd.t
    obtain ⟨p, po, hpo⟩ : ∃ p po, portAns (namedOf c pt nm) = (p, po) := ⟨_, _, rfl⟩
    have HPO := Lib.hid hpo
    clear hpo
    go_enter Tryz.func5, Tryz.ntmps5
    go_upto_region 1 with (fail)
    rw [HW.out]
    go_wp2_with fail
    refine (goodR_ok c _ _ _ _ _ _ _ _ _ _ _ ST0.out.R HSM.out true H1).mono ?_
    rintro e w1 ⟨rfl, hb1⟩
    have ST1 := Lib.hid (ST0.out.up hb1)
    clear hb1 x0 x1 x2 x3 x4 x5 hz
    obtain ⟨x0, x1, x2, x3, x4, x5, hz⟩ := ST1.out.cells
    go_wp2_with fail
    refine (newR_yes c _ _ _ _ _ _ _ _ _ _ _ ST1.out.R HSM.out HOK.out HR).mono ?_
    rintro e w2 ⟨gr, rfl, hrt, hb2⟩
    have ST2 := Lib.hid (ST1.out.up hb2)
    have RT2 := Lib.hid hrt
    clear hb2 hrt x0 x1 x2 x3 x4 x5 hz
    go_wp2_with fail
    refine (mNamed_ok c HRR.out gr pt hpt nm hnm _ RT2.out p po HPO).mono ?_
    rintro e w5 ⟨rfl, hb5⟩
    obtain ⟨W5, hW5, pt5, hb5'⟩ := PtBox.new w5 p 41
    have HW5 := Lib.hid hW5
    have PT5 := Lib.hid pt5
    have ST5 := Lib.hid ((ST2.out.up hb5).up hb5')
    have RT5 := Lib.hid ((RT2.out.up hb5).up hb5')
    clear hb5 hb5' hW5 pt5
    obtain ⟨x0, x1, x2, x3, x4, x5, hz⟩ := ST5.out.cells
    go_upto_region 7 with (fail)
    rw [HW5.out]
    generalize w5.heap.size = g5 at *
    go_wp2_with fail
    refine (rNamed23_ok c _ _ _ _ _ _ _ _ _ _ _ ST5.out.R HSM.out pt nm p po HPO).mono ?_
    rintro e w6 ⟨rfl, hb6⟩
    obtain ⟨W6, hW6, pt6, hb6'⟩ := PtBox.new w6 p 41
    have HW6 := Lib.hid hW6
    have PT6 := Lib.hid pt6
    have PT5' := Lib.hid ((PT5.out.up hb6).up hb6')
    have ST6 := Lib.hid ((ST5.out.up hb6).up hb6')
    have RT6 := Lib.hid ((RT5.out.up hb6).up hb6')
    clear hb6 hb6' hW6 pt6 x0 x1 x2 x3 x4 x5 hz PT5
    go_upto_region 8 with (fail)
    rw [HW6.out]
    clear HW6
    generalize w6.heap.size = g6 at *
    obtain ⟨m0, m1, m2, m3, m4, m5, mz⟩ := PT5'.out
    obtain ⟨n0, n1, n2, n3, n4, n5, nz⟩ := PT6.out
    obtain ⟨x0, x1, x2, x3, x4, x5, hz⟩ := ST6.out.cells
    go_upto_region 10 with (fail)
    clear m0 m1 m2 m3 m4 m5 mz n0 n1 n2 n3 n4 n5 nz PT5' PT6
    go_wp2_with fail
    clear x0 x1 x2 x3 x4 x5 hz
    go_loopw [54] (fun i wr => ∃ k : Nat, k ≤ c.ports.length ∧ i = .int .i64 k ∧ Hid (Below W6.heap.size W6 wr)) (fun i _ => c.ports.length - (intOf i).toNat)
    case atStart => exact ⟨0, Nat.zero_le _, rfl, Lib.hid (Below.refl _ _)⟩
    case round =>
      obtain ⟨k, hk, rfl, HB⟩ := hrel
      have ST := Lib.hid (ST6.out.up HB.out)
      by_cases hlt : k < c.ports.length
      · obtain ⟨x, hx⟩ := get_lt hlt
        have HX := Lib.hid (named_self HRR.out hx)
        have HXO := Lib.hid (HOK.out.ports x (List.mem_of_getElem? hx))
        obtain ⟨b, oo, rfl, hb, p0, p1, p2, p3, p4, p5⟩ := prt_at ST.out.R.ports hx
        have k0 : (0 : Int) ≤ (k : Int) := by omega
        have k1 : (k : Int) < (c.ports.length : Int) := by omega
        obtain ⟨W7, hW7, pt7, hb7⟩ := PtBox.new wr x 41
        have HW7 := Lib.hid hW7
        have PT7 := Lib.hid pt7
        have HB7 := Lib.hid (Below.then_ HB.out hb7)
        clear hx hW7 hb7
        go_upto_region 13 with (fail)
        rw [HW7.out]
        clear HW7 p0 p1 p2 p3 p4 p5 hb
        generalize wr.heap.size = g7 at *
        obtain ⟨q0, q1, q2, q3, q4, q5, hq⟩ := pt7
        go_wp2_with fail
        refine (mNamed_ok c HRR.out gr x.part HXO.out.part x.name HXO.out.name _ (RT6.out.up HB7.out) x true HX).mono ?_
        rintro e w8 ⟨rfl, hb8⟩
        obtain ⟨W8, hW8, pt8, hb8'⟩ := PtBox.new w8 x 41
        have HW8 := Lib.hid hW8
        have PT7' := Lib.hid ((PT7.out.up hb8).up hb8')
        have HB8 := Lib.hid (Below.then_ (Below.then_ HB7.out hb8) hb8')
        clear hW8 hb8 hb8' q0 q1 q2 q3 q4 q5 hq
        go_upto_region 14 with (fail)
        rw [HW8.out]
        clear HW8
        generalize w8.heap.size = g8 at *
        obtain ⟨q0, q1, q2, q3, q4, q5, hq⟩ := PT7'.out
        obtain ⟨r0, r1, r2, r3, r4, r5, hr⟩ := pt8
        go_wp2
        go_roundw
        case rel => exact ⟨k + 1, by omega, by go_num, HB8⟩
        case measure => simp [intOf]; omega
      · obtain rfl : k = c.ports.length := by omega
        have HB6 := Lib.hid ST.out.bel
        go_wp2_with fail
        refine (alive_ok _).mono ?_
        rintro e w9 ⟨rfl, hb9⟩
        have HZ := Lib.hid (Below.then_ HB6.out hb9)
        clear hb9
        go_wp2
        go_ret
        exact ⟨rfl, HZ.out⟩
  · have H1 := Lib.hid h1
    clear h1
    go_enter Tryz.func5, Tryz.ntmps5
    go_upto_region 1 with (fail)
    rw [HW.out]
    go_wp2_with fail
    refine (goodR_ok c _ _ _ _ _ _ _ _ _ _ _ ST0.out.R HSM.out false H1).mono ?_
    rintro e w1 ⟨rfl, hb1⟩
    have HB1 := Lib.hid (ST0.out.up hb1).bel
    clear hb1 x0 x1 x2 x3 x4 x5 hz
    go_wp2_with fail
    refine (alive_ok _).mono ?_
    rintro e w2 ⟨rfl, hb2⟩
    have HZ := Lib.hid (Below.then_ HB1.out hb2)
    clear hb2
    go_wp2
    go_ret
    exact ⟨rfl, HZ.out⟩
end Go.Proofs.YthnbgbocanpkjaaGreat
