/-
  The laws of the chapter of layer 5: ConfChecks, walked.
-/
import Derived.BigQuiet
import Derived.Test.YtldchpmilknlmaaGreatAlive05
import Derived.Test.YtldchpmilknlmaaGreatChkR
namespace Go.Proofs.YtldchpmilknlmaaGreat
open Go.RowKit Go.Lib
attribute [local go_sem] ext_cell eq7
theorem few_valC (c : Cfg) (A1 A2 A3 A4 A5 : Option Addr) (c1 c2 c3 c4 c5 : Nat) (w : World) (hR : CfgR w w.heap.size c A1 A2 A3 A4 A5 c1 c2 c3 c4 c5) (hs : c.small) (v : Bool) (hv : Hid (few c = v)) : Calls Tryz.prog 9 #[cfgV c.frame A1 A2 A3 A4 A5 c.parts.length c.wins.length c.regs.length c.ports.length c.chans.length c1 c2 c3 c4 c5] w fun e w' => e = .returned (.bool v) ∧ Below w.heap.size w w' := by
  have := few_ok c A1 A2 A3 A4 A5 c1 c2 c3 c4 c5 w hR hs
  rwa [hv.out] at this
set_option maxRecDepth 100000 in
set_option maxHeartbeats 8000000 in
theorem confChecks_ok (c : Cfg) (A1 A2 A3 A4 A5 : Option Addr) (c1 c2 c3 c4 c5 : Nat) (w : World) (hR : CfgR w w.heap.size c A1 A2 A3 A4 A5 c1 c2 c3 c4 c5) (hs : c.small) : Calls Tryz.prog 7 #[cfgV c.frame A1 A2 A3 A4 A5 c.parts.length c.wins.length c.regs.length c.ports.length c.chans.length c1 c2 c3 c4 c5] w fun e w' => e = .returned (.bool true) ∧ Below w.heap.size w w' := by
  obtain ⟨W0, hW, st⟩ := St.start_any hR 29
  have HW := Lib.hid hW
  have ST0 := Lib.hid st
  obtain ⟨x0, x1, x2, x3, x4, x5, hz⟩ := st.cells
  have ht0 : c.total ≤ 1048576 := hs.total
  have ht : c.total ≤ 4194304 := by omega
  clear ht0
  clear hR hW st
  rcases Bool.eq_false_or_eq_true (few c) with h1 | h1
  · have H1 := Lib.hid h1
    clear h1
    obtain ⟨ec, sc, ic, hp⟩ : ∃ ec sc ic, chkBad c = (ec, sc, ic) := ⟨_, _, _, rfl⟩
    have HP := Lib.hid hp
    clear hp
    go_enter Tryz.func7, Tryz.ntmps7
    go_upto_region 1 with (fail)
    rw [HW.out]
    go_wp2_with fail
    refine (few_valC c _ _ _ _ _ _ _ _ _ _ _ ST0.out.R hs true H1).mono ?_
    rintro e0 w1 ⟨rfl, hb1⟩
    have ST1 := Lib.hid (ST0.out.up hb1)
    clear hb1 x0 x1 x2 x3 x4 x5 hz
    obtain ⟨x0, x1, x2, x3, x4, x5, hz⟩ := ST1.out.cells
    go_wp2_with fail
    refine (rConfCheck_ok c _ _ _ _ _ _ _ _ _ _ _ ST1.out.R hs _ _ _ HP).mono ?_
    rintro e0 w2 ⟨rfl, hb2⟩
    have ST2 := Lib.hid (ST1.out.up hb2)
    clear hb2 x0 x1 x2 x3 x4 x5 hz
    obtain ⟨x0, x1, x2, x3, x4, x5, hz⟩ := ST2.out.cells
    go_upto_region 4 with (fail)
    refine wp_region_ext (by kernel_rfl) (by kernel_rfl) ?_
    repeat (go_big_quiet_step ((first
      | (go_at_call 10; exact Calls.quiet_ext (alive_ok _))
      | (go_at_call 30; exact Calls.quiet_ext (confCheck_ok c _ _ _ _ _ _ _ _ _ _ _ (ST2.out.ext _).R ht _ _ _ HP))
      | (go_at_call 22; exact Calls.quiet_ext (countsW_ok c _ _ _ _ _ _ _ _ _ _ _ (ST2.out.ext _).R ht))
      | (go_at_call 23; exact Calls.quiet_ext (counts_ok c _ _ _ _ _ _ _ _ _ _ _ (ST2.out.ext _).R hs)))))
    refine wpQuiet_nil ?_
    intro xq
    have HZ := Lib.hid (ST2.out.ext xq).bel
    clear x0 x1 x2 x3 x4 x5 hz
    go_wp2
    go_ret
    exact ⟨rfl, HZ.out⟩
  · have H1 := Lib.hid h1
    clear h1
    go_enter Tryz.func7, Tryz.ntmps7
    go_upto_region 1 with (fail)
    rw [HW.out]
    go_wp2_with fail
    refine (few_valC c _ _ _ _ _ _ _ _ _ _ _ ST0.out.R hs false H1).mono ?_
    rintro e w1 ⟨rfl, hb1⟩
    have HB1 := Lib.hid (ST0.out.up hb1).bel
    clear hb1 x0 x1 x2 x3 x4 x5 hz
    go_wp2_with fail
    refine (alive_ok _).mono ?_
    rintro e w2 ⟨rfl, hb2⟩
    have HZ := Lib.hid (Below.then_ HB1.out hb2)
    clear hb2
    go_wp2
    go_ret
    exact ⟨rfl, HZ.out⟩
end Go.Proofs.YtldchpmilknlmaaGreat
