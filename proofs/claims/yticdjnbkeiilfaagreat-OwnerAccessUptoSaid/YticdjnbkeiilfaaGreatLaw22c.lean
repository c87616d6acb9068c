/-
  The law OwnerAccess, walked.
-/
import Derived.BigQuiet
import Derived.Test.YticdjnbkeiilfaaGreatAlive22
import Derived.Test.YticdjnbkeiilfaaGreatOwnX
import Derived.Test.YticdjnbkeiilfaaGreatLeft17
namespace Go.Proofs.YticdjnbkeiilfaaGreat
open Go.RowKit Go.Lib
attribute [local go_sem] ext_cell
theorem memAllowedO (c : Cfg) (A1 A2 A3 A4 A5 : Option Addr) (c1 c2 c3 c4 c5 : Nat) (w : World) (hR : CfgR w w.heap.size c A1 A2 A3 A4 A5 c1 c2 c3 c4 c5) (hs : c.small) (hok : c.ok) (p m b s : Int) (hb : wU64 b) (hz : wU64 s) (v : Bool) (hv : Hid (allowB b s (covB (ofL c p m) b s) = v)) : Calls Tryz.prog 26 #[cfgV c.frame A1 A2 A3 A4 A5 c.parts.length c.wins.length c.regs.length c.ports.length c.chans.length c1 c2 c3 c4 c5, .int .u16 p, .int .u64 b, .int .u64 s, .int .u8 m] w fun e w' => e = .returned (.bool v) ∧ Below w.heap.size w w' := by
  have := memAllowed_ok c A1 A2 A3 A4 A5 c1 c2 c3 c4 c5 w hR hs hok p m b s hb hz
  rwa [hv.out] at this
theorem rAllowedO (c : Cfg) (A1 A2 A3 A4 A5 : Option Addr) (c1 c2 c3 c4 c5 : Nat) (w : World) (hR : CfgR w w.heap.size c A1 A2 A3 A4 A5 c1 c2 c3 c4 c5) (hs : c.small) (hsp : ∀ x ∈ c.regs, okSp x.base x.size) (p m b s : Int) (hb : wU64 b) (hz : wU64 s) (v : Bool) (hv : Hid (allowB b s (covB (ofL c p m) b s) = v)) : Calls Tryz.prog 27 #[cfgV c.frame A1 A2 A3 A4 A5 c.parts.length c.wins.length c.regs.length c.ports.length c.chans.length c1 c2 c3 c4 c5, .int .u16 p, .int .u64 b, .int .u64 s, .int .u8 m] w fun e w' => e = .returned (.bool v) ∧ Below w.heap.size w w' := by
  have := rAllowed_ok c A1 A2 A3 A4 A5 c1 c2 c3 c4 c5 w hR hs hsp p m b s hb hz
  rwa [hv.out] at this
set_option maxRecDepth 100000 in
set_option maxHeartbeats 16000000 in
theorem ownerAccess_ok (c : Cfg) (A1 A2 A3 A4 A5 : Option Addr) (c1 c2 c3 c4 c5 : Nat) (w : World) (hR : CfgR w w.heap.size c A1 A2 A3 A4 A5 c1 c2 c3 c4 c5) (hs : c.small) (hok : c.ok) (p q x : Int) (hx : wU64 x) : Calls Tryz.prog 8 #[cfgV c.frame A1 A2 A3 A4 A5 c.parts.length c.wins.length c.regs.length c.ports.length c.chans.length c1 c2 c3 c4 c5, .agg #[.int .u16 p, .int .u16 q], .int .u64 x] w fun e w' => e = .returned (.bool true) ∧ Below w.heap.size w w' := by
  obtain ⟨W0, hW, st⟩ := St.start_any hR 29
  have HW := Lib.hid hW
  have hal := below_one W0 (.cells #[.int .u16 p, .int .u16 q] 60)
  have e0 : W0.heap.size = w.heap.size + 1 := by rw [← hW]; simp
  have bk := Blk.new W0 60 #[.int .u16 p, .int .u16 q]
  rw [e0] at bk
  have ST0 := Lib.hid (st.up hal)
  have HOK := Lib.hid hok
  have HWX := Lib.hid hx
  obtain ⟨hx0, hx1⟩ := Go.bounds_u64 hx
  clear hR hW st hok hx
  rcases bool_cases (goodO c) with h1 | h1
  · have H1 := Lib.hid h1
    have HV := Lib.hid (goodO_right h1)
    have HSP := Lib.hid (rightM_sp HOK.out (goodO_right h1))
    clear h1
    go_enter Tryz.func8, Tryz.ntmps8
    go_upto_region 1 with (fail)
    rw [HW.out]
    generalize World.alloc W0 _ = W1 at hal bk ST0 ⊢
    have HBK := Lib.hid bk
    obtain ⟨x0, x1, x2, x3, x4, x5, hz⟩ := ST0.out.cells
    clear hal bk e0
    go_wp2_with fail
    refine (goodO_ok c _ _ _ _ _ _ _ _ _ _ _ ST0.out.R hs HOK.out true H1).mono ?_
    rintro e w1 ⟨rfl, hb1⟩
    have ST1 := Lib.hid (ST0.out.up hb1)
    have HBK1 := Lib.hid (HBK.out.below hb1 HBK.out.lt)
    clear hb1 x0 x1 x2 x3 x4 x5 hz
    have q0 := HBK1.out.cell 0
    have q1 := HBK1.out.cell 1
    have qz := HBK1.out.lt
    simp at q0 q1
    go_wp2
    go_quiet (fail)
    have ST2 := Lib.hid (ST1.out.up (below_drewN (Below.refl w1.heap.size w1) nq))
    clear q0 q1 qz
    generalize World.drewN w1 nq = w2 at *
    obtain ⟨x0, x1, x2, x3, x4, x5, hz⟩ := ST2.out.cells
    generalize q % 256 = m
    go_wp2_with fail
    refine (cNew_ok c _ _ _ _ _ _ _ _ _ _ _ ST2.out.R hs HOK.out true HV).mono ?_
    rintro e w3 ⟨hb3, ⟨h, _⟩ | ⟨_, mb, rfl, hm⟩⟩
    · cases h
    have ST3 := Lib.hid (ST2.out.up hb3)
    have haa := access_allow (c := c) (normK_perm (key := keyReg) c.regs) p x m hx0 hx1
    obtain ⟨l, hl⟩ : ∃ l, normK keyReg c.regs = l := ⟨_, rfl⟩
    rw [hl] at hm haa
    have HM := Lib.hid hm
    obtain ⟨v, hv⟩ : ∃ v, (l.filter (fun r => covR r x)).any (keepR p m) = v := ⟨_, rfl⟩
    have HVV := Lib.hid hv
    have HV2 := Lib.hid (haa.trans hv)
    have H64 := Lib.hid (show wU64 1 by unfold wU64; decide)
    clear hb3 hm hv haa hl x0 x1 x2 x3 x4 x5 hz
    obtain ⟨x0, x1, x2, x3, x4, x5, hz⟩ := ST3.out.cells
    cases v
    all_goals
      go_upto_region 7 with (fail)
      refine wp_region_ext (by kernel_rfl) (by kernel_rfl) ?_
      repeat (go_big_quiet_step ((first
        | (go_at_call 10; exact Calls.quiet_ext (alive_ok _))
        | (go_at_call 25; exact Calls.quiet_ext (cAccess_ok (HM.out.up (ext_below _ _)) p x m hx0 hx1 _ HVV))
        | (go_at_call 26; exact Calls.quiet_ext (memAllowedO c _ _ _ _ _ _ _ _ _ _ _ (ST3.out.up (ext_below _ _)).R hs HOK.out p m x 1 HWX.out H64.out _ HV2))
        | (go_at_call 27; exact Calls.quiet_ext (rAllowedO c _ _ _ _ _ _ _ _ _ _ _ (ST3.out.up (ext_below _ _)).R hs HSP.out p m x 1 HWX.out H64.out _ HV2)))))
      refine wpQuiet_nil ?_
      intro xq
      have HZ := Lib.hid (ST3.out.up (ext_below w3 xq)).bel
      clear x0 x1 x2 x3 x4 x5 hz
      go_wp2
      go_ret
      exact ⟨rfl, HZ.out⟩
  · have H1 := Lib.hid h1
    clear h1
    go_enter Tryz.func8, Tryz.ntmps8
    go_upto_region 1 with (fail)
    rw [HW.out]
    generalize World.alloc W0 _ = W1 at hal bk ST0 ⊢
    clear hal bk e0
    obtain ⟨x0, x1, x2, x3, x4, x5, hz⟩ := ST0.out.cells
    go_wp2_with fail
    refine (goodO_ok c _ _ _ _ _ _ _ _ _ _ _ ST0.out.R hs HOK.out false H1).mono ?_
    rintro e w1 ⟨rfl, hb1⟩
    have ST1 := Lib.hid (ST0.out.up hb1)
    clear hb1 x0 x1 x2 x3 x4 x5 hz
    go_wp2_with fail
    refine (alive_ok w1).mono ?_
    rintro e w2 ⟨rfl, hb2⟩
    have HZ := Lib.hid (ST1.out.up hb2).bel
    clear hb2
    go_wp2
    go_ret
    exact ⟨rfl, HZ.out⟩
end Go.Proofs.YticdjnbkeiilfaaGreat
