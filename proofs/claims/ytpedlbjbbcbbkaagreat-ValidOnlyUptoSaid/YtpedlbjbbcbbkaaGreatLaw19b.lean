/-
  ValidOnly of layer 19, walked.
-/
import Derived.BigQuiet
import Derived.Test.YtpedlbjbbcbbkaaGreatAlive19
namespace Go.Proofs.YtpedlbjbbcbbkaaGreat
open Go.RowKit
theorem eqStr_same (l : List ByteArray) (A B : Option Addr) (a b : Nat) (w : World) (hl : l.length ≤ 4194304) (hA : NmR w A l) (hB : NmR w B l) :
    Calls Tryz.prog 20 #[.slice A l.length a, .slice B l.length b] w fun e w' => e = .returned (.bool true) ∧ Below w.heap.size w w' := by
  have HA := Lib.hid hA
  have HB := Lib.hid hB
  clear hA hB
  go_enter Tryz.func20, Tryz.ntmps20
  go_wp2
  go_loopw [13] (fun i wr => ∃ k : Nat, k ≤ l.length ∧ i = .int .i64 k ∧ Hid (Below w.heap.size w wr)) (fun i _ => l.length - (intOf i).toNat)
  case atStart => exact ⟨0, Nat.zero_le _, rfl, Lib.hid (Below.refl _ _)⟩
  case round =>
    obtain ⟨k, hk, rfl, HW⟩ := hrel
    by_cases hlt : k < l.length
    · obtain ⟨x, hx⟩ := get_lt hlt
      obtain ⟨b1, o1, rfl, h1, g0⟩ := nm_at (HA.out.up HW.out) hx
      obtain ⟨b2, o2, rfl, h2, k0⟩ := nm_at (HB.out.up HW.out) hx
      have k0' : (0 : Int) ≤ (k : Int) := by omega
      have k1' : (k : Int) < (l.length : Int) := by omega
      clear hx
      go_wp2
      go_quiet (fail)
      go_wp2
      go_roundw
      case rel => exact ⟨k + 1, by omega, by go_num, Lib.hid (below_drewN HW.out _)⟩
      case measure => simp [intOf]; omega
    · obtain rfl : k = l.length := by omega
      go_wp2
      go_ret
      exact ⟨rfl, HW.out⟩
set_option maxRecDepth 100000 in
set_option maxHeartbeats 8000000 in
theorem validOnly_ok (c : Cfg) (A1 A2 A3 A4 A5 : Option Addr) (c1 c2 c3 c4 c5 : Nat) (w : World) (hR : CfgR w w.heap.size c A1 A2 A3 A4 A5 c1 c2 c3 c4 c5) (hs : c.small) (hok : c.ok) (s : ByteArray) : Calls Tryz.prog 5 #[cfgV c.frame A1 A2 A3 A4 A5 c.parts.length c.wins.length c.regs.length c.ports.length c.chans.length c1 c2 c3 c4 c5, .string s] w fun e w' => e = .returned (.bool true) ∧ Below w.heap.size w w' := by
  obtain ⟨W0, hW, st⟩ := St.start_any hR 29
  have HW := Lib.hid hW
  have ST0 := Lib.hid st
  have HOK := Lib.hid hok
  obtain ⟨x0, x1, x2, x3, x4, x5, hz⟩ := st.cells
  clear hR hW st hok
  rcases bool_cases (few19 c) with h1 | h1
  rotate_left
  · have H1 := Lib.hid h1
    clear h1
    go_enter Tryz.func5, Tryz.ntmps5
    go_upto_region 1 with (fail)
    rw [HW.out]
    go_wp2_with fail
    refine (few19_ok c _ _ _ _ _ _ _ _ _ _ _ ST0.out.R hs HOK.out false H1).mono ?_
    rintro e w1 ⟨rfl, hb1⟩
    have HB1 := Lib.hid (ST0.out.up hb1).bel
    clear hb1 x0 x1 x2 x3 x4 x5 hz
    go_wp2_with fail
    refine (alive_ok _).mono ?_
    rintro e w2 ⟨rfl, hb2⟩
    have HZ := Lib.hid (Below.then_ HB1.out hb2)
    clear hb2
    go_wp2
    go_ret
    exact ⟨rfl, HZ.out⟩
  · have H1 := Lib.hid h1
    clear h1
    by_cases hsz : 100 < (s.size : Int)
    · go_enter Tryz.func5, Tryz.ntmps5
      go_upto_region 1 with (fail)
      rw [HW.out]
      go_wp2_with fail
      refine (few19_ok c _ _ _ _ _ _ _ _ _ _ _ ST0.out.R hs HOK.out true H1).mono ?_
      rintro e w1 ⟨rfl, hb1⟩
      have HB1 := Lib.hid (ST0.out.up hb1).bel
      clear hb1 x0 x1 x2 x3 x4 x5 hz
      go_wp2_with fail
      refine (alive_ok _).mono ?_
      rintro e w2 ⟨rfl, hb2⟩
      have HZ := Lib.hid (Below.then_ HB1.out hb2)
      clear hb2
      go_wp2
      go_ret
      exact ⟨rfl, HZ.out⟩
    · have hmx : s.size ≤ maxLen := by unfold maxLen; omega
      have HMX := Lib.hid hmx
      have hsd : decide (100 < (s.size : Int)) = false := decide_eq_false hsz
      obtain ⟨f, hf⟩ : ∃ f, onlyF c s = f := ⟨_, rfl⟩
      obtain ⟨q, hq⟩ : ∃ q, onlyB c s = q := ⟨_, rfl⟩
      have HF := Lib.hid hf
      have HQ := Lib.hid hq
      clear hf hq hmx hsz
      go_enter Tryz.func5, Tryz.ntmps5
      go_upto_region 1 with (fail)
      rw [HW.out]
      go_wp2_with fail
      refine (few19_ok c _ _ _ _ _ _ _ _ _ _ _ ST0.out.R hs HOK.out true H1).mono ?_
      rintro e w1 ⟨rfl, hb1⟩
      have ST1 := Lib.hid (ST0.out.up hb1)
      clear hb1 x0 x1 x2 x3 x4 x5 hz
      obtain ⟨x0, x1, x2, x3, x4, x5, hz⟩ := ST1.out.cells
      go_wp2_with fail
      refine (vOnly_ok c _ _ _ _ _ _ _ _ _ _ _ ST1.out.R hs HOK.out s HMX.out f HF q HQ).mono ?_
      rintro e w2 ⟨rfl, hb2⟩
      have ST2 := Lib.hid (ST1.out.up hb2)
      clear hb2 x0 x1 x2 x3 x4 x5 hz
      obtain ⟨W5, hW5, hb5, ka⟩ : ∃ W, w2.alloc (.cells f.cells 37) = W ∧ Below w2.heap.size w2 W ∧ Blk W w2.heap.size 37 f.cells := ⟨_, rfl, below_one _ _, Blk.new _ _ _⟩
      have HKA := Lib.hid ka
      have ST5 := Lib.hid (ST2.out.up hb5)
      simp only [Flt.cells] at hW5
      clear ka hb5
      go_upto_region 4 with (fail)
      clear hW5
      generalize w2.heap.size = g5 at HKA ⊢
      obtain ⟨x0, x1, x2, x3, x4, x5, hz⟩ := ST5.out.cells
      go_wp2_with fail
      refine (rOnly_ok c _ _ _ _ _ _ _ _ _ _ _ ST5.out.R hs HOK.out s f HF q HQ).mono ?_
      rintro e w6 ⟨rfl, hb6⟩
      have ST6 := Lib.hid (ST5.out.up hb6)
      have HKA6 := Lib.hid (HKA.out.below hb6 HKA.out.lt)
      clear hb6 x0 x1 x2 x3 x4 x5 hz
      obtain ⟨W7, hW7, hb7, kb⟩ : ∃ W, w6.alloc (.cells f.cells 37) = W ∧ Below w6.heap.size w6 W ∧ Blk W w6.heap.size 37 f.cells := ⟨_, rfl, below_one _ _, Blk.new _ _ _⟩
      have HKB := Lib.hid kb
      have ST7 := Lib.hid (ST6.out.up hb7)
      have HKA7 := Lib.hid (HKA6.out.below hb7 HKA6.out.lt)
      simp only [Flt.cells] at hW7
      clear kb hb7
      go_upto_region 5 with (fail)
      clear hW7
      generalize w6.heap.size = g7 at HKB ⊢
      go_wp2_with fail
      refine (alive_ok _).mono ?_
      rintro e w8 ⟨rfl, hb8⟩
      have HB8 := Lib.hid (ST7.out.up hb8).bel
      have ka8 := HKA7.out.below hb8 HKA7.out.lt
      have kb8 := HKB.out.below hb8 HKB.out.lt
      have p0 := ka8.cell 0
      have p1 := ka8.cell 1
      have p2 := ka8.cell 2
      have pl := ka8.lt
      have q0 := kb8.cell 0
      have q1 := kb8.cell 1
      have q2 := kb8.cell 2
      have ql := kb8.lt
      simp [Flt.cells] at p0 p1 p2 q0 q1 q2
      clear ka8 kb8 hb8
      cases q
      all_goals
        go_wp2_with fail
        refine (vNames_ok _).mono ?_
        rintro e w9 ⟨⟨A, rfl, hN⟩, hb9⟩
        have HN := Lib.hid hN
        have HB9 := Lib.hid (Below.then_ HB8.out hb9)
        clear hN hb9 p0 p1 p2 pl q0 q1 q2 ql
        go_wp2_with fail
        refine (rNames_ok _).mono ?_
        rintro e w10 ⟨⟨A2, rfl, hN2⟩, hb10⟩
        have hN9 := HN.out.up hb10
        have HB10 := Lib.hid (Below.then_ HB9.out hb10)
        go_wp2_with fail
        refine (eqStr_same nms A A2 9 9 w10 (by decide) hN9 hN2).mono ?_
        rintro e w11 ⟨rfl, hb11⟩
        have HZ := Lib.hid (Below.then_ HB10.out hb11)
        clear hb11 hN9 hN2 hb10
        go_wp2
        go_ret
        exact ⟨rfl, HZ.out⟩
end Go.Proofs.YtpedlbjbbcbbkaaGreat
