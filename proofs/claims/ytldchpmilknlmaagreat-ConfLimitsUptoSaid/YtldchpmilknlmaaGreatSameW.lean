/-
  conf.Same, walked: whether two configurations have the same records.
-/
import Derived.Test.YtldchpmilknlmaaGreatEqR
import Derived.Test.YtldchpmilknlmaaGreatCore
namespace Go.Proofs.YtldchpmilknlmaaGreat
open Go.RowKit
theorem cfg_ne {a b : Cfg} {v : Bool} (hv : eqC a b = v) (h : ¬ a = b) : v = false := by rw [← hv]; exact eqC_no h
theorem eqPar_val (l m : List Par) (A B : Option Addr) (a b : Nat) (w : World) (v : Bool) (hv : Hid (eqC l m = v)) (hl : l.length ≤ 4194304) (hm : m.length ≤ 4194304) (hA : Rd w w.heap.size 4 A l.length (l.flatMap Par.cells)) (hB : Rd w w.heap.size 4 B m.length (m.flatMap Par.cells)) :
    Calls Tryz.prog 57 #[.slice A l.length a, .slice B m.length b] w fun e w' => e = .returned (.bool v) ∧ Below w.heap.size w w' := by
  have := eqPar_ok l m A B a b w hl hm hA hB
  rwa [hv.out] at this
theorem eqWin_val (l m : List Win) (A B : Option Addr) (a b : Nat) (w : World) (v : Bool) (hv : Hid (eqC l m = v)) (hl : l.length ≤ 4194304) (hm : m.length ≤ 4194304) (hA : Rd w w.heap.size 3 A l.length (l.flatMap Win.cells)) (hB : Rd w w.heap.size 3 B m.length (m.flatMap Win.cells)) :
    Calls Tryz.prog 58 #[.slice A l.length a, .slice B m.length b] w fun e w' => e = .returned (.bool v) ∧ Below w.heap.size w w' := by
  have := eqWin_ok l m A B a b w hl hm hA hB
  rwa [hv.out] at this
theorem eqReg_val (l m : List Reg) (A B : Option Addr) (a b : Nat) (w : World) (v : Bool) (hv : Hid (eqC l m = v)) (hl : l.length ≤ 4194304) (hm : m.length ≤ 4194304) (hA : Rd w w.heap.size 5 A l.length (l.flatMap Reg.cells)) (hB : Rd w w.heap.size 5 B m.length (m.flatMap Reg.cells)) :
    Calls Tryz.prog 59 #[.slice A l.length a, .slice B m.length b] w fun e w' => e = .returned (.bool v) ∧ Below w.heap.size w w' := by
  have := eqReg_ok l m A B a b w hl hm hA hB
  rwa [hv.out] at this
theorem eqPrt_val (l m : List Prt) (A B : Option Addr) (a b : Nat) (w : World) (v : Bool) (hv : Hid (eqC l m = v)) (hl : l.length ≤ 4194304) (hm : m.length ≤ 4194304) (hA : Rd w w.heap.size 6 A l.length (l.flatMap Prt.cells)) (hB : Rd w w.heap.size 6 B m.length (m.flatMap Prt.cells)) :
    Calls Tryz.prog 60 #[.slice A l.length a, .slice B m.length b] w fun e w' => e = .returned (.bool v) ∧ Below w.heap.size w w' := by
  have := eqPrt_ok l m A B a b w hl hm hA hB
  rwa [hv.out] at this
theorem eqChn_val (l m : List Chn) (A B : Option Addr) (a b : Nat) (w : World) (v : Bool) (hv : Hid (eqC l m = v)) (hl : l.length ≤ 4194304) (hm : m.length ≤ 4194304) (hdl : ∀ x ∈ l, x.dests.length ≤ 4194304) (hdm : ∀ x ∈ m, x.dests.length ≤ 4194304) (hA : ∃ cs, ChnsC w w.heap.size l cs ∧ Rd w w.heap.size 3 A l.length cs) (hB : ∃ cs, ChnsC w w.heap.size m cs ∧ Rd w w.heap.size 3 B m.length cs) :
    Calls Tryz.prog 61 #[.slice A l.length a, .slice B m.length b, .func (.func 62) #[] #[]] w fun e w' => e = .returned (.bool v) ∧ Below w.heap.size w w' := by
  obtain ⟨cs, h1, h2⟩ := hA
  obtain ⟨ds, h3, h4⟩ := hB
  have := eqChn_ok l m A B a b w hl hm hdl hdm cs ds h1 h3 h2 h4
  rwa [hv.out] at this
theorem dests_le {c : Cfg} {N : Nat} (ht : c.total ≤ N) : ∀ x ∈ c.chans, x.dests.length ≤ N := fun x hx => by
  obtain ⟨k, hk⟩ := List.getElem?_of_mem hx
  have h2 := sumDests_next hk
  have h3 : sumDests c.chans = sumDests (c.chans.take (k + 1)) + sumDests (c.chans.drop (k + 1)) := by
    unfold sumDests
    rw [← List.sum_append, ← List.map_append, List.take_append_drop]
  unfold Cfg.total at ht
  omega
set_option maxRecDepth 100000 in
set_option maxHeartbeats 8000000 in
theorem same_ok (a : Cfg) (A1 A2 A3 A4 A5 : Option Addr) (c1 c2 c3 c4 c5 : Nat) (b : Cfg) (B1 B2 B3 B4 B5 : Option Addr) (d1 d2 d3 d4 d5 : Nat) (w : World) (hRa : CfgR w w.heap.size a A1 A2 A3 A4 A5 c1 c2 c3 c4 c5) (hta : a.total ≤ 4194304) (hRb : CfgR w w.heap.size b B1 B2 B3 B4 B5 d1 d2 d3 d4 d5) (htb : b.total ≤ 4194304) (v : Bool) (hv : Hid (eqC a b = v)) :
    Calls Tryz.prog 16 #[cfgV a.frame A1 A2 A3 A4 A5 a.parts.length a.wins.length a.regs.length a.ports.length a.chans.length c1 c2 c3 c4 c5, cfgV b.frame B1 B2 B3 B4 B5 b.parts.length b.wins.length b.regs.length b.ports.length b.chans.length d1 d2 d3 d4 d5] w fun e w' => e = .returned (.bool v) ∧ Below w.heap.size w w' := by
  obtain ⟨W0, hW, sta⟩ := St.start_any hRa 29
  have hb0 : Below w.heap.size w W0 := sta.bel
  have e0 : W0.heap.size = w.heap.size + 1 := by rw [← hW]; simp
  obtain ⟨W1, hW1, stb⟩ := St.start_any (hRb.up hb0) 29
  have hb1 : Below W0.heap.size W0 W1 := stb.bel
  have HW := Lib.hid hW
  have HW1 := Lib.hid hW1
  have SA := Lib.hid (sta.up hb1)
  have SB := Lib.hid stb
  have HDA := Lib.hid (dests_le hta)
  have HDB := Lib.hid (dests_le htb)
  have la1 : a.parts.length ≤ 4194304 := by unfold Cfg.total at hta; omega
  have lb1 : b.parts.length ≤ 4194304 := by unfold Cfg.total at htb; omega
  have la2 : a.wins.length ≤ 4194304 := by unfold Cfg.total at hta; omega
  have lb2 : b.wins.length ≤ 4194304 := by unfold Cfg.total at htb; omega
  have la3 : a.regs.length ≤ 4194304 := by unfold Cfg.total at hta; omega
  have lb3 : b.regs.length ≤ 4194304 := by unfold Cfg.total at htb; omega
  have la4 : a.ports.length ≤ 4194304 := by unfold Cfg.total at hta; omega
  have lb4 : b.ports.length ≤ 4194304 := by unfold Cfg.total at htb; omega
  have la5 : a.chans.length ≤ 4194304 := by unfold Cfg.total at hta; omega
  have lb5 : b.chans.length ≤ 4194304 := by unfold Cfg.total at htb; omega
  obtain ⟨x0, x1, x2, x3, x4, x5, hz⟩ := SA.out.cells
  obtain ⟨y0, y1, y2, y3, y4, y5, hzb⟩ := SB.out.cells
  rw [e0] at y0 y1 y2 y3 y4 y5 hzb
  have E0 := Lib.hid e0
  have hvo := hv.out
  obtain ⟨v1, hv1⟩ : ∃ v, eqC a.parts b.parts = v := ⟨_, rfl⟩
  have HV1 := Lib.hid hv1
  obtain ⟨v2, hv2⟩ : ∃ v, eqC a.wins b.wins = v := ⟨_, rfl⟩
  have HV2 := Lib.hid hv2
  obtain ⟨v3, hv3⟩ : ∃ v, eqC a.regs b.regs = v := ⟨_, rfl⟩
  have HV3 := Lib.hid hv3
  obtain ⟨v4, hv4⟩ : ∃ v, eqC a.ports b.ports = v := ⟨_, rfl⟩
  have HV4 := Lib.hid hv4
  obtain ⟨v5, hv5⟩ : ∃ v, eqC a.chans b.chans = v := ⟨_, rfl⟩
  have HV5 := Lib.hid hv5
  have HVO := Lib.hid hvo
  clear hRa hRb hW hW1 sta stb hta htb hb0 hb1 e0 hv hvo hv1 hv2 hv3 hv4 hv5
  go_enter Tryz.func16, Tryz.ntmps16
  go_upto_region 1 with (fail)
  rw [HW.out, HW1.out]
  by_cases hf : a.frame = b.frame
  rotate_left
  · have HF := Lib.hid (show v = false from cfg_ne HVO.out fun e => hf (by rw [e]))
    have hf2 : (a.frame == b.frame) = false := by rw [beq_eq_false_iff_ne]; exact hf
    have HZ := Lib.hid SA.out.bel
    go_wp2
    go_ret
    exact ⟨by rw [HF.out]; rfl, HZ.out⟩
  have HFR := Lib.hid hf
  rw [← hf] at y0
  clear hf
  go_wp2_with fail
  refine (eqPar_val a.parts b.parts _ _ _ _ _ v1 HV1 la1 lb1 SA.out.R.parts SB.out.R.parts).mono ?_
  rintro e w1 ⟨rfl, hb⟩
  have SA := Lib.hid (SA.out.up hb)
  have SB := Lib.hid (SB.out.up hb)
  clear hb x0 x1 x2 x3 x4 x5 hz y0 y1 y2 y3 y4 y5 hzb
  cases v1
  · have HF := Lib.hid (show v = false from cfg_ne HVO.out fun e => by have := HV1.out; rw [e, eqC_yes rfl] at this; cases this)
    have HZ := Lib.hid SA.out.bel
    go_wp2
    go_ret
    exact ⟨by rw [HF.out]; rfl, HZ.out⟩
  obtain ⟨x0, x1, x2, x3, x4, x5, hz⟩ := SA.out.cells
  obtain ⟨y0, y1, y2, y3, y4, y5, hzb⟩ := SB.out.cells
  rw [E0.out] at y0 y1 y2 y3 y4 y5 hzb
  go_wp2_with fail
  refine (eqWin_val a.wins b.wins _ _ _ _ _ v2 HV2 la2 lb2 SA.out.R.wins SB.out.R.wins).mono ?_
  rintro e w2 ⟨rfl, hb⟩
  have SA := Lib.hid (SA.out.up hb)
  have SB := Lib.hid (SB.out.up hb)
  clear hb x0 x1 x2 x3 x4 x5 hz y0 y1 y2 y3 y4 y5 hzb
  cases v2
  · have HF := Lib.hid (show v = false from cfg_ne HVO.out fun e => by have := HV2.out; rw [e, eqC_yes rfl] at this; cases this)
    have HZ := Lib.hid SA.out.bel
    go_wp2
    go_ret
    exact ⟨by rw [HF.out]; rfl, HZ.out⟩
  obtain ⟨x0, x1, x2, x3, x4, x5, hz⟩ := SA.out.cells
  obtain ⟨y0, y1, y2, y3, y4, y5, hzb⟩ := SB.out.cells
  rw [E0.out] at y0 y1 y2 y3 y4 y5 hzb
  go_wp2_with fail
  refine (eqReg_val a.regs b.regs _ _ _ _ _ v3 HV3 la3 lb3 SA.out.R.regs SB.out.R.regs).mono ?_
  rintro e w3 ⟨rfl, hb⟩
  have SA := Lib.hid (SA.out.up hb)
  have SB := Lib.hid (SB.out.up hb)
  clear hb x0 x1 x2 x3 x4 x5 hz y0 y1 y2 y3 y4 y5 hzb
  cases v3
  · have HF := Lib.hid (show v = false from cfg_ne HVO.out fun e => by have := HV3.out; rw [e, eqC_yes rfl] at this; cases this)
    have HZ := Lib.hid SA.out.bel
    go_wp2
    go_ret
    exact ⟨by rw [HF.out]; rfl, HZ.out⟩
  obtain ⟨x0, x1, x2, x3, x4, x5, hz⟩ := SA.out.cells
  obtain ⟨y0, y1, y2, y3, y4, y5, hzb⟩ := SB.out.cells
  rw [E0.out] at y0 y1 y2 y3 y4 y5 hzb
  go_wp2_with fail
  refine (eqPrt_val a.ports b.ports _ _ _ _ _ v4 HV4 la4 lb4 SA.out.R.ports SB.out.R.ports).mono ?_
  rintro e w4 ⟨rfl, hb⟩
  have SA := Lib.hid (SA.out.up hb)
  have SB := Lib.hid (SB.out.up hb)
  clear hb x0 x1 x2 x3 x4 x5 hz y0 y1 y2 y3 y4 y5 hzb
  cases v4
  · have HF := Lib.hid (show v = false from cfg_ne HVO.out fun e => by have := HV4.out; rw [e, eqC_yes rfl] at this; cases this)
    have HZ := Lib.hid SA.out.bel
    go_wp2
    go_ret
    exact ⟨by rw [HF.out]; rfl, HZ.out⟩
  obtain ⟨x0, x1, x2, x3, x4, x5, hz⟩ := SA.out.cells
  obtain ⟨y0, y1, y2, y3, y4, y5, hzb⟩ := SB.out.cells
  rw [E0.out] at y0 y1 y2 y3 y4 y5 hzb
  go_wp2_with fail
  refine (eqChn_val a.chans b.chans _ _ _ _ _ v5 HV5 la5 lb5 HDA.out HDB.out SA.out.R.chans SB.out.R.chans).mono ?_
  rintro e w5 ⟨rfl, hb⟩
  have SA := Lib.hid (SA.out.up hb)
  have SB := Lib.hid (SB.out.up hb)
  clear hb x0 x1 x2 x3 x4 x5 hz y0 y1 y2 y3 y4 y5 hzb
  have HZ := Lib.hid SA.out.bel
  have HF := Lib.hid (show v = v5 by
    cases v5
    · exact cfg_ne HVO.out fun e => by have := HV5.out; rw [e, eqC_yes rfl] at this; cases this
    · rw [← HVO.out]
      refine eqC_yes ?_
      have e0 := HFR.out
      have e1 := eqC_iff.1 HV1.out
      have e2 := eqC_iff.1 HV2.out
      have e3 := eqC_iff.1 HV3.out
      have e4 := eqC_iff.1 HV4.out
      have e5 := eqC_iff.1 HV5.out
      cases a; cases b
      simp only at e0 e1 e2 e3 e4 e5
      rw [e0, e1, e2, e3, e4, e5])
  go_wp2
  go_ret
  exact ⟨by rw [HF.out]; first | rfl | (cases v5 <;> rfl), HZ.out⟩
end Go.Proofs.YtldchpmilknlmaaGreat
