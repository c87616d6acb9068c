/-
  What Ports and Channels of package wiring return, walked once: the functions themselves.
-/
import Derived.Test.YtifmcdnaaaphmaaWirF
namespace Go.Proofs.Ytifmcdnaaaphmaa
open Go.RowKit
attribute [local go_sem] ext_cell
def pFlt (c : Cfg) : Flt := badFlt 4 (portBad c)
def xFlt (c : Cfg) : Flt := badFlt 5 (chanBad c)
set_option maxRecDepth 100000 in
set_option maxHeartbeats 4000000 in
theorem wPorts_ok (c : Cfg) (A1 A2 A3 A4 A5 : Option Addr) (c1 c2 c3 c4 c5 : Nat) (w : World) (hR : CfgR w w.heap.size c A1 A2 A3 A4 A5 c1 c2 c3 c4 c5) (hs : c.small) (hok : c.ok) : Calls Try.prog 13 #[cfgV c.frame A1 A2 A3 A4 A5 c.parts.length c.wins.length c.regs.length c.ports.length c.chans.length c1 c2 c3 c4 c5] w fun e w' => e = .returned (fltV (pFlt c)) ∧ Below w.heap.size w w' := by
  obtain ⟨W0, hW, st⟩ := St.start_any hR 29
  have HW := Lib.hid hW
  obtain ⟨W1, hW1, hk1, hb1⟩ := FltBk W0 36
  have HW1 := Lib.hid hW1
  have e0 : W0.heap.size = w.heap.size + 1 := by rw [← hW]; simp
  rw [e0] at hk1
  have HK1 := Lib.hid hk1
  have hst1 := st.up hb1
  obtain ⟨x0, x1, x2, x3, x4, x5, hz⟩ := hst1.cells
  have ST1 := Lib.hid hst1
  have hbd := hs.bd
  clear hR hW st hW1 hk1 hst1 e0
  go_enter Try.func13, Try.ntmps13
  go_upto_region 1 with (fail)
  rw [HW.out, HW1.out]
  have KEEP : ∀ V, Below W1.heap.size W1 V → (fun w' => w'.cell? ⟨w.heap.size, 0, none⟩ = some (.int .u64 c.frame) ∧ w'.cell? ⟨w.heap.size, 1, none⟩ = some (.slice A1 c.parts.length c1) ∧ w'.cell? ⟨w.heap.size, 2, none⟩ = some (.slice A2 c.wins.length c2) ∧
      w'.cell? ⟨w.heap.size, 3, none⟩ = some (.slice A3 c.regs.length c3) ∧ w'.cell? ⟨w.heap.size, 4, none⟩ = some (.slice A4 c.ports.length c4) ∧ w'.cell? ⟨w.heap.size, 5, none⟩ = some (.slice A5 c.chans.length c5)) V := fun V hV => by
    have q : ∀ b o, b < W1.heap.size → V.cell? ⟨b, o, none⟩ = W1.cell? ⟨b, o, none⟩ := fun b o h => hV.cell (p := ⟨b, o, none⟩) h
    exact ⟨(q _ _ hz).trans x0, (q _ _ hz).trans x1, (q _ _ hz).trans x2, (q _ _ hz).trans x3, (q _ _ hz).trans x4, (q _ _ hz).trans x5⟩
  have HKP := Lib.hid KEEP
  clear KEEP
  go_region_held3 (fun w' => w'.cell? ⟨w.heap.size, 0, none⟩ = some (.int .u64 c.frame) ∧ w'.cell? ⟨w.heap.size, 1, none⟩ = some (.slice A1 c.parts.length c1) ∧ w'.cell? ⟨w.heap.size, 2, none⟩ = some (.slice A2 c.wins.length c2) ∧
      w'.cell? ⟨w.heap.size, 3, none⟩ = some (.slice A3 c.regs.length c3) ∧ w'.cell? ⟨w.heap.size, 4, none⟩ = some (.slice A4 c.ports.length c4) ∧ w'.cell? ⟨w.heap.size, 5, none⟩ = some (.slice A5 c.chans.length c5))
    (first | exact HKP.out _ HBX.out | exact HKP.out _ HBW.out | exact trivial | go_keep)
    (first
      | (go_at_call 34; refine (of_ok c _ _ _ _ _ _ _ _ _ _ _ (ST1.out.up (by repeat (first | with_reducible exact Below.refl _ _ | with_reducible refine Below.drew ?_ | (with_reducible refine Below.alloc ?_ (by simp) _) | (with_reducible refine Below.setCell ?_ (by simp) _)))).R hs hok).mono ?_; rintro e w2 ⟨g, b, rfl, hc, hm, hb2, hgb⟩; have HBW := Lib.hid (Below.then_ (show Below W1.heap.size W1 _ from (by repeat (first | with_reducible exact Below.refl _ _ | with_reducible refine Below.drew ?_ | (with_reducible refine Below.alloc ?_ (by simp) _) | (with_reducible refine Below.setCell ?_ (by simp) _)))) hb2); have HC := Lib.hid hc)
      | (go_at_call 33; refine (firstPort_ok c hok hbd g b _ _ _ HC.out).mono ?_; rintro e w3 ⟨rfl, hb3⟩; have HBX := Lib.hid (Below.then_ HBW.out hb3); have hk3 := HK1.out.below HBX.out HK1.out.lt; have q0 := hk3.cell 0; have q1 := hk3.cell 1; have q2 := hk3.cell 2; have qf := hk3.frozen; simp at q0 q1 q2))
  go_wp2
  refine bodyPost_ret (v := fltV (badFlt 4 (portBad c))) (by simp [results, Try.results13, go_sem, q0, q1, q2, qf]) rfl ⟨rfl, ?_⟩
  exact Below.setCell (Below.setCell (Below.setCell (ST1.out.up HBX.out).bel (by simp) _) (by simp) _) (by simp) _
set_option maxRecDepth 100000 in
set_option maxHeartbeats 4000000 in
theorem wChannels_ok (c : Cfg) (A1 A2 A3 A4 A5 : Option Addr) (c1 c2 c3 c4 c5 : Nat) (w : World) (hR : CfgR w w.heap.size c A1 A2 A3 A4 A5 c1 c2 c3 c4 c5) (hs : c.small) (hok : c.ok) : Calls Try.prog 14 #[cfgV c.frame A1 A2 A3 A4 A5 c.parts.length c.wins.length c.regs.length c.ports.length c.chans.length c1 c2 c3 c4 c5] w fun e w' => e = .returned (fltV (xFlt c)) ∧ Below w.heap.size w w' := by
  obtain ⟨W0, hW, st⟩ := St.start_any hR 29
  have HW := Lib.hid hW
  obtain ⟨W1, hW1, hk1, hb1⟩ := FltBk W0 36
  have HW1 := Lib.hid hW1
  have e0 : W0.heap.size = w.heap.size + 1 := by rw [← hW]; simp
  rw [e0] at hk1
  have HK1 := Lib.hid hk1
  have hst1 := st.up hb1
  obtain ⟨x0, x1, x2, x3, x4, x5, hz⟩ := hst1.cells
  have ST1 := Lib.hid hst1
  have hbd := hs.bd
  clear hR hW st hW1 hk1 hst1 e0
  go_enter Try.func14, Try.ntmps14
  go_upto_region 1 with (fail)
  rw [HW.out, HW1.out]
  have KEEP : ∀ V, Below W1.heap.size W1 V → (fun w' => w'.cell? ⟨w.heap.size, 0, none⟩ = some (.int .u64 c.frame) ∧ w'.cell? ⟨w.heap.size, 1, none⟩ = some (.slice A1 c.parts.length c1) ∧ w'.cell? ⟨w.heap.size, 2, none⟩ = some (.slice A2 c.wins.length c2) ∧
      w'.cell? ⟨w.heap.size, 3, none⟩ = some (.slice A3 c.regs.length c3) ∧ w'.cell? ⟨w.heap.size, 4, none⟩ = some (.slice A4 c.ports.length c4) ∧ w'.cell? ⟨w.heap.size, 5, none⟩ = some (.slice A5 c.chans.length c5)) V := fun V hV => by
    have q : ∀ b o, b < W1.heap.size → V.cell? ⟨b, o, none⟩ = W1.cell? ⟨b, o, none⟩ := fun b o h => hV.cell (p := ⟨b, o, none⟩) h
    exact ⟨(q _ _ hz).trans x0, (q _ _ hz).trans x1, (q _ _ hz).trans x2, (q _ _ hz).trans x3, (q _ _ hz).trans x4, (q _ _ hz).trans x5⟩
  have HKP := Lib.hid KEEP
  clear KEEP
  go_region_held3 (fun w' => w'.cell? ⟨w.heap.size, 0, none⟩ = some (.int .u64 c.frame) ∧ w'.cell? ⟨w.heap.size, 1, none⟩ = some (.slice A1 c.parts.length c1) ∧ w'.cell? ⟨w.heap.size, 2, none⟩ = some (.slice A2 c.wins.length c2) ∧
      w'.cell? ⟨w.heap.size, 3, none⟩ = some (.slice A3 c.regs.length c3) ∧ w'.cell? ⟨w.heap.size, 4, none⟩ = some (.slice A4 c.ports.length c4) ∧ w'.cell? ⟨w.heap.size, 5, none⟩ = some (.slice A5 c.chans.length c5))
    (first | exact HKP.out _ HBX.out | exact HKP.out _ HBW.out | exact trivial | go_keep)
    (first
      | (go_at_call 34; refine (of_ok c _ _ _ _ _ _ _ _ _ _ _ (ST1.out.up (by repeat (first | with_reducible exact Below.refl _ _ | with_reducible refine Below.drew ?_ | (with_reducible refine Below.alloc ?_ (by simp) _) | (with_reducible refine Below.setCell ?_ (by simp) _)))).R hs hok).mono ?_; rintro e w2 ⟨g, b, rfl, hc, hm, hb2, hgb⟩; have HBW := Lib.hid (Below.then_ (show Below W1.heap.size W1 _ from (by repeat (first | with_reducible exact Below.refl _ _ | with_reducible refine Below.drew ?_ | (with_reducible refine Below.alloc ?_ (by simp) _) | (with_reducible refine Below.setCell ?_ (by simp) _)))) hb2); have HC := Lib.hid hc; have HM := Lib.hid hm; obtain ⟨cs2, hC2, hr2⟩ := (ST1.out.up HBW.out).R.chans; have HCC := Lib.hid hC2; have HRR := Lib.hid hr2; clear hC2 hr2)
      | (go_at_call 36; refine (firstChan_ok c hok hbd g b _ _ _ _ _ HC.out HM.out cs2 HCC.out HRR.out).mono ?_; rintro e w3 ⟨rfl, hg3⟩; have HBX := Lib.hid (below_grown HBW.out hg3 HBW.out.size hgb); have hk3 := HK1.out.below HBX.out HK1.out.lt; have q0 := hk3.cell 0; have q1 := hk3.cell 1; have q2 := hk3.cell 2; have qf := hk3.frozen; simp at q0 q1 q2))
  go_wp2
  refine bodyPost_ret (v := fltV (badFlt 5 (chanBad c))) (by simp [results, Try.results14, go_sem, q0, q1, q2, qf]) rfl ⟨rfl, ?_⟩
  exact Below.setCell (Below.setCell (Below.setCell (ST1.out.up HBX.out).bel (by simp) _) (by simp) _) (by simp) _
end Go.Proofs.Ytifmcdnaaaphmaa
