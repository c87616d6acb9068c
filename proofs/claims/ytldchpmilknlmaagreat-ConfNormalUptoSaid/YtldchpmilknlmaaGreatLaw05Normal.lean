/-
  The laws of the chapter of layer 5: ConfNormal, walked.
-/
import Derived.BigQuiet
import Derived.Deep.RegionHeld3
import Derived.Test.YtldchpmilknlmaaGreatAlive05
import Derived.Test.YtldchpmilknlmaaGreatBoxN
namespace Go.Proofs.YtldchpmilknlmaaGreat
open Go.RowKit Go.Lib
attribute [local go_sem] ext_cell
set_option maxRecDepth 100000 in
set_option maxHeartbeats 16000000 in
theorem confNormal_ok (c : Cfg) (A1 A2 A3 A4 A5 : Option Addr) (c1 c2 c3 c4 c5 : Nat) (w : World) (hR : CfgR w w.heap.size c A1 A2 A3 A4 A5 c1 c2 c3 c4 c5) (hs : c.small) (hok : c.ok) : Calls Tryz.prog 3 #[cfgV c.frame A1 A2 A3 A4 A5 c.parts.length c.wins.length c.regs.length c.ports.length c.chans.length c1 c2 c3 c4 c5] w fun e w' => e = .returned (.bool true) ∧ Below w.heap.size w w' := by
  obtain ⟨W0, hW, st⟩ := St.start_any hR 29
  have HW := Lib.hid hW
  have ST0 := Lib.hid st
  obtain ⟨x0, x1, x2, x3, x4, x5, hz⟩ := st.cells
  have ht : c.total ≤ 4194304 := hs.tot
  clear hR hW st
  rcases Bool.eq_false_or_eq_true (few c) with h1 | h1
  · have H1 := Lib.hid h1
    obtain ⟨d, hd⟩ : ∃ d, c.norm = d := ⟨_, rfl⟩
    have HD := Lib.hid hd
    have HDD := Lib.hid (show d.norm = d by rw [← hd, norm_idem])
    have HDO := Lib.hid (show d.ok by rw [← hd]; exact Cfg.norm_ok hok)
    have HDS := Lib.hid (show d.small by rw [← hd]; exact Cfg.norm_small hs)
    have HDT := Lib.hid HDS.out.tot
    have HTT := Lib.hid ht
    have HOK := Lib.hid hok
    have HSM := Lib.hid hs
    have HEC := Lib.hid (show eqC c c = true from eqC_yes rfl)
    have HED := Lib.hid (show eqC d d = true from eqC_yes rfl)
    have HEN := Lib.hid (show eqC d d.norm = true by rw [HDD.out]; exact eqC_yes rfl)
    obtain ⟨v, hv⟩ : ∃ v, eqC c d = v := ⟨_, rfl⟩
    have HV := Lib.hid hv
    have HVN := Lib.hid (show eqC c c.norm = v by rw [hd]; exact hv)
    clear h1 hd hok ht hv hs
    go_enter Tryz.func3, Tryz.ntmps3
    go_upto_region 1 with (fail)
    rw [HW.out]
    go_wp2_with fail
    refine (few_valB c _ _ _ _ _ _ _ _ _ _ _ ST0.out.R HSM.out true H1).mono ?_
    rintro e0 w1 ⟨rfl, hb1⟩
    have ST1 := Lib.hid (ST0.out.up hb1)
    clear hb1 x0 x1 x2 x3 x4 x5 hz
    obtain ⟨x0, x1, x2, x3, x4, x5, hz⟩ := ST1.out.cells
    go_wp2_with fail
    refine (cloneR_ok c A1 A2 A3 A4 A5 c1 c2 c3 c4 c5 _ ST1.out.R HTT.out).mono ?_
    rintro e w2 ⟨O1, O2, O3, O4, O5, o1, o2, o3, o4, o5, rfl, hO, hb2⟩
    obtain ⟨W3, hW3, co, hb3⟩ := CBx.new hO 29
    have HW3 := Lib.hid hW3
    have ST3 := Lib.hid (ST1.out.up (Below.then_ hb2 hb3))
    have CO := Lib.hid co
    clear x0 x1 x2 x3 x4 x5 hz hO hb2 hW3 co hb3
    go_upto_region 4 with (fail)
    rw [HW3.out]
    clear HW3
    generalize w2.heap.size = g3 at *
    obtain ⟨y0, y1, y2, y3, y4, y5⟩ := CO.out.cells
    go_wp2_with fail
    refine (normalD_ok c d HD O1 O2 O3 O4 O5 o1 o2 o3 o4 o5 W3 CO.out.R HTT.out).mono ?_
    rintro e w4 ⟨N1, N2, N3, N4, N5, n1, n2, n3, n4, n5, rfl, hN, hb4⟩
    obtain ⟨W4, hW4, cn, hb5⟩ := CBx.new hN 29
    have HW4 := Lib.hid hW4
    have ST4 := Lib.hid (ST3.out.up (Below.then_ hb4 hb5))
    have CO4 := Lib.hid (CO.out.up (Below.then_ hb4 hb5))
    have CN := Lib.hid cn
    clear y0 y1 y2 y3 y4 y5 hN hb4 hW4 cn hb5
    go_upto_region 5 with (fail)
    rw [HW4.out]
    clear HW4
    generalize w4.heap.size = g4 at *
    obtain ⟨x0, x1, x2, x3, x4, x5, hz⟩ := ST4.out.cells
    go_wp2_with fail
    refine (rNormalD_ok c d HD A1 A2 A3 A4 A5 c1 c2 c3 c4 c5 W4 ST4.out.R HOK.out HSM.out).mono ?_
    rintro e w5 ⟨M1, M2, M3, M4, M5, m1, m2, m3, m4, m5, rfl, hM, hb6⟩
    obtain ⟨V, hV, cm, hb7⟩ := CBx.new hM 29
    have HW5 := Lib.hid hV
    have BC := Lib.hid (ST4.out.up (Below.then_ hb6 hb7)).cbx
    have BO := Lib.hid (CO4.out.up (Below.then_ hb6 hb7))
    have BN := Lib.hid (CN.out.up (Below.then_ hb6 hb7))
    have BM := Lib.hid cm
    have HZ := Lib.hid (ST4.out.up (Below.then_ hb6 hb7)).bel
    clear x0 x1 x2 x3 x4 x5 hz hM hb6 hV cm hb7
    go_upto_region 6 with (fail)
    rw [HW5.out]
    clear HW5
    generalize w5.heap.size = g5 at *
    have KEEP : ∀ U, Below V.heap.size V U → (fun U => U.cell? ⟨w.heap.size, 0, none⟩ = some (.int .u64 c.frame) ∧ U.cell? ⟨w.heap.size, 1, none⟩ = some (.slice A1 c.parts.length c1) ∧ U.cell? ⟨w.heap.size, 2, none⟩ = some (.slice A2 c.wins.length c2) ∧ U.cell? ⟨w.heap.size, 3, none⟩ = some (.slice A3 c.regs.length c3) ∧ U.cell? ⟨w.heap.size, 4, none⟩ = some (.slice A4 c.ports.length c4) ∧ U.cell? ⟨w.heap.size, 5, none⟩ = some (.slice A5 c.chans.length c5) ∧ U.cell? ⟨g3, 0, none⟩ = some (.int .u64 c.frame) ∧ U.cell? ⟨g3, 1, none⟩ = some (.slice O1 c.parts.length o1) ∧ U.cell? ⟨g3, 2, none⟩ = some (.slice O2 c.wins.length o2) ∧ U.cell? ⟨g3, 3, none⟩ = some (.slice O3 c.regs.length o3) ∧ U.cell? ⟨g3, 4, none⟩ = some (.slice O4 c.ports.length o4) ∧ U.cell? ⟨g3, 5, none⟩ = some (.slice O5 c.chans.length o5) ∧ U.cell? ⟨g4, 0, none⟩ = some (.int .u64 d.frame) ∧ U.cell? ⟨g4, 1, none⟩ = some (.slice N1 d.parts.length n1) ∧ U.cell? ⟨g4, 2, none⟩ = some (.slice N2 d.wins.length n2) ∧ U.cell? ⟨g4, 3, none⟩ = some (.slice N3 d.regs.length n3) ∧ U.cell? ⟨g4, 4, none⟩ = some (.slice N4 d.ports.length n4) ∧ U.cell? ⟨g4, 5, none⟩ = some (.slice N5 d.chans.length n5) ∧ U.cell? ⟨g5, 0, none⟩ = some (.int .u64 d.frame) ∧ U.cell? ⟨g5, 1, none⟩ = some (.slice M1 d.parts.length m1) ∧ U.cell? ⟨g5, 2, none⟩ = some (.slice M2 d.wins.length m2) ∧ U.cell? ⟨g5, 3, none⟩ = some (.slice M3 d.regs.length m3) ∧ U.cell? ⟨g5, 4, none⟩ = some (.slice M4 d.ports.length m4) ∧ U.cell? ⟨g5, 5, none⟩ = some (.slice M5 d.chans.length m5)) U := fun U hU => by
      obtain ⟨a0, a1, a2, a3, a4, a5⟩ := (BC.out.up hU).cells
      obtain ⟨b0, b1, b2, b3, b4, b5⟩ := (BO.out.up hU).cells
      obtain ⟨e0, e1, e2, e3, e4, e5⟩ := (BN.out.up hU).cells
      obtain ⟨f0, f1, f2, f3, f4, f5⟩ := (BM.out.up hU).cells
      exact ⟨a0, a1, a2, a3, a4, a5, b0, b1, b2, b3, b4, b5, e0, e1, e2, e3, e4, e5, f0, f1, f2, f3, f4, f5⟩
    have HKP := Lib.hid KEEP
    obtain ⟨a0, a1, a2, a3, a4, a5, b0, b1, b2, b3, b4, b5, e0, e1, e2, e3, e4, e5, f0, f1, f2, f3, f4, f5⟩ := KEEP V (Below.refl _ _)
    have HBW := Lib.hid (Below.refl V.heap.size V)
    clear KEEP
    go_region_held3 (fun U => U.cell? ⟨w.heap.size, 0, none⟩ = some (.int .u64 c.frame) ∧ U.cell? ⟨w.heap.size, 1, none⟩ = some (.slice A1 c.parts.length c1) ∧ U.cell? ⟨w.heap.size, 2, none⟩ = some (.slice A2 c.wins.length c2) ∧ U.cell? ⟨w.heap.size, 3, none⟩ = some (.slice A3 c.regs.length c3) ∧ U.cell? ⟨w.heap.size, 4, none⟩ = some (.slice A4 c.ports.length c4) ∧ U.cell? ⟨w.heap.size, 5, none⟩ = some (.slice A5 c.chans.length c5) ∧ U.cell? ⟨g3, 0, none⟩ = some (.int .u64 c.frame) ∧ U.cell? ⟨g3, 1, none⟩ = some (.slice O1 c.parts.length o1) ∧ U.cell? ⟨g3, 2, none⟩ = some (.slice O2 c.wins.length o2) ∧ U.cell? ⟨g3, 3, none⟩ = some (.slice O3 c.regs.length o3) ∧ U.cell? ⟨g3, 4, none⟩ = some (.slice O4 c.ports.length o4) ∧ U.cell? ⟨g3, 5, none⟩ = some (.slice O5 c.chans.length o5) ∧ U.cell? ⟨g4, 0, none⟩ = some (.int .u64 d.frame) ∧ U.cell? ⟨g4, 1, none⟩ = some (.slice N1 d.parts.length n1) ∧ U.cell? ⟨g4, 2, none⟩ = some (.slice N2 d.wins.length n2) ∧ U.cell? ⟨g4, 3, none⟩ = some (.slice N3 d.regs.length n3) ∧ U.cell? ⟨g4, 4, none⟩ = some (.slice N4 d.ports.length n4) ∧ U.cell? ⟨g4, 5, none⟩ = some (.slice N5 d.chans.length n5) ∧ U.cell? ⟨g5, 0, none⟩ = some (.int .u64 d.frame) ∧ U.cell? ⟨g5, 1, none⟩ = some (.slice M1 d.parts.length m1) ∧ U.cell? ⟨g5, 2, none⟩ = some (.slice M2 d.wins.length m2) ∧ U.cell? ⟨g5, 3, none⟩ = some (.slice M3 d.regs.length m3) ∧ U.cell? ⟨g5, 4, none⟩ = some (.slice M4 d.ports.length m4) ∧ U.cell? ⟨g5, 5, none⟩ = some (.slice M5 d.chans.length m5))
      (first | (refine HKP.out _ ?_; (repeat (first | with_reducible exact HBW.out | with_reducible exact Below.refl _ _ | with_reducible refine Below.drew ?_ | (with_reducible refine Below.alloc ?_ (by first | (simp; done) | (have hq := HBW.out.size; simp at hq ⊢; omega)) _) | (with_reducible refine Below.setCell ?_ (by first | (simp; done) | (have hq := HBW.out.size; simp at hq ⊢; omega)) _))); done) | go_keep)
      (first
      | (go_at_call 10; refine (alive_ok _).mono ?_; rintro e q1 ⟨rfl, hq⟩; have HBW := Lib.hid (Below.then_ (show Below V.heap.size V _ from (by (repeat (first | with_reducible exact HBW.out | with_reducible exact Below.refl _ _ | with_reducible refine Below.drew ?_ | (with_reducible refine Below.alloc ?_ (by first | (simp; done) | (have hq := HBW.out.size; simp at hq ⊢; omega)) _) | (with_reducible refine Below.setCell ?_ (by first | (simp; done) | (have hq := HBW.out.size; simp at hq ⊢; omega)) _))))) hq); clear hq)
      | (go_at_call 14; ((with_reducible refine (rSame_ok c O1 O2 O3 O4 O5 o1 o2 o3 o4 o5 c A1 A2 A3 A4 A5 c1 c2 c3 c4 c5 _ (BO.out.up (by (repeat (first | with_reducible exact HBW.out | with_reducible exact Below.refl _ _ | with_reducible refine Below.drew ?_ | (with_reducible refine Below.alloc ?_ (by first | (simp; done) | (have hq := HBW.out.size; simp at hq ⊢; omega)) _) | (with_reducible refine Below.setCell ?_ (by first | (simp; done) | (have hq := HBW.out.size; simp at hq ⊢; omega)) _))))).R (BC.out.up (by (repeat (first | with_reducible exact HBW.out | with_reducible exact Below.refl _ _ | with_reducible refine Below.drew ?_ | (with_reducible refine Below.alloc ?_ (by first | (simp; done) | (have hq := HBW.out.size; simp at hq ⊢; omega)) _) | (with_reducible refine Below.setCell ?_ (by first | (simp; done) | (have hq := HBW.out.size; simp at hq ⊢; omega)) _))))).R HOK.out HSM.out HOK.out HSM.out true HEC).mono ?_); rintro e q1 ⟨rfl, hq⟩; have HBW := Lib.hid (Below.then_ (show Below V.heap.size V _ from (by (repeat (first | with_reducible exact HBW.out | with_reducible exact Below.refl _ _ | with_reducible refine Below.drew ?_ | (with_reducible refine Below.alloc ?_ (by first | (simp; done) | (have hq := HBW.out.size; simp at hq ⊢; omega)) _) | (with_reducible refine Below.setCell ?_ (by first | (simp; done) | (have hq := HBW.out.size; simp at hq ⊢; omega)) _))))) hq); clear hq))
      | (go_at_call 14; ((with_reducible refine (rSame_ok d N1 N2 N3 N4 N5 n1 n2 n3 n4 n5 d M1 M2 M3 M4 M5 m1 m2 m3 m4 m5 _ (BN.out.up (by (repeat (first | with_reducible exact HBW.out | with_reducible exact Below.refl _ _ | with_reducible refine Below.drew ?_ | (with_reducible refine Below.alloc ?_ (by first | (simp; done) | (have hq := HBW.out.size; simp at hq ⊢; omega)) _) | (with_reducible refine Below.setCell ?_ (by first | (simp; done) | (have hq := HBW.out.size; simp at hq ⊢; omega)) _))))).R (BM.out.up (by (repeat (first | with_reducible exact HBW.out | with_reducible exact Below.refl _ _ | with_reducible refine Below.drew ?_ | (with_reducible refine Below.alloc ?_ (by first | (simp; done) | (have hq := HBW.out.size; simp at hq ⊢; omega)) _) | (with_reducible refine Below.setCell ?_ (by first | (simp; done) | (have hq := HBW.out.size; simp at hq ⊢; omega)) _))))).R HDO.out HDS.out HDO.out HDS.out true HED).mono ?_); rintro e q1 ⟨rfl, hq⟩; have HBW := Lib.hid (Below.then_ (show Below V.heap.size V _ from (by (repeat (first | with_reducible exact HBW.out | with_reducible exact Below.refl _ _ | with_reducible refine Below.drew ?_ | (with_reducible refine Below.alloc ?_ (by first | (simp; done) | (have hq := HBW.out.size; simp at hq ⊢; omega)) _) | (with_reducible refine Below.setCell ?_ (by first | (simp; done) | (have hq := HBW.out.size; simp at hq ⊢; omega)) _))))) hq); clear hq))
      | (go_at_call 14; ((with_reducible refine (rSame_ok c A1 A2 A3 A4 A5 c1 c2 c3 c4 c5 d M1 M2 M3 M4 M5 m1 m2 m3 m4 m5 _ (BC.out.up (by (repeat (first | with_reducible exact HBW.out | with_reducible exact Below.refl _ _ | with_reducible refine Below.drew ?_ | (with_reducible refine Below.alloc ?_ (by first | (simp; done) | (have hq := HBW.out.size; simp at hq ⊢; omega)) _) | (with_reducible refine Below.setCell ?_ (by first | (simp; done) | (have hq := HBW.out.size; simp at hq ⊢; omega)) _))))).R (BM.out.up (by (repeat (first | with_reducible exact HBW.out | with_reducible exact Below.refl _ _ | with_reducible refine Below.drew ?_ | (with_reducible refine Below.alloc ?_ (by first | (simp; done) | (have hq := HBW.out.size; simp at hq ⊢; omega)) _) | (with_reducible refine Below.setCell ?_ (by first | (simp; done) | (have hq := HBW.out.size; simp at hq ⊢; omega)) _))))).R HOK.out HSM.out HDO.out HDS.out v HV).mono ?_); rintro e q1 ⟨rfl, hq⟩; have HBW := Lib.hid (Below.then_ (show Below V.heap.size V _ from (by (repeat (first | with_reducible exact HBW.out | with_reducible exact Below.refl _ _ | with_reducible refine Below.drew ?_ | (with_reducible refine Below.alloc ?_ (by first | (simp; done) | (have hq := HBW.out.size; simp at hq ⊢; omega)) _) | (with_reducible refine Below.setCell ?_ (by first | (simp; done) | (have hq := HBW.out.size; simp at hq ⊢; omega)) _))))) hq); clear hq))
      | (go_at_call 14; ((with_reducible refine (rSame_ok d P1 P2 P3 P4 P5 p1 p2 p3 p4 p5 d N1 N2 N3 N4 N5 n1 n2 n3 n4 n5 _ (CP.out.up (by first | exact Below.refl _ _ | exact below_drewK (Below.refl _ _))) (BN.out.up (by (repeat (first | with_reducible exact HBW.out | with_reducible exact Below.refl _ _ | with_reducible refine Below.drew ?_ | (with_reducible refine Below.alloc ?_ (by first | (simp; done) | (have hq := HBW.out.size; simp at hq ⊢; omega)) _) | (with_reducible refine Below.setCell ?_ (by first | (simp; done) | (have hq := HBW.out.size; simp at hq ⊢; omega)) _))))).R HDO.out HDS.out HDO.out HDS.out true HED).mono ?_); rintro e q1 ⟨rfl, hq⟩; have HBW := Lib.hid (Below.then_ (show Below V.heap.size V _ from (by (repeat (first | with_reducible exact HBW.out | with_reducible exact Below.refl _ _ | with_reducible refine Below.drew ?_ | (with_reducible refine Below.alloc ?_ (by first | (simp; done) | (have hq := HBW.out.size; simp at hq ⊢; omega)) _) | (with_reducible refine Below.setCell ?_ (by first | (simp; done) | (have hq := HBW.out.size; simp at hq ⊢; omega)) _))))) hq); clear hq))
      | (go_at_call 15; ((with_reducible refine (isNormal_ok d N1 N2 N3 N4 N5 n1 n2 n3 n4 n5 _ (BN.out.up (by (repeat (first | with_reducible exact HBW.out | with_reducible exact Below.refl _ _ | with_reducible refine Below.drew ?_ | (with_reducible refine Below.alloc ?_ (by first | (simp; done) | (have hq := HBW.out.size; simp at hq ⊢; omega)) _) | (with_reducible refine Below.setCell ?_ (by first | (simp; done) | (have hq := HBW.out.size; simp at hq ⊢; omega)) _))))).R HDT.out true HEN).mono ?_); rintro e q1 ⟨rfl, hq⟩; have HBW := Lib.hid (Below.then_ (show Below V.heap.size V _ from (by (repeat (first | with_reducible exact HBW.out | with_reducible exact Below.refl _ _ | with_reducible refine Below.drew ?_ | (with_reducible refine Below.alloc ?_ (by first | (simp; done) | (have hq := HBW.out.size; simp at hq ⊢; omega)) _) | (with_reducible refine Below.setCell ?_ (by first | (simp; done) | (have hq := HBW.out.size; simp at hq ⊢; omega)) _))))) hq); clear hq))
      | (go_at_call 15; ((with_reducible refine (isNormal_ok c A1 A2 A3 A4 A5 c1 c2 c3 c4 c5 _ (BC.out.up (by (repeat (first | with_reducible exact HBW.out | with_reducible exact Below.refl _ _ | with_reducible refine Below.drew ?_ | (with_reducible refine Below.alloc ?_ (by first | (simp; done) | (have hq := HBW.out.size; simp at hq ⊢; omega)) _) | (with_reducible refine Below.setCell ?_ (by first | (simp; done) | (have hq := HBW.out.size; simp at hq ⊢; omega)) _))))).R HTT.out v HVN).mono ?_); rintro e q1 ⟨rfl, hq⟩; have HBW := Lib.hid (Below.then_ (show Below V.heap.size V _ from (by (repeat (first | with_reducible exact HBW.out | with_reducible exact Below.refl _ _ | with_reducible refine Below.drew ?_ | (with_reducible refine Below.alloc ?_ (by first | (simp; done) | (have hq := HBW.out.size; simp at hq ⊢; omega)) _) | (with_reducible refine Below.setCell ?_ (by first | (simp; done) | (have hq := HBW.out.size; simp at hq ⊢; omega)) _))))) hq); clear hq))
      | (go_at_call 12; refine (normalD_ok d d HDD N1 N2 N3 N4 N5 n1 n2 n3 n4 n5 _ (BN.out.up (by (repeat (first | with_reducible exact HBW.out | with_reducible exact Below.refl _ _ | with_reducible refine Below.drew ?_ | (with_reducible refine Below.alloc ?_ (by first | (simp; done) | (have hq := HBW.out.size; simp at hq ⊢; omega)) _) | (with_reducible refine Below.setCell ?_ (by first | (simp; done) | (have hq := HBW.out.size; simp at hq ⊢; omega)) _))))).R HDT.out).mono ?_; rintro e q1 ⟨P1, P2, P3, P4, P5, p1, p2, p3, p4, p5, rfl, hP, hq⟩; have CP := Lib.hid hP; have HBW := Lib.hid (Below.then_ (show Below V.heap.size V _ from (by (repeat (first | with_reducible exact HBW.out | with_reducible exact Below.refl _ _ | with_reducible refine Below.drew ?_ | (with_reducible refine Below.alloc ?_ (by first | (simp; done) | (have hq := HBW.out.size; simp at hq ⊢; omega)) _) | (with_reducible refine Below.setCell ?_ (by first | (simp; done) | (have hq := HBW.out.size; simp at hq ⊢; omega)) _))))) hq); clear hq hP)
      | fail)
    all_goals
      go_wp2
      go_ret
      exact ⟨ret_bool (by simp), Below.then_ HZ.out HBW.out⟩
  · have H1 := Lib.hid h1
    clear h1
    go_enter Tryz.func3, Tryz.ntmps3
    go_upto_region 1 with (fail)
    rw [HW.out]
    go_wp2_with fail
    refine (few_valB c _ _ _ _ _ _ _ _ _ _ _ ST0.out.R hs false H1).mono ?_
    rintro e w1 ⟨rfl, hb1⟩
    have HB1 := Lib.hid (ST0.out.up hb1).bel
    clear hb1 x0 x1 x2 x3 x4 x5 hz
    go_wp2_with fail
    refine (alive_ok _).mono ?_
    rintro e w2 ⟨rfl, hb2⟩
    have HZ := Lib.hid (Below.then_ HB1.out hb2)
    clear hb2
    go_wp2
    go_ret
    exact ⟨rfl, HZ.out⟩
end Go.Proofs.YtldchpmilknlmaaGreat
