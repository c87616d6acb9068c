/-
  The laws RouteMakes and RouteFinds of the chapter of layer 23, walked.
-/
import Derived.BigQuiet
import Derived.Deep.RegionHeld3
import Derived.Test.YthnbgbocanpkjaaGreatAlive23
import Derived.Test.YthnbgbocanpkjaaGreatRefR
namespace Go.Proofs.YthnbgbocanpkjaaGreat
open Go.RowKit Go.Lib
theorem newR_yes (c : Cfg) (A1 A2 A3 A4 A5 : Option Addr) (c1 c2 c3 c4 c5 : Nat) (w : World) (hR : CfgR w w.heap.size c A1 A2 A3 A4 A5 c1 c2 c3 c4 c5) (hs : c.small) (hok : c.ok) (hv : Hid (rightR c = true)) : Calls Tryz.prog 11 #[cfgV c.frame A1 A2 A3 A4 A5 c.parts.length c.wins.length c.regs.length c.ports.length c.chans.length c1 c2 c3 c4 c5] w fun e w' => ∃ gr, e = .returned (.pointer (some ⟨gr, 0, none⟩)) ∧ RtAt w' w'.heap.size gr c.norm ∧ Below w.heap.size w w' :=
  (newR_ok c A1 A2 A3 A4 A5 c1 c2 c3 c4 c5 w hR hs hok true hv).mono fun e w' ⟨hb, h⟩ => by
    rcases h with ⟨h0, _⟩ | ⟨_, gr, he, hr⟩
    · cases h0
    · exact ⟨gr, he, hr, hb⟩
theorem newR_no (c : Cfg) (A1 A2 A3 A4 A5 : Option Addr) (c1 c2 c3 c4 c5 : Nat) (w : World) (hR : CfgR w w.heap.size c A1 A2 A3 A4 A5 c1 c2 c3 c4 c5) (hs : c.small) (hok : c.ok) (hv : Hid (rightR c = false)) : Calls Tryz.prog 11 #[cfgV c.frame A1 A2 A3 A4 A5 c.parts.length c.wins.length c.regs.length c.ports.length c.chans.length c1 c2 c3 c4 c5] w fun e w' => e = .returned (.pointer none) ∧ Below w.heap.size w w' :=
  (newR_ok c A1 A2 A3 A4 A5 c1 c2 c3 c4 c5 w hR hs hok false hv).mono fun e w' ⟨hb, h⟩ => by
    rcases h with ⟨_, he⟩ | ⟨h0, _⟩
    · exact ⟨he, hb⟩
    · cases h0
def goodR (c : Cfg) : Bool := few c && rightR c
set_option maxRecDepth 100000 in
set_option maxHeartbeats 4000000 in
theorem goodR_ok (c : Cfg) (A1 A2 A3 A4 A5 : Option Addr) (c1 c2 c3 c4 c5 : Nat) (w : World) (hR : CfgR w w.heap.size c A1 A2 A3 A4 A5 c1 c2 c3 c4 c5) (hs : c.small) (v : Bool) (hv : Hid (goodR c = v)) : Calls Tryz.prog 13 #[cfgV c.frame A1 A2 A3 A4 A5 c.parts.length c.wins.length c.regs.length c.ports.length c.chans.length c1 c2 c3 c4 c5] w fun e w' => e = .returned (.bool v) ∧ Below w.heap.size w w' := by
  obtain ⟨W0, hW, st⟩ := St.start_any hR 29
  have HW := Lib.hid hW
  have ST0 := Lib.hid st
  have HSM := Lib.hid hs
  obtain ⟨x0, x1, x2, x3, x4, x5, hz⟩ := st.cells
  clear hR hW st hs
  rcases Bool.eq_false_or_eq_true (few c) with h1 | h1
  · obtain ⟨r, hr⟩ : ∃ r, rightR c = r := ⟨_, rfl⟩
    have HV := Lib.hid (show v = r by rw [← hv.out]; unfold goodR; rw [h1, hr]; rfl)
    have H1 := Lib.hid h1
    have HR := Lib.hid hr
    clear h1 hr hv
    go_enter Tryz.func13, Tryz.ntmps13
    go_upto_region 1 with (fail)
    rw [HW.out]
    go_wp2_with fail
    refine (few_valB c _ _ _ _ _ _ _ _ _ _ _ ST0.out.R HSM.out true H1).mono ?_
    rintro e w1 ⟨rfl, hb1⟩
    have ST1 := Lib.hid (ST0.out.up hb1)
    clear hb1 x0 x1 x2 x3 x4 x5 hz
    obtain ⟨x0, x1, x2, x3, x4, x5, hz⟩ := ST1.out.cells
    go_wp2_with fail
    refine (rRight_ok c _ _ _ _ _ _ _ _ _ _ _ ST1.out.R HSM.out r HR).mono ?_
    rintro e w2 ⟨rfl, hb2⟩
    have HB := Lib.hid (ST1.out.up hb2).bel
    clear hb2 x0 x1 x2 x3 x4 x5 hz
    go_wp2
    go_ret
    exact ⟨ret_bool HV.out.symm, HB.out⟩
  · have HV := Lib.hid (show v = false by rw [← hv.out]; unfold goodR; rw [h1]; rfl)
    have H1 := Lib.hid h1
    clear h1 hv
    go_enter Tryz.func13, Tryz.ntmps13
    go_upto_region 1 with (fail)
    rw [HW.out]
    go_wp2_with fail
    refine (few_valB c _ _ _ _ _ _ _ _ _ _ _ ST0.out.R HSM.out false H1).mono ?_
    rintro e w1 ⟨rfl, hb1⟩
    have HB := Lib.hid (ST0.out.up hb1).bel
    clear hb1 x0 x1 x2 x3 x4 x5 hz
    go_wp2
    go_ret
    exact ⟨ret_bool HV.out.symm, HB.out⟩
/-- contracts by named results -/
theorem mRouteL (c : Cfg) (hr : RightR c) (hs : c.small) (gr : Nat) (id : Int) (hid : wU16 id) (w : World) (h : RtAt w w.heap.size gr c.norm) (L : List Int) (hL : Hid (routeOf c id = L)) :
    Calls Tryz.prog 25 #[.pointer (some ⟨gr, 0, none⟩), .int .u16 id] w fun e w' => ∃ A a, e = .returned (.slice A L.length a) ∧ Rd w' w'.heap.size 1 A L.length (L.map (Value.int .u16)) ∧ Below w.heap.size w w' :=
  (mRoute_ok c hr hs gr id hid w h).mono fun e w' ⟨v, he, hv, hb⟩ => by
    rw [hL.out] at hv
    obtain ⟨A, a, rfl, _, _, hrd⟩ := own_form hv
    exact ⟨A, a, he, hrd, hb⟩
theorem rRouteL (c : Cfg) (A1 A2 A3 A4 A5 : Option Addr) (c1 c2 c3 c4 c5 : Nat) (w : World) (hR : CfgR w w.heap.size c A1 A2 A3 A4 A5 c1 c2 c3 c4 c5) (hs : c.small) (id : Int) (L : List Int) (hL : Hid (routeOf c id = L)) : Calls Tryz.prog 20 #[cfgV c.frame A1 A2 A3 A4 A5 c.parts.length c.wins.length c.regs.length c.ports.length c.chans.length c1 c2 c3 c4 c5, .int .u16 id] w fun e w' => ∃ A a, e = .returned (.slice A L.length a) ∧ Rd w' w'.heap.size 1 A L.length (L.map (Value.int .u16)) ∧ Below w.heap.size w w' :=
  (rRoute_ok c A1 A2 A3 A4 A5 c1 c2 c3 c4 c5 w hR hs id).mono fun e w' ⟨v, he, hv, hb⟩ => by
    rw [hL.out] at hv
    obtain ⟨A, a, rfl, _, _, hrd⟩ := own_form hv
    exact ⟨A, a, he, hrd, hb⟩
theorem mPortsL (c : Cfg) (hs : c.small) (gr : Nat) (id : Int) (w : World) (h : RtAt w w.heap.size gr c.norm) (K : List Int) (hK : Hid (sortL (portsOf c id) = K)) :
    Calls Tryz.prog 29 #[.pointer (some ⟨gr, 0, none⟩), .int .u16 id] w fun e w' => ∃ A a, e = .returned (.slice A K.length a) ∧ Rd w' w'.heap.size 1 A K.length (K.map (Value.int .u16)) ∧ Below w.heap.size w w' :=
  (mPorts_ok c.norm (Cfg.norm_small hs) gr id w h).mono fun e w' ⟨v, he, hv, hb⟩ => by
    rw [ports_norm, hK.out] at hv
    obtain ⟨A, a, rfl, _, _, hrd⟩ := own_form hv
    exact ⟨A, a, he, hrd, hb⟩
theorem rPortsL (c : Cfg) (A1 A2 A3 A4 A5 : Option Addr) (c1 c2 c3 c4 c5 : Nat) (w : World) (hR : CfgR w w.heap.size c A1 A2 A3 A4 A5 c1 c2 c3 c4 c5) (hs : c.small) (id : Int) (K : List Int) (hK : Hid (sortL (portsOf c id) = K)) : Calls Tryz.prog 30 #[cfgV c.frame A1 A2 A3 A4 A5 c.parts.length c.wins.length c.regs.length c.ports.length c.chans.length c1 c2 c3 c4 c5, .int .u16 id] w fun e w' => ∃ A a, e = .returned (.slice A K.length a) ∧ Rd w' w'.heap.size 1 A K.length (K.map (Value.int .u16)) ∧ Below w.heap.size w w' :=
  (rPorts23_ok c A1 A2 A3 A4 A5 c1 c2 c3 c4 c5 w hR hs id).mono fun e w' ⟨v, he, hv, hb⟩ => by
    have hl : (portsOf c id).length = K.length := by rw [← hK.out]; unfold sortL; simp
    rw [hl, hK.out] at hv
    obtain ⟨A, a, rfl, _, _, hrd⟩ := own_form hv
    exact ⟨A, a, he, hrd, hb⟩
theorem rFromV (c : Cfg) (A1 A2 A3 A4 A5 : Option Addr) (c1 c2 c3 c4 c5 : Nat) (w : World) (hR : CfgR w w.heap.size c A1 A2 A3 A4 A5 c1 c2 c3 c4 c5) (hs : c.small) (id : Int) (s : Int) (b : Bool) (hv : Hid (fromOf c id = (s, b))) : Calls Tryz.prog 27 #[cfgV c.frame A1 A2 A3 A4 A5 c.parts.length c.wins.length c.regs.length c.ports.length c.chans.length c1 c2 c3 c4 c5, .int .u16 id] w fun e w' => e = .returned (.tuple #[.int .u16 s, .bool b]) ∧ Below w.heap.size w w' := by
  have h := rFrom18_ok c A1 A2 A3 A4 A5 c1 c2 c3 c4 c5 w hR hs id
  rwa [hv.out] at h
set_option maxRecDepth 100000 in
set_option maxHeartbeats 16000000 in
theorem routeMakes_ok (c : Cfg) (A1 A2 A3 A4 A5 : Option Addr) (c1 c2 c3 c4 c5 : Nat) (w : World) (hR : CfgR w w.heap.size c A1 A2 A3 A4 A5 c1 c2 c3 c4 c5) (hs : c.small) (hok : c.ok) : Calls Tryz.prog 3 #[cfgV c.frame A1 A2 A3 A4 A5 c.parts.length c.wins.length c.regs.length c.ports.length c.chans.length c1 c2 c3 c4 c5] w fun e w' => e = .returned (.bool true) ∧ Below w.heap.size w w' := by
  obtain ⟨W0, hW, st⟩ := St.start_any hR 29
  have HW := Lib.hid hW
  have ST0 := Lib.hid st
  have HSM := Lib.hid hs
  have HOK := Lib.hid hok
  obtain ⟨x0, x1, x2, x3, x4, x5, hz⟩ := st.cells
  clear hR hW st hs hok
  rcases Bool.eq_false_or_eq_true (few c) with h1 | h1
  · have H1 := Lib.hid h1
    clear h1
    rcases Bool.eq_false_or_eq_true (rightR c) with h2 | h2
    · have H2 := Lib.hid h2
      clear h2
      go_enter Tryz.func3, Tryz.ntmps3
      go_upto_region 1 with (fail)
      rw [HW.out]
      go_wp2_with fail
      refine (few_valB c _ _ _ _ _ _ _ _ _ _ _ ST0.out.R HSM.out true H1).mono ?_
      rintro e w1 ⟨rfl, hb1⟩
      have ST1 := Lib.hid (ST0.out.up hb1)
      clear hb1 x0 x1 x2 x3 x4 x5 hz
      have KEEP : ∀ U, Below w1.heap.size w1 U → (fun U => U.cell? ⟨w.heap.size, 0, none⟩ = some (.int .u64 c.frame) ∧ U.cell? ⟨w.heap.size, 1, none⟩ = some (.slice A1 c.parts.length c1) ∧ U.cell? ⟨w.heap.size, 2, none⟩ = some (.slice A2 c.wins.length c2) ∧ U.cell? ⟨w.heap.size, 3, none⟩ = some (.slice A3 c.regs.length c3) ∧ U.cell? ⟨w.heap.size, 4, none⟩ = some (.slice A4 c.ports.length c4) ∧ U.cell? ⟨w.heap.size, 5, none⟩ = some (.slice A5 c.chans.length c5)) U := fun U hU => by
        obtain ⟨a0, a1, a2, a3, a4, a5, _⟩ := (ST1.out.up hU).cells
        exact ⟨a0, a1, a2, a3, a4, a5⟩
      have HKP := Lib.hid KEEP
      have HBW := Lib.hid (Below.refl w1.heap.size w1)
      obtain ⟨a0, a1, a2, a3, a4, a5⟩ := KEEP w1 (Below.refl _ _)
      clear KEEP
      go_upto_region 3 with (fail)
      go_region_held3 (fun U => U.cell? ⟨w.heap.size, 0, none⟩ = some (.int .u64 c.frame) ∧ U.cell? ⟨w.heap.size, 1, none⟩ = some (.slice A1 c.parts.length c1) ∧ U.cell? ⟨w.heap.size, 2, none⟩ = some (.slice A2 c.wins.length c2) ∧ U.cell? ⟨w.heap.size, 3, none⟩ = some (.slice A3 c.regs.length c3) ∧ U.cell? ⟨w.heap.size, 4, none⟩ = some (.slice A4 c.ports.length c4) ∧ U.cell? ⟨w.heap.size, 5, none⟩ = some (.slice A5 c.chans.length c5))
          (first | (refine HKP.out _ ?_; (repeat (first | with_reducible exact HBW.out | with_reducible exact Below.refl _ _ | with_reducible refine Below.drew ?_ | (with_reducible refine Below.alloc ?_ (by first | (simp; done) | (have hq := HBW.out.size; simp at hq ⊢; omega)) _) | (with_reducible refine Below.setCell ?_ (by first | (simp; done) | (have hq := HBW.out.size; simp at hq ⊢; omega)) _))); done) | go_keep)
          (first
          | (go_at_call 10; refine (alive_ok _).mono ?_; rintro e q1 ⟨rfl, hq⟩; have HBW := Lib.hid (Below.then_ (show Below w1.heap.size w1 _ from (by (repeat (first | with_reducible exact HBW.out | with_reducible exact Below.refl _ _ | with_reducible refine Below.drew ?_ | (with_reducible refine Below.alloc ?_ (by first | (simp; done) | (have hq := HBW.out.size; simp at hq ⊢; omega)) _) | (with_reducible refine Below.setCell ?_ (by first | (simp; done) | (have hq := HBW.out.size; simp at hq ⊢; omega)) _))))) hq); clear hq)
          | (go_at_call 11; refine (newR_yes c _ _ _ _ _ _ _ _ _ _ _ (ST1.out.up (by (repeat (first | with_reducible exact HBW.out | with_reducible exact Below.refl _ _ | with_reducible refine Below.drew ?_ | (with_reducible refine Below.alloc ?_ (by first | (simp; done) | (have hq := HBW.out.size; simp at hq ⊢; omega)) _) | (with_reducible refine Below.setCell ?_ (by first | (simp; done) | (have hq := HBW.out.size; simp at hq ⊢; omega)) _))))).R HSM.out HOK.out H2).mono ?_; rintro e q1 ⟨gr, rfl, hrt, hq⟩; have HBW := Lib.hid (Below.then_ (show Below w1.heap.size w1 _ from (by (repeat (first | with_reducible exact HBW.out | with_reducible exact Below.refl _ _ | with_reducible refine Below.drew ?_ | (with_reducible refine Below.alloc ?_ (by first | (simp; done) | (have hq := HBW.out.size; simp at hq ⊢; omega)) _) | (with_reducible refine Below.setCell ?_ (by first | (simp; done) | (have hq := HBW.out.size; simp at hq ⊢; omega)) _))))) hq); clear hq hrt)
          | (go_at_call 12; refine (rRight_ok c _ _ _ _ _ _ _ _ _ _ _ (ST1.out.up (by (repeat (first | with_reducible exact HBW.out | with_reducible exact Below.refl _ _ | with_reducible refine Below.drew ?_ | (with_reducible refine Below.alloc ?_ (by first | (simp; done) | (have hq := HBW.out.size; simp at hq ⊢; omega)) _) | (with_reducible refine Below.setCell ?_ (by first | (simp; done) | (have hq := HBW.out.size; simp at hq ⊢; omega)) _))))).R HSM.out true H2).mono ?_; rintro e q1 ⟨rfl, hq⟩; have HBW := Lib.hid (Below.then_ (show Below w1.heap.size w1 _ from (by (repeat (first | with_reducible exact HBW.out | with_reducible exact Below.refl _ _ | with_reducible refine Below.drew ?_ | (with_reducible refine Below.alloc ?_ (by first | (simp; done) | (have hq := HBW.out.size; simp at hq ⊢; omega)) _) | (with_reducible refine Below.setCell ?_ (by first | (simp; done) | (have hq := HBW.out.size; simp at hq ⊢; omega)) _))))) hq); clear hq)
          | fail)
      all_goals
        go_wp2
        go_ret
        exact ⟨rfl, Below.then_ ST1.out.bel HBW.out⟩
    · have H2 := Lib.hid h2
      clear h2
      go_enter Tryz.func3, Tryz.ntmps3
      go_upto_region 1 with (fail)
      rw [HW.out]
      go_wp2_with fail
      refine (few_valB c _ _ _ _ _ _ _ _ _ _ _ ST0.out.R HSM.out true H1).mono ?_
      rintro e w1 ⟨rfl, hb1⟩
      have ST1 := Lib.hid (ST0.out.up hb1)
      clear hb1 x0 x1 x2 x3 x4 x5 hz
      have KEEP : ∀ U, Below w1.heap.size w1 U → (fun U => U.cell? ⟨w.heap.size, 0, none⟩ = some (.int .u64 c.frame) ∧ U.cell? ⟨w.heap.size, 1, none⟩ = some (.slice A1 c.parts.length c1) ∧ U.cell? ⟨w.heap.size, 2, none⟩ = some (.slice A2 c.wins.length c2) ∧ U.cell? ⟨w.heap.size, 3, none⟩ = some (.slice A3 c.regs.length c3) ∧ U.cell? ⟨w.heap.size, 4, none⟩ = some (.slice A4 c.ports.length c4) ∧ U.cell? ⟨w.heap.size, 5, none⟩ = some (.slice A5 c.chans.length c5)) U := fun U hU => by
        obtain ⟨a0, a1, a2, a3, a4, a5, _⟩ := (ST1.out.up hU).cells
        exact ⟨a0, a1, a2, a3, a4, a5⟩
      have HKP := Lib.hid KEEP
      have HBW := Lib.hid (Below.refl w1.heap.size w1)
      obtain ⟨a0, a1, a2, a3, a4, a5⟩ := KEEP w1 (Below.refl _ _)
      clear KEEP
      go_upto_region 3 with (fail)
      go_region_held3 (fun U => U.cell? ⟨w.heap.size, 0, none⟩ = some (.int .u64 c.frame) ∧ U.cell? ⟨w.heap.size, 1, none⟩ = some (.slice A1 c.parts.length c1) ∧ U.cell? ⟨w.heap.size, 2, none⟩ = some (.slice A2 c.wins.length c2) ∧ U.cell? ⟨w.heap.size, 3, none⟩ = some (.slice A3 c.regs.length c3) ∧ U.cell? ⟨w.heap.size, 4, none⟩ = some (.slice A4 c.ports.length c4) ∧ U.cell? ⟨w.heap.size, 5, none⟩ = some (.slice A5 c.chans.length c5))
          (first | (refine HKP.out _ ?_; (repeat (first | with_reducible exact HBW.out | with_reducible exact Below.refl _ _ | with_reducible refine Below.drew ?_ | (with_reducible refine Below.alloc ?_ (by first | (simp; done) | (have hq := HBW.out.size; simp at hq ⊢; omega)) _) | (with_reducible refine Below.setCell ?_ (by first | (simp; done) | (have hq := HBW.out.size; simp at hq ⊢; omega)) _))); done) | go_keep)
          (first
          | (go_at_call 10; refine (alive_ok _).mono ?_; rintro e q1 ⟨rfl, hq⟩; have HBW := Lib.hid (Below.then_ (show Below w1.heap.size w1 _ from (by (repeat (first | with_reducible exact HBW.out | with_reducible exact Below.refl _ _ | with_reducible refine Below.drew ?_ | (with_reducible refine Below.alloc ?_ (by first | (simp; done) | (have hq := HBW.out.size; simp at hq ⊢; omega)) _) | (with_reducible refine Below.setCell ?_ (by first | (simp; done) | (have hq := HBW.out.size; simp at hq ⊢; omega)) _))))) hq); clear hq)
          | (go_at_call 11; refine (newR_no c _ _ _ _ _ _ _ _ _ _ _ (ST1.out.up (by (repeat (first | with_reducible exact HBW.out | with_reducible exact Below.refl _ _ | with_reducible refine Below.drew ?_ | (with_reducible refine Below.alloc ?_ (by first | (simp; done) | (have hq := HBW.out.size; simp at hq ⊢; omega)) _) | (with_reducible refine Below.setCell ?_ (by first | (simp; done) | (have hq := HBW.out.size; simp at hq ⊢; omega)) _))))).R HSM.out HOK.out H2).mono ?_; rintro e q1 ⟨rfl, hq⟩; have HBW := Lib.hid (Below.then_ (show Below w1.heap.size w1 _ from (by (repeat (first | with_reducible exact HBW.out | with_reducible exact Below.refl _ _ | with_reducible refine Below.drew ?_ | (with_reducible refine Below.alloc ?_ (by first | (simp; done) | (have hq := HBW.out.size; simp at hq ⊢; omega)) _) | (with_reducible refine Below.setCell ?_ (by first | (simp; done) | (have hq := HBW.out.size; simp at hq ⊢; omega)) _))))) hq); clear hq)
          | (go_at_call 12; refine (rRight_ok c _ _ _ _ _ _ _ _ _ _ _ (ST1.out.up (by (repeat (first | with_reducible exact HBW.out | with_reducible exact Below.refl _ _ | with_reducible refine Below.drew ?_ | (with_reducible refine Below.alloc ?_ (by first | (simp; done) | (have hq := HBW.out.size; simp at hq ⊢; omega)) _) | (with_reducible refine Below.setCell ?_ (by first | (simp; done) | (have hq := HBW.out.size; simp at hq ⊢; omega)) _))))).R HSM.out false H2).mono ?_; rintro e q1 ⟨rfl, hq⟩; have HBW := Lib.hid (Below.then_ (show Below w1.heap.size w1 _ from (by (repeat (first | with_reducible exact HBW.out | with_reducible exact Below.refl _ _ | with_reducible refine Below.drew ?_ | (with_reducible refine Below.alloc ?_ (by first | (simp; done) | (have hq := HBW.out.size; simp at hq ⊢; omega)) _) | (with_reducible refine Below.setCell ?_ (by first | (simp; done) | (have hq := HBW.out.size; simp at hq ⊢; omega)) _))))) hq); clear hq)
          | fail)
      all_goals
        go_wp2
        go_ret
        exact ⟨rfl, Below.then_ ST1.out.bel HBW.out⟩
  · have H1 := Lib.hid h1
    clear h1
    go_enter Tryz.func3, Tryz.ntmps3
    go_upto_region 1 with (fail)
    rw [HW.out]
    go_wp2_with fail
    refine (few_valB c _ _ _ _ _ _ _ _ _ _ _ ST0.out.R HSM.out false H1).mono ?_
    rintro e w1 ⟨rfl, hb1⟩
    have HB1 := Lib.hid (ST0.out.up hb1).bel
    clear hb1 x0 x1 x2 x3 x4 x5 hz
    go_wp2_with fail
    refine (alive_ok _).mono ?_
    rintro e w2 ⟨rfl, hb2⟩
    have HZ := Lib.hid (Below.then_ HB1.out hb2)
    clear hb2
    go_wp2
    go_ret
    exact ⟨rfl, HZ.out⟩
set_option maxRecDepth 100000 in
set_option maxHeartbeats 16000000 in
theorem routeFinds_ok (c : Cfg) (A1 A2 A3 A4 A5 : Option Addr) (c1 c2 c3 c4 c5 : Nat) (w : World) (hR : CfgR w w.heap.size c A1 A2 A3 A4 A5 c1 c2 c3 c4 c5) (hs : c.small) (hok : c.ok) (id : Int) (hid : wU16 id) : Calls Tryz.prog 7 #[cfgV c.frame A1 A2 A3 A4 A5 c.parts.length c.wins.length c.regs.length c.ports.length c.chans.length c1 c2 c3 c4 c5, .int .u16 id] w fun e w' => e = .returned (.bool true) ∧ Below w.heap.size w w' := by
  obtain ⟨W0, hW, st⟩ := St.start_any hR 29
  have HW := Lib.hid hW
  have ST0 := Lib.hid st
  have HSM := Lib.hid hs
  have HOK := Lib.hid hok
  obtain ⟨x0, x1, x2, x3, x4, x5, hz⟩ := st.cells
  clear hR hW st hs hok
  rcases Bool.eq_false_or_eq_true (goodR c) with h1 | h1
  · have hr1 : rightR c = true := by unfold goodR at h1; simp at h1; exact h1.2
    have HR := Lib.hid hr1
    have HRR := Lib.hid (rightR_iff.1 hr1)
    have H1 := Lib.hid h1
    obtain ⟨s, so, hso⟩ : ∃ s so, fromOf c id = (s, so) := ⟨_, _, rfl⟩
    obtain ⟨p, po, hpo⟩ : ∃ p po, portAns (portOf c id) = (p, po) := ⟨_, _, rfl⟩
    obtain ⟨L, hL⟩ : ∃ L, routeOf c id = L := ⟨_, rfl⟩
    obtain ⟨K, hK⟩ : ∃ K, sortL (portsOf c id) = K := ⟨_, rfl⟩
    have hLl : L.length ≤ 1048576 := by rw [← hL]; exact route_len HSM.out id
    have hKe : (portsOf c id).length = K.length := by rw [← hK]; unfold sortL; simp
    have hKl : K.length ≤ 1048576 := by
      rw [← hKe, ← portsTo_all]
      have := portsTo_len c id c.ports.length
      have := HSM.out.bd.t
      omega
    have HSO := Lib.hid hso
    have HPO := Lib.hid hpo
    have HL := Lib.hid hL
    have HK := Lib.hid hK
    have HKE := Lib.hid hKe
    clear h1 hr1 hso hpo hL hK hKe
    go_enter Tryz.func7, Tryz.ntmps7
    go_upto_region 1 with (fail)
    rw [HW.out]
    go_wp2_with fail
    refine (goodR_ok c _ _ _ _ _ _ _ _ _ _ _ ST0.out.R HSM.out true H1).mono ?_
    rintro e w1 ⟨rfl, hb1⟩
    have ST1 := Lib.hid (ST0.out.up hb1)
    clear hb1 x0 x1 x2 x3 x4 x5 hz
    obtain ⟨x0, x1, x2, x3, x4, x5, hz⟩ := ST1.out.cells
    go_wp2_with fail
    refine (newR_yes c _ _ _ _ _ _ _ _ _ _ _ ST1.out.R HSM.out HOK.out HR).mono ?_
    rintro e w2 ⟨gr, rfl, hrt, hb2⟩
    have ST2 := Lib.hid (ST1.out.up hb2)
    have RT2 := Lib.hid hrt
    clear hb2 hrt x0 x1 x2 x3 x4 x5 hz
    obtain ⟨x0, x1, x2, x3, x4, x5, hz⟩ := ST2.out.cells
    go_wp2_with fail
    refine (mSource_ok c HRR.out gr id hid _ RT2.out s so HSO).mono ?_
    rintro e w3 ⟨rfl, hb3⟩
    have ST3 := Lib.hid (ST2.out.up hb3)
    have RT3 := Lib.hid (RT2.out.up hb3)
    clear hb3 x0 x1 x2 x3 x4 x5 hz
    obtain ⟨x0, x1, x2, x3, x4, x5, hz⟩ := ST3.out.cells
    go_wp2_with fail
    refine (rFromV c _ _ _ _ _ _ _ _ _ _ _ ST3.out.R HSM.out id s so HSO).mono ?_
    rintro e w4 ⟨rfl, hb4⟩
    have ST4 := Lib.hid (ST3.out.up hb4)
    have RT4 := Lib.hid (RT3.out.up hb4)
    clear hb4 x0 x1 x2 x3 x4 x5 hz
    go_wp2_with fail
    refine (mPort_ok c HRR.out gr id hid _ RT4.out p po HPO).mono ?_
    rintro e w5 ⟨rfl, hb5⟩
    obtain ⟨W5, hW5, pt5, hb5'⟩ := PtBox.new w5 p 41
    have HW5 := Lib.hid hW5
    have PT5 := Lib.hid pt5
    have ST5 := Lib.hid ((ST4.out.up hb5).up hb5')
    have RT5 := Lib.hid ((RT4.out.up hb5).up hb5')
    clear hb5 hb5' hW5 pt5
    obtain ⟨x0, x1, x2, x3, x4, x5, hz⟩ := ST5.out.cells
    go_upto_region 9 with (fail)
    rw [HW5.out]
    generalize w5.heap.size = g5 at *
    go_wp2_with fail
    refine (rPort23_ok c _ _ _ _ _ _ _ _ _ _ _ ST5.out.R HSM.out id p po HPO).mono ?_
    rintro e w6 ⟨rfl, hb6⟩
    obtain ⟨W6, hW6, pt6, hb6'⟩ := PtBox.new w6 p 41
    have HW6 := Lib.hid hW6
    have PT6 := Lib.hid pt6
    have PT5' := Lib.hid ((PT5.out.up hb6).up hb6')
    have ST6 := Lib.hid ((ST5.out.up hb6).up hb6')
    have RT6 := Lib.hid ((RT5.out.up hb6).up hb6')
    clear hb6 hb6' hW6 pt6 x0 x1 x2 x3 x4 x5 hz PT5
    have HZ := Lib.hid ST6.out.bel
    go_upto_region 10 with (fail)
    rw [HW6.out]
    clear HW6
    generalize w6.heap.size = g6 at *
    have KEEP : ∀ U, Below W6.heap.size W6 U → (fun U => U.cell? ⟨w.heap.size, 0, none⟩ = some (.int .u64 c.frame) ∧ U.cell? ⟨w.heap.size, 1, none⟩ = some (.slice A1 c.parts.length c1) ∧ U.cell? ⟨w.heap.size, 2, none⟩ = some (.slice A2 c.wins.length c2) ∧ U.cell? ⟨w.heap.size, 3, none⟩ = some (.slice A3 c.regs.length c3) ∧ U.cell? ⟨w.heap.size, 4, none⟩ = some (.slice A4 c.ports.length c4) ∧ U.cell? ⟨w.heap.size, 5, none⟩ = some (.slice A5 c.chans.length c5) ∧ U.cell? ⟨g5, 0, none⟩ = some (.int .u16 p.id) ∧ U.cell? ⟨g5, 1, none⟩ = some (.int .u16 p.part) ∧ U.cell? ⟨g5, 2, none⟩ = some (.string p.name) ∧ U.cell? ⟨g5, 3, none⟩ = some (.bool p.output) ∧ U.cell? ⟨g5, 4, none⟩ = some (.bool p.queuing) ∧ U.cell? ⟨g5, 5, none⟩ = some (.int .u32 p.size) ∧ U.cell? ⟨g6, 0, none⟩ = some (.int .u16 p.id) ∧ U.cell? ⟨g6, 1, none⟩ = some (.int .u16 p.part) ∧ U.cell? ⟨g6, 2, none⟩ = some (.string p.name) ∧ U.cell? ⟨g6, 3, none⟩ = some (.bool p.output) ∧ U.cell? ⟨g6, 4, none⟩ = some (.bool p.queuing) ∧ U.cell? ⟨g6, 5, none⟩ = some (.int .u32 p.size)) U := fun U hU => by
      obtain ⟨a0, a1, a2, a3, a4, a5, _⟩ := (ST6.out.up hU).cells
      obtain ⟨m0, m1, m2, m3, m4, m5, _⟩ := PT5'.out.up hU
      obtain ⟨m6, m7, m8, m9, m10, m11, _⟩ := PT6.out.up hU
      exact ⟨a0, a1, a2, a3, a4, a5, m0, m1, m2, m3, m4, m5, m6, m7, m8, m9, m10, m11⟩
    have HKP := Lib.hid KEEP
    have HBW := Lib.hid (Below.refl W6.heap.size W6)
    obtain ⟨a0, a1, a2, a3, a4, a5, m0, m1, m2, m3, m4, m5, m6, m7, m8, m9, m10, m11⟩ := KEEP W6 (Below.refl _ _)
    clear KEEP
    go_region_held3 (fun U => U.cell? ⟨w.heap.size, 0, none⟩ = some (.int .u64 c.frame) ∧ U.cell? ⟨w.heap.size, 1, none⟩ = some (.slice A1 c.parts.length c1) ∧ U.cell? ⟨w.heap.size, 2, none⟩ = some (.slice A2 c.wins.length c2) ∧ U.cell? ⟨w.heap.size, 3, none⟩ = some (.slice A3 c.regs.length c3) ∧ U.cell? ⟨w.heap.size, 4, none⟩ = some (.slice A4 c.ports.length c4) ∧ U.cell? ⟨w.heap.size, 5, none⟩ = some (.slice A5 c.chans.length c5) ∧ U.cell? ⟨g5, 0, none⟩ = some (.int .u16 p.id) ∧ U.cell? ⟨g5, 1, none⟩ = some (.int .u16 p.part) ∧ U.cell? ⟨g5, 2, none⟩ = some (.string p.name) ∧ U.cell? ⟨g5, 3, none⟩ = some (.bool p.output) ∧ U.cell? ⟨g5, 4, none⟩ = some (.bool p.queuing) ∧ U.cell? ⟨g5, 5, none⟩ = some (.int .u32 p.size) ∧ U.cell? ⟨g6, 0, none⟩ = some (.int .u16 p.id) ∧ U.cell? ⟨g6, 1, none⟩ = some (.int .u16 p.part) ∧ U.cell? ⟨g6, 2, none⟩ = some (.string p.name) ∧ U.cell? ⟨g6, 3, none⟩ = some (.bool p.output) ∧ U.cell? ⟨g6, 4, none⟩ = some (.bool p.queuing) ∧ U.cell? ⟨g6, 5, none⟩ = some (.int .u32 p.size))
      (first | (refine HKP.out _ ?_; (repeat (first | with_reducible exact HBW.out | with_reducible exact Below.refl _ _ | with_reducible refine Below.drew ?_ | (with_reducible refine Below.alloc ?_ (by first | (simp; done) | (have hq := HBW.out.size; simp at hq ⊢; omega)) _) | (with_reducible refine Below.setCell ?_ (by first | (simp; done) | (have hq := HBW.out.size; simp at hq ⊢; omega)) _))); done) | go_keep)
      (first
      | (go_at_call 10; refine (alive_ok _).mono ?_; rintro e q1 ⟨rfl, hq⟩; have HBW := Lib.hid (Below.then_ (show Below W6.heap.size W6 _ from (by (repeat (first | with_reducible exact HBW.out | with_reducible exact Below.refl _ _ | with_reducible refine Below.drew ?_ | (with_reducible refine Below.alloc ?_ (by first | (simp; done) | (have hq := HBW.out.size; simp at hq ⊢; omega)) _) | (with_reducible refine Below.setCell ?_ (by first | (simp; done) | (have hq := HBW.out.size; simp at hq ⊢; omega)) _))))) hq); clear hq)
      | (go_at_call 25; refine (mRouteL c HRR.out HSM.out gr id hid _ (RT6.out.up (by (repeat (first | with_reducible exact HBW.out | with_reducible exact Below.refl _ _ | with_reducible refine Below.drew ?_ | (with_reducible refine Below.alloc ?_ (by first | (simp; done) | (have hq := HBW.out.size; simp at hq ⊢; omega)) _) | (with_reducible refine Below.setCell ?_ (by first | (simp; done) | (have hq := HBW.out.size; simp at hq ⊢; omega)) _))))) L HL).mono ?_; rintro e q1 ⟨RA, ra, rfl, hra, hq⟩; have HA := Lib.hid hra; have HAQ := Lib.hid hq; have HBW := Lib.hid (Below.then_ (show Below W6.heap.size W6 _ from (by (repeat (first | with_reducible exact HBW.out | with_reducible exact Below.refl _ _ | with_reducible refine Below.drew ?_ | (with_reducible refine Below.alloc ?_ (by first | (simp; done) | (have hq := HBW.out.size; simp at hq ⊢; omega)) _) | (with_reducible refine Below.setCell ?_ (by first | (simp; done) | (have hq := HBW.out.size; simp at hq ⊢; omega)) _))))) hq); clear hq hra)
      | (go_at_call 20; refine (rRouteL c _ _ _ _ _ _ _ _ _ _ _ (ST6.out.up (by (repeat (first | with_reducible exact HBW.out | with_reducible exact Below.refl _ _ | with_reducible refine Below.drew ?_ | (with_reducible refine Below.alloc ?_ (by first | (simp; done) | (have hq := HBW.out.size; simp at hq ⊢; omega)) _) | (with_reducible refine Below.setCell ?_ (by first | (simp; done) | (have hq := HBW.out.size; simp at hq ⊢; omega)) _))))).R HSM.out id L HL).mono ?_; rintro e q1 ⟨RB, rb, rfl, hrb, hq⟩; have HB := Lib.hid hrb; have HBQ := Lib.hid hq; have HBW := Lib.hid (Below.then_ (show Below W6.heap.size W6 _ from (by (repeat (first | with_reducible exact HBW.out | with_reducible exact Below.refl _ _ | with_reducible refine Below.drew ?_ | (with_reducible refine Below.alloc ?_ (by first | (simp; done) | (have hq := HBW.out.size; simp at hq ⊢; omega)) _) | (with_reducible refine Below.setCell ?_ (by first | (simp; done) | (have hq := HBW.out.size; simp at hq ⊢; omega)) _))))) hq); clear hq hrb)
      | (go_at_call 19; ((with_reducible refine (eqU_same L RA RB ra rb _ (by omega) (HA.out.up (by first | exact HBQ.out | exact Below.refl _ _)) (HB.out.up (by first | exact HAQ.out | exact Below.refl _ _))).mono ?_); rintro e q1 ⟨rfl, hq⟩; have HBW := Lib.hid (Below.then_ (show Below W6.heap.size W6 _ from (by (repeat (first | with_reducible exact HBW.out | with_reducible exact Below.refl _ _ | with_reducible refine Below.drew ?_ | (with_reducible refine Below.alloc ?_ (by first | (simp; done) | (have hq := HBW.out.size; simp at hq ⊢; omega)) _) | (with_reducible refine Below.setCell ?_ (by first | (simp; done) | (have hq := HBW.out.size; simp at hq ⊢; omega)) _))))) hq); clear hq))
      | (go_at_call 29; refine (mPortsL c HSM.out gr id _ (RT6.out.up (by (repeat (first | with_reducible exact HBW.out | with_reducible exact Below.refl _ _ | with_reducible refine Below.drew ?_ | (with_reducible refine Below.alloc ?_ (by first | (simp; done) | (have hq := HBW.out.size; simp at hq ⊢; omega)) _) | (with_reducible refine Below.setCell ?_ (by first | (simp; done) | (have hq := HBW.out.size; simp at hq ⊢; omega)) _))))) K HK).mono ?_; rintro e q1 ⟨PA, pa, rfl, hpa, hq⟩; have JA := Lib.hid hpa; have JAQ := Lib.hid hq; have HBW := Lib.hid (Below.then_ (show Below W6.heap.size W6 _ from (by (repeat (first | with_reducible exact HBW.out | with_reducible exact Below.refl _ _ | with_reducible refine Below.drew ?_ | (with_reducible refine Below.alloc ?_ (by first | (simp; done) | (have hq := HBW.out.size; simp at hq ⊢; omega)) _) | (with_reducible refine Below.setCell ?_ (by first | (simp; done) | (have hq := HBW.out.size; simp at hq ⊢; omega)) _))))) hq); clear hq hpa)
      | (go_at_call 30; refine (rPortsL c _ _ _ _ _ _ _ _ _ _ _ (ST6.out.up (by (repeat (first | with_reducible exact HBW.out | with_reducible exact Below.refl _ _ | with_reducible refine Below.drew ?_ | (with_reducible refine Below.alloc ?_ (by first | (simp; done) | (have hq := HBW.out.size; simp at hq ⊢; omega)) _) | (with_reducible refine Below.setCell ?_ (by first | (simp; done) | (have hq := HBW.out.size; simp at hq ⊢; omega)) _))))).R HSM.out id K HK).mono ?_; rintro e q1 ⟨PB, pb, rfl, hpb, hq⟩; have JB := Lib.hid hpb; have JBQ := Lib.hid hq; have HBW := Lib.hid (Below.then_ (show Below W6.heap.size W6 _ from (by (repeat (first | with_reducible exact HBW.out | with_reducible exact Below.refl _ _ | with_reducible refine Below.drew ?_ | (with_reducible refine Below.alloc ?_ (by first | (simp; done) | (have hq := HBW.out.size; simp at hq ⊢; omega)) _) | (with_reducible refine Below.setCell ?_ (by first | (simp; done) | (have hq := HBW.out.size; simp at hq ⊢; omega)) _))))) hq); clear hq hpb)
      | (go_at_call 19; ((with_reducible refine (eqU_same K PA PB pa pb _ (by omega) (JA.out.up (by first | exact JBQ.out | exact Below.refl _ _)) (JB.out.up (by first | exact JAQ.out | exact Below.refl _ _))).mono ?_); rintro e q1 ⟨rfl, hq⟩; have HBW := Lib.hid (Below.then_ (show Below W6.heap.size W6 _ from (by (repeat (first | with_reducible exact HBW.out | with_reducible exact Below.refl _ _ | with_reducible refine Below.drew ?_ | (with_reducible refine Below.alloc ?_ (by first | (simp; done) | (have hq := HBW.out.size; simp at hq ⊢; omega)) _) | (with_reducible refine Below.setCell ?_ (by first | (simp; done) | (have hq := HBW.out.size; simp at hq ⊢; omega)) _))))) hq); clear hq))
      | fail)
    all_goals
      go_wp2
      go_ret
      exact ⟨rfl, Below.then_ HZ.out HBW.out⟩
  · have H1 := Lib.hid h1
    clear h1
    go_enter Tryz.func7, Tryz.ntmps7
    go_upto_region 1 with (fail)
    rw [HW.out]
    go_wp2_with fail
    refine (goodR_ok c _ _ _ _ _ _ _ _ _ _ _ ST0.out.R HSM.out false H1).mono ?_
    rintro e w1 ⟨rfl, hb1⟩
    have HB1 := Lib.hid (ST0.out.up hb1).bel
    clear hb1 x0 x1 x2 x3 x4 x5 hz
    go_wp2_with fail
    refine (alive_ok _).mono ?_
    rintro e w2 ⟨rfl, hb2⟩
    have HZ := Lib.hid (Below.then_ HB1.out hb2)
    clear hb2
    go_wp2
    go_ret
    exact ⟨rfl, HZ.out⟩
end Go.Proofs.YthnbgbocanpkjaaGreat
