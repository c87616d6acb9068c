/-
  The reference of layer 23: whether there is a router, the route, the ports, the code of a message; each walked once.
-/
import Derived.Test.YthnbgbocanpkjaaGreatRoutF
import Derived.Test.YthnbgbocanpkjaaGreatKeyZ
import Derived.Test.YthnbgbocanpkjaaGreatCore
import Derived.Test.YthnbgbocanpkjaaGreatWirA
namespace Go.Proofs.YthnbgbocanpkjaaGreat
open Go.RowKit Go.Lib
attribute [local go_sem] ext_cell
theorem rParts_val (c : Cfg) (A1 A2 A3 A4 A5 : Option Addr) (c1 c2 c3 c4 c5 : Nat) (w : World) (hR : CfgR w w.heap.size c A1 A2 A3 A4 A5 c1 c2 c3 c4 c5) (hs : c.small) (v : Int) (hv : Hid (refParts c = v)) : Calls Tryz.prog 40 #[cfgV c.frame A1 A2 A3 A4 A5 c.parts.length c.wins.length c.regs.length c.ports.length c.chans.length c1 c2 c3 c4 c5] w fun e w' => e = .returned (.int .i64 v) ∧ Below w.heap.size w w' := by
  have h := rPartitions_ok c A1 A2 A3 A4 A5 c1 c2 c3 c4 c5 w hR hs
  rwa [hv.out] at h
theorem rPortsU_val (c : Cfg) (A1 A2 A3 A4 A5 : Option Addr) (c1 c2 c3 c4 c5 : Nat) (w : World) (hR : CfgR w w.heap.size c A1 A2 A3 A4 A5 c1 c2 c3 c4 c5) (hs : c.small) (v : Int) (hv : Hid (refPorts c = v)) : Calls Tryz.prog 41 #[cfgV c.frame A1 A2 A3 A4 A5 c.parts.length c.wins.length c.regs.length c.ports.length c.chans.length c1 c2 c3 c4 c5] w fun e w' => e = .returned (.int .i64 v) ∧ Below w.heap.size w w' := by
  have h := rPorts_ok c A1 A2 A3 A4 A5 c1 c2 c3 c4 c5 w hR hs
  rwa [hv.out] at h
theorem rChans_val (c : Cfg) (A1 A2 A3 A4 A5 : Option Addr) (c1 c2 c3 c4 c5 : Nat) (w : World) (hR : CfgR w w.heap.size c A1 A2 A3 A4 A5 c1 c2 c3 c4 c5) (hs : c.small) (v : Int) (hv : Hid (rep (c.chans.map (·.id)) = v)) : Calls Tryz.prog 42 #[cfgV c.frame A1 A2 A3 A4 A5 c.parts.length c.wins.length c.regs.length c.ports.length c.chans.length c1 c2 c3 c4 c5] w fun e w' => e = .returned (.int .i64 v) ∧ Below w.heap.size w w' := by
  have h := rChannels_ok c A1 A2 A3 A4 A5 c1 c2 c3 c4 c5 w hR hs
  rwa [hv.out] at h
theorem rRight18_val (c : Cfg) (A1 A2 A3 A4 A5 : Option Addr) (c1 c2 c3 c4 c5 : Nat) (w : World) (hR : CfgR w w.heap.size c A1 A2 A3 A4 A5 c1 c2 c3 c4 c5) (hs : c.small) (v : Bool) (hv : Hid (rightB c = v)) : Calls Tryz.prog 43 #[cfgV c.frame A1 A2 A3 A4 A5 c.parts.length c.wins.length c.regs.length c.ports.length c.chans.length c1 c2 c3 c4 c5] w fun e w' => e = .returned (.bool v) ∧ Below w.heap.size w w' := by
  have h := right_ok c A1 A2 A3 A4 A5 c1 c2 c3 c4 c5 w hR hs
  rwa [hv.out] at h
theorem rNamed_val (c : Cfg) (A1 A2 A3 A4 A5 : Option Addr) (c1 c2 c3 c4 c5 : Nat) (w : World) (hR : CfgR w w.heap.size c A1 A2 A3 A4 A5 c1 c2 c3 c4 c5) (hs : c.small) (id : Int) (s : ByteArray) (v : Int) (hv : Hid (idx (fun x => x.part == id && x.name == s) c.ports = v)) : Calls Tryz.prog 49 #[cfgV c.frame A1 A2 A3 A4 A5 c.parts.length c.wins.length c.regs.length c.ports.length c.chans.length c1 c2 c3 c4 c5, .int .u16 id, .string s] w fun e w' => e = .returned (.int .i64 v) ∧ Below w.heap.size w w' := by
  have h := rNamed_ok c A1 A2 A3 A4 A5 c1 c2 c3 c4 c5 w hR hs id s
  rwa [hv.out] at h
set_option maxRecDepth 100000 in
set_option maxHeartbeats 4000000 in
theorem rRight_ok (c : Cfg) (A1 A2 A3 A4 A5 : Option Addr) (c1 c2 c3 c4 c5 : Nat) (w : World) (hR : CfgR w w.heap.size c A1 A2 A3 A4 A5 c1 c2 c3 c4 c5) (hs : c.small) (v : Bool) (hv : Hid (rightR c = v)) : Calls Tryz.prog 12 #[cfgV c.frame A1 A2 A3 A4 A5 c.parts.length c.wins.length c.regs.length c.ports.length c.chans.length c1 c2 c3 c4 c5] w fun e w' => e = .returned (.bool v) ∧ Below w.heap.size w w' := by
  have ST0 := Lib.hid (St.start hR 29)
  obtain ⟨x0, x1, x2, x3, x4, x5, hz⟩ := ST0.out.cells
  obtain ⟨a1, ha1⟩ : ∃ a, refParts c = a := ⟨_, rfl⟩
  obtain ⟨a2, ha2⟩ : ∃ a, refPorts c = a := ⟨_, rfl⟩
  obtain ⟨a3, ha3⟩ : ∃ a, rep (c.chans.map (·.id)) = a := ⟨_, rfl⟩
  obtain ⟨a4, ha4⟩ : ∃ a, rightB c = a := ⟨_, rfl⟩
  have HV := Lib.hid (show v = (decide (a1 < 0) && (decide (a2 < 0) && (decide (a3 < 0) && a4))) by rw [← hv.out]; unfold rightR; rw [ha1, ha2, ha3, ha4])
  have HA1 := Lib.hid ha1
  have HA2 := Lib.hid ha2
  have HA3 := Lib.hid ha3
  have HA4 := Lib.hid ha4
  clear hR hv ha1 ha2 ha3 ha4
  go_enter Tryz.func12, Tryz.ntmps12
  go_wp2_with fail
  refine (rParts_val c _ _ _ _ _ _ _ _ _ _ _ ST0.out.R hs a1 HA1).mono ?_
  rintro e w1 ⟨rfl, hb1⟩
  have ST1 := Lib.hid (ST0.out.up hb1)
  clear hb1 x0 x1 x2 x3 x4 x5 hz
  rcases Int.lt_or_le a1 0 with q1 | q1
  · have d1 : decide (a1 < 0) = true := decide_eq_true q1
    obtain ⟨x0, x1, x2, x3, x4, x5, hz⟩ := ST1.out.cells
    clear q1
    go_wp2_with fail
    refine (rPortsU_val c _ _ _ _ _ _ _ _ _ _ _ ST1.out.R hs a2 HA2).mono ?_
    rintro e w2 ⟨rfl, hb2⟩
    have ST2 := Lib.hid (ST1.out.up hb2)
    clear hb2 x0 x1 x2 x3 x4 x5 hz
    rcases Int.lt_or_le a2 0 with q2 | q2
    · have d2 : decide (a2 < 0) = true := decide_eq_true q2
      obtain ⟨x0, x1, x2, x3, x4, x5, hz⟩ := ST2.out.cells
      clear q2
      go_wp2_with fail
      refine (rChans_val c _ _ _ _ _ _ _ _ _ _ _ ST2.out.R hs a3 HA3).mono ?_
      rintro e w3 ⟨rfl, hb3⟩
      have ST3 := Lib.hid (ST2.out.up hb3)
      clear hb3 x0 x1 x2 x3 x4 x5 hz
      rcases Int.lt_or_le a3 0 with q3 | q3
      · have d3 : decide (a3 < 0) = true := decide_eq_true q3
        obtain ⟨x0, x1, x2, x3, x4, x5, hz⟩ := ST3.out.cells
        clear q3
        go_wp2_with fail
        refine (rRight18_val c _ _ _ _ _ _ _ _ _ _ _ ST3.out.R hs a4 HA4).mono ?_
        rintro e w4 ⟨rfl, hb4⟩
        have ST4 := Lib.hid (ST3.out.up hb4)
        clear hb4 x0 x1 x2 x3 x4 x5 hz
        go_wp2
        go_ret
        exact ⟨ret_bool (by rw [HV.out, d1, d2, d3]; rfl), ST4.out.bel⟩
      · have d3 : decide (a3 < 0) = false := decide_eq_false (by omega)
        clear q3
        go_wp2
        go_ret
        exact ⟨ret_bool (by rw [HV.out, d1, d2, d3]; rfl), ST3.out.bel⟩
    · have d2 : decide (a2 < 0) = false := decide_eq_false (by omega)
      clear q2
      go_wp2
      go_ret
      exact ⟨ret_bool (by rw [HV.out, d1, d2]; rfl), ST2.out.bel⟩
  · have d1 : decide (a1 < 0) = false := decide_eq_false (by omega)
    clear q1
    go_wp2
    go_ret
    exact ⟨ret_bool (by rw [HV.out, d1]; rfl), ST1.out.bel⟩
set_option maxRecDepth 100000 in
set_option maxHeartbeats 4000000 in
theorem rRoute_ok (c : Cfg) (A1 A2 A3 A4 A5 : Option Addr) (c1 c2 c3 c4 c5 : Nat) (w : World) (hR : CfgR w w.heap.size c A1 A2 A3 A4 A5 c1 c2 c3 c4 c5) (hs : c.small) (id : Int) : Calls Tryz.prog 20 #[cfgV c.frame A1 A2 A3 A4 A5 c.parts.length c.wins.length c.regs.length c.ports.length c.chans.length c1 c2 c3 c4 c5, .int .u16 id] w fun e w' => ∃ v, e = .returned v ∧ w'.ownsRow w.heap.size 34 1 v (routeOf c id).length ((routeOf c id).map (Value.int .u16)) ∧ Below w.heap.size w w' := by
  have hbd := hs.bd
  have ST0 := Lib.hid (St.start hR 29)
  have bx := hbd.x
  have HDL := Lib.hid hbd.d
  clear hR hbd
  go_enter Tryz.func20, Tryz.ntmps20
  go_wp2
  go_loopw [5] (fun i wr => ∃ k : Nat, k ≤ c.chans.length ∧ i = .int .i64 k ∧ Hid (c.chans.find? (fun x => x.source == id) = (c.chans.drop k).find? (fun x => x.source == id)) ∧ Hid (St w (wr) c A1 A2 A3 A4 A5 c1 c2 c3 c4 c5)) (fun i _ => c.chans.length - (intOf i).toNat)
  case atStart => exact ⟨0, Nat.zero_le _, rfl, Lib.hid rfl, ST0⟩
  case round =>
    obtain ⟨k, hk, rfl, hrest, ST⟩ := hrel
    obtain ⟨x0, x1, x2, x3, x4, x5, hz⟩ := ST.out.cells
    by_cases hlt : k < c.chans.length
    · obtain ⟨x, hx⟩ := get_lt hlt
      have hxl := HDL.out x (List.mem_of_getElem? hx)
      obtain ⟨cs, hC, hr⟩ := ST.out.R.chans
      obtain ⟨b, o, rfl, hb, g0, g1, D, d, g2, hd1, hd2, hD⟩ := chn_at hC hr hx
      have HD := Lib.hid hD
      have k0 : (0 : Int) ≤ (k : Int) := by omega
      have k1 : (k : Int) < (c.chans.length : Int) := by omega
      have HDR := Lib.hid (drop_cons hx)
      clear hx hC hr hD
      rcases Bool.eq_false_or_eq_true (x.source == id) with hu | hu
      · have HV := Lib.hid (route_some (c := c) (id := id) (x := x) (by rw [hrest.out, HDR.out, List.find?_cons]; simp [hu]))
        go_wp2_with fail
        refine (rDest05_ok x.dests D d _ hxl HD.out).mono ?_
        rintro e w1 ⟨v, rfl, ho, hb1⟩
        have hl : (routeOf c id).length = x.dests.length := by rw [HV.out]; unfold sortD; simp
        have hm : routeOf c id = x.dests.mergeSort (fun a b => decide (a ≤ b)) := HV.out
        have HO := Lib.hid (own_lessC ho ST.out.bel.size)
        rw [← hl, ← hm] at HO
        have HB := Lib.hid (ST.out.up hb1).bel
        clear hb1 ho hl hm
        go_wp2
        go_ret
        exact ⟨v, rfl, HO.out, HB.out⟩
      · have HV := Lib.hid (show c.chans.find? (fun x => x.source == id) = (c.chans.drop (k + 1)).find? (fun x => x.source == id) by rw [hrest.out, HDR.out, List.find?_cons]; simp [hu])
        go_wp2
        go_roundw
        case rel => exact ⟨k + 1, by omega, by go_num, HV, ST⟩
        case measure => simp [intOf]; omega
    · obtain rfl : k = c.chans.length := by omega
      have HV := Lib.hid (route_none (c := c) (id := id) (by rw [hrest.out, List.drop_length]; rfl))
      go_wp2
      go_ret
      exact ⟨_, rfl, by rw [HV.out]; exact World.ownsRow_nil _ _ _ _, ST.out.bel⟩
set_option maxRecDepth 100000 in
set_option maxHeartbeats 4000000 in
theorem rPort23_ok (c : Cfg) (A1 A2 A3 A4 A5 : Option Addr) (c1 c2 c3 c4 c5 : Nat) (w : World) (hR : CfgR w w.heap.size c A1 A2 A3 A4 A5 c1 c2 c3 c4 c5) (hs : c.small) (id : Int) (p : Prt) (b : Bool) (hv : Hid (portAns (portOf c id) = (p, b))) : Calls Tryz.prog 16 #[cfgV c.frame A1 A2 A3 A4 A5 c.parts.length c.wins.length c.regs.length c.ports.length c.chans.length c1 c2 c3 c4 c5, .int .u16 id] w fun e w' => e = .returned (.tuple #[prtV p, .bool b]) ∧ Below w.heap.size w w' := by
  obtain ⟨WA, hWA, st⟩ := St.start_any hR 29
  have ea : WA.heap.size = w.heap.size + 1 := by rw [← hWA]; simp
  have HWA := Lib.hid hWA
  obtain ⟨W0, hW, hk0, hb0⟩ : ∃ W, WA.alloc (.cells #[.int .u16 0, .int .u16 0, .string ⟨#[]⟩, .bool false, .bool false, .int .u32 0] 41) = W ∧ Blk W (w.heap.size + 1) 41 #[.int .u16 0, .int .u16 0, .string ⟨#[]⟩, .bool false, .bool false, .int .u32 0] ∧ Below WA.heap.size WA W := ⟨_, rfl, Blk.new' _ _ _ _ ea.symm, below_one _ _⟩
  have HW := Lib.hid hW
  have HK := Lib.hid hk0
  have HB2 := Lib.hid hb0
  clear hW hk0 hb0
  have ST0 := Lib.hid (st.up HB2.out)
  obtain ⟨x0, x1, x2, x3, x4, x5, hz⟩ := ST0.out.cells
  have bt := hs.bd.t
  have hkz := HK.out.lt
  clear hR hWA st
  rcases idx_cases (fun y => y.id == id) c.ports with ⟨h1, h2⟩ | ⟨k, q, h1, hk, h3, h4, h5⟩
  · rw [show portOf c id = none from h2] at hv
    have hv := hv.out
    injection hv with e1 e2
    subst e1 e2
    have HX := Lib.hid h1
    clear h1 h2
    go_enter Tryz.func16, Tryz.ntmps16
    go_upto_region 1 with (fail)
    rw [HWA.out, HW.out]
    go_wp2_with fail
    refine (rPort_val c _ _ _ _ _ _ _ _ _ _ _ ST0.out.R hs id (-1) HX).mono ?_
    rintro e w1 ⟨rfl, hb1⟩
    have HB3 := Lib.hid (ST0.out.up hb1).bel
    have hk := HK.out.below hb1 HK.out.lt
    clear hb1 x0 x1 x2 x3 x4 x5 hz hkz
    have q0 := hk.cell 0
    have q1 := hk.cell 1
    have q2 := hk.cell 2
    have q3 := hk.cell 3
    have q4 := hk.cell 4
    have q5 := hk.cell 5
    have qf := hk.frozen
    have hkz := hk.lt
    simp at q0 q1 q2 q3 q4 q5
    clear hk
    go_wp2
    refine bodyPost_ret (v := .tuple #[prtV noPrt, .bool false]) (by simp [results, Tryz.results16, go_sem, noPrt, q0, q1, q2, q3, q4, q5]) rfl ⟨rfl, ?_⟩
    (repeat (first | with_reducible exact HB3.out | with_reducible exact Below.refl _ _ | with_reducible refine Below.drew ?_ | (with_reducible refine Below.setCell ?_ (by simp) _) | (with_reducible refine Below.alloc ?_ (by have hq := HB3.out.size; simp; omega) _)))
  · rw [show portOf c id = some q from h4] at hv
    have hv := hv.out
    injection hv with e1 e2
    subst e1 e2
    have HX := Lib.hid h1
    have HP := Lib.hid h3
    have m0 : (0 : Int) ≤ (k : Int) := by omega
    have mm : (k : Int) < (c.ports.length : Int) := by omega
    have mneg : decide ((k : Int) < 0) = false := decide_eq_false (by omega)
    clear h1 h4 h5 h3 hk
    go_enter Tryz.func16, Tryz.ntmps16
    go_upto_region 1 with (fail)
    rw [HWA.out, HW.out]
    go_wp2_with fail
    refine (rPort_val c _ _ _ _ _ _ _ _ _ _ _ ST0.out.R hs id k HX).mono ?_
    rintro e w1 ⟨rfl, hb1⟩
    have ST1 := Lib.hid (ST0.out.up hb1)
    have HB3 := Lib.hid ST1.out.bel
    have hk := HK.out.below hb1 HK.out.lt
    clear hb1 x0 x1 x2 x3 x4 x5 hz hkz
    obtain ⟨x0, x1, x2, x3, x4, x5, hz⟩ := ST1.out.cells
    obtain ⟨bb, o, rfl, hb, p0, p1, p2, p3, p4, p5⟩ := prt_at ST1.out.R.ports HP.out
    have q0 := hk.cell 0
    have q1 := hk.cell 1
    have q2 := hk.cell 2
    have q3 := hk.cell 3
    have q4 := hk.cell 4
    have q5 := hk.cell 5
    have qf := hk.frozen
    have hkz := hk.lt
    simp at q0 q1 q2 q3 q4 q5
    clear hk
    go_wp2
    refine bodyPost_ret (v := .tuple #[prtV q, .bool true]) (by simp [results, Tryz.results16, go_sem, q0, q1, q2, q3, q4, q5]) rfl ⟨rfl, ?_⟩
    (repeat (first | with_reducible exact HB3.out | with_reducible exact Below.refl _ _ | with_reducible refine Below.drew ?_ | (with_reducible refine Below.setCell ?_ (by simp) _) | (with_reducible refine Below.alloc ?_ (by have hq := HB3.out.size; simp; omega) _)))
set_option maxRecDepth 100000 in
set_option maxHeartbeats 4000000 in
theorem rNamed23_ok (c : Cfg) (A1 A2 A3 A4 A5 : Option Addr) (c1 c2 c3 c4 c5 : Nat) (w : World) (hR : CfgR w w.heap.size c A1 A2 A3 A4 A5 c1 c2 c3 c4 c5) (hs : c.small) (id : Int) (s : ByteArray) (p : Prt) (b : Bool) (hv : Hid (portAns (namedOf c id s) = (p, b))) : Calls Tryz.prog 22 #[cfgV c.frame A1 A2 A3 A4 A5 c.parts.length c.wins.length c.regs.length c.ports.length c.chans.length c1 c2 c3 c4 c5, .int .u16 id, .string s] w fun e w' => e = .returned (.tuple #[prtV p, .bool b]) ∧ Below w.heap.size w w' := by
  obtain ⟨WA, hWA, st⟩ := St.start_any hR 29
  have ea : WA.heap.size = w.heap.size + 1 := by rw [← hWA]; simp
  have HWA := Lib.hid hWA
  obtain ⟨W0, hW, hk0, hb0⟩ : ∃ W, WA.alloc (.cells #[.int .u16 0, .int .u16 0, .string ⟨#[]⟩, .bool false, .bool false, .int .u32 0] 41) = W ∧ Blk W (w.heap.size + 1) 41 #[.int .u16 0, .int .u16 0, .string ⟨#[]⟩, .bool false, .bool false, .int .u32 0] ∧ Below WA.heap.size WA W := ⟨_, rfl, Blk.new' _ _ _ _ ea.symm, below_one _ _⟩
  have HW := Lib.hid hW
  have HK := Lib.hid hk0
  have HB2 := Lib.hid hb0
  clear hW hk0 hb0
  have ST0 := Lib.hid (st.up HB2.out)
  obtain ⟨x0, x1, x2, x3, x4, x5, hz⟩ := ST0.out.cells
  have bt := hs.bd.t
  have hkz := HK.out.lt
  clear hR hWA st
  rcases idx_cases (fun x => x.part == id && x.name == s) c.ports with ⟨h1, h2⟩ | ⟨k, q, h1, hk, h3, h4, h5⟩
  · rw [show namedOf c id s = none from h2] at hv
    have hv := hv.out
    injection hv with e1 e2
    subst e1 e2
    have HX := Lib.hid h1
    clear h1 h2
    go_enter Tryz.func22, Tryz.ntmps22
    go_upto_region 1 with (fail)
    rw [HWA.out, HW.out]
    go_wp2_with fail
    refine (rNamed_val c _ _ _ _ _ _ _ _ _ _ _ ST0.out.R hs id s (-1) HX).mono ?_
    rintro e w1 ⟨rfl, hb1⟩
    have HB3 := Lib.hid (ST0.out.up hb1).bel
    have hk := HK.out.below hb1 HK.out.lt
    clear hb1 x0 x1 x2 x3 x4 x5 hz hkz
    have q0 := hk.cell 0
    have q1 := hk.cell 1
    have q2 := hk.cell 2
    have q3 := hk.cell 3
    have q4 := hk.cell 4
    have q5 := hk.cell 5
    have qf := hk.frozen
    have hkz := hk.lt
    simp at q0 q1 q2 q3 q4 q5
    clear hk
    go_wp2
    refine bodyPost_ret (v := .tuple #[prtV noPrt, .bool false]) (by simp [results, Tryz.results22, go_sem, noPrt, q0, q1, q2, q3, q4, q5]) rfl ⟨rfl, ?_⟩
    (repeat (first | with_reducible exact HB3.out | with_reducible exact Below.refl _ _ | with_reducible refine Below.drew ?_ | (with_reducible refine Below.setCell ?_ (by simp) _) | (with_reducible refine Below.alloc ?_ (by have hq := HB3.out.size; simp; omega) _)))
  · rw [show namedOf c id s = some q from h4] at hv
    have hv := hv.out
    injection hv with e1 e2
    subst e1 e2
    have HX := Lib.hid h1
    have HP := Lib.hid h3
    have m0 : (0 : Int) ≤ (k : Int) := by omega
    have mm : (k : Int) < (c.ports.length : Int) := by omega
    have mneg : decide ((k : Int) < 0) = false := decide_eq_false (by omega)
    clear h1 h4 h5 h3 hk
    go_enter Tryz.func22, Tryz.ntmps22
    go_upto_region 1 with (fail)
    rw [HWA.out, HW.out]
    go_wp2_with fail
    refine (rNamed_val c _ _ _ _ _ _ _ _ _ _ _ ST0.out.R hs id s k HX).mono ?_
    rintro e w1 ⟨rfl, hb1⟩
    have ST1 := Lib.hid (ST0.out.up hb1)
    have HB3 := Lib.hid ST1.out.bel
    have hk := HK.out.below hb1 HK.out.lt
    clear hb1 x0 x1 x2 x3 x4 x5 hz hkz
    obtain ⟨x0, x1, x2, x3, x4, x5, hz⟩ := ST1.out.cells
    obtain ⟨bb, o, rfl, hb, p0, p1, p2, p3, p4, p5⟩ := prt_at ST1.out.R.ports HP.out
    have q0 := hk.cell 0
    have q1 := hk.cell 1
    have q2 := hk.cell 2
    have q3 := hk.cell 3
    have q4 := hk.cell 4
    have q5 := hk.cell 5
    have qf := hk.frozen
    have hkz := hk.lt
    simp at q0 q1 q2 q3 q4 q5
    clear hk
    go_wp2
    refine bodyPost_ret (v := .tuple #[prtV q, .bool true]) (by simp [results, Tryz.results22, go_sem, q0, q1, q2, q3, q4, q5]) rfl ⟨rfl, ?_⟩
    (repeat (first | with_reducible exact HB3.out | with_reducible exact Below.refl _ _ | with_reducible refine Below.drew ?_ | (with_reducible refine Below.setCell ?_ (by simp) _) | (with_reducible refine Below.alloc ?_ (by have hq := HB3.out.size; simp; omega) _)))
set_option maxRecDepth 100000 in
set_option maxHeartbeats 4000000 in
theorem rPorts23_ok (c : Cfg) (A1 A2 A3 A4 A5 : Option Addr) (c1 c2 c3 c4 c5 : Nat) (w : World) (hR : CfgR w w.heap.size c A1 A2 A3 A4 A5 c1 c2 c3 c4 c5) (hs : c.small) (id : Int) : Calls Tryz.prog 30 #[cfgV c.frame A1 A2 A3 A4 A5 c.parts.length c.wins.length c.regs.length c.ports.length c.chans.length c1 c2 c3 c4 c5, .int .u16 id] w fun e w' => ∃ v, e = .returned v ∧ w'.ownsRow w.heap.size 34 1 v (portsOf c id).length ((sortL (portsOf c id)).map (Value.int .u16)) ∧ Below w.heap.size w w' := by
  obtain ⟨i0, hi0, hz0, hz1, hz2⟩ := info_parts info_u16
  have bt := hs.bd.t
  have ST0 := Lib.hid (St.start hR 29)
  clear hR
  go_enter Tryz.func30, Tryz.ntmps30
  go_wp2
  go_loopw [5, 6] (fun o i wr => ∃ k : Nat, k ≤ c.ports.length ∧ i = .int .i64 k ∧ Hid (wr.ownsRow (w.heap.size + 1) 34 1 o (portsTo c id k).length ((portsTo c id k).map (Value.int .u16))) ∧ Hid (St w (wr) c A1 A2 A3 A4 A5 c1 c2 c3 c4 c5)) (fun _ i _ => c.ports.length - (intOf i).toNat)
  case atStart => exact ⟨0, Nat.zero_le _, rfl, Lib.hid (World.ownsRow_nil _ _ _ _), ST0⟩
  case round =>
    obtain ⟨k, hk, rfl, HO, ST⟩ := hrel
    obtain ⟨x0, x1, x2, x3, x4, x5, hz⟩ := ST.out.cells
    have hlen := portsTo_len c id k
    by_cases hlt : k < c.ports.length
    · obtain ⟨x, hx⟩ := get_lt hlt
      have HX := Lib.hid hx
      obtain ⟨b, oo, rfl, hb, p0, p1, p2, p3, p4, p5⟩ := prt_at ST.out.R.ports hx
      have k0 : (0 : Int) ≤ (k : Int) := by omega
      have k1 : (k : Int) < (c.ports.length : Int) := by omega
      clear hx
      rcases Bool.eq_false_or_eq_true (x.part == id) with hu | hu
      · have HN := Lib.hid (portsTo_yes HX.out hu)
        obtain ⟨rA, rc, rfl, _⟩ := own_form HO.out
        have HR3 := Lib.hid (own_below HO.out (below_one wr (.cells #[.int .u16 x.id] 34)))
        have hsz := ST.out.z
        go_wp2_with (at_builtin; go_loud (refine wpList_append_rd _ rfl (.tmp 22) (.tmp 29) _ rfl (w.heap.size + 1) 34 i0 (.int .u16 0) 1 2 Tryz.underlying36 hi0 hz0 hz1 hz2 rfl (by decide) _ _ _ rfl HR3.out (wr.alloc (.cells #[.int .u16 x.id] 34)).heap.size (some ⟨wr.heap.size, 0, none⟩) 1 1 [.int .u16 x.id] rfl (one_newP wr x.id 34) (by intro u hu; simp at hu; subst hu; rfl) (by unfold maxLen; omega) (by omega) (by simp; omega) ?_); intro v' w3 hown hg)
        have hb3 := below_own ((Below.refl (w.heap.size + 1) wr).alloc (by omega) (.cells #[.int .u16 x.id] 34)) hg HR3.out (by simp; omega)
        have HO3 := Lib.hid (show w3.ownsRow (w.heap.size + 1) 34 1 v' (portsTo c id (k + 1)).length ((portsTo c id (k + 1)).map (Value.int .u16)) by rw [HN.out]; simpa using hown)
        have ST3 := Lib.hid (ST.out.keep hb3)
        clear hown hg hb3
        go_wp2
        go_roundw
        case rel => exact ⟨k + 1, by omega, by go_num, HO3, ST3⟩
        case measure => simp [intOf]; omega
      · have HN := Lib.hid (portsTo_no HX.out hu)
        go_wp2
        go_roundw
        case rel => exact ⟨k + 1, by omega, by go_num, Lib.hid (by rw [HN.out]; exact HO.out), ST⟩
        case measure => simp [intOf]; omega
    · obtain rfl : k = c.ports.length := by omega
      rw [portsTo_all] at HO
      have hle : (portsOf c id).length ≤ 1048576 := by rw [← portsTo_all]; omega
      clear hlen
      obtain ⟨l, hl⟩ : ∃ l, portsOf c id = l := ⟨_, rfl⟩
      rw [hl] at HO hle
      have HL := Lib.hid hl
      clear hl
      obtain ⟨rA, rc, rfl, _, _, hrd⟩ := own_form HO.out
      have HRD := Lib.hid hrd
      have HZ := Lib.hid ST.out.bel
      clear hrd
      go_wp2_with fail
      refine (rDest05_ok l rA rc _ hle HRD.out).mono ?_
      rintro e w1 ⟨v, rfl, ho, hb1⟩
      have HO1 := Lib.hid (own_lessC ho HZ.out.size)
      have HB1 := Lib.hid (Below.then_ HZ.out hb1)
      clear ho hb1
      go_wp2
      go_ret
      refine ⟨v, rfl, ?_, HB1.out⟩
      rw [HL.out]
      exact HO1.out
set_option maxRecDepth 100000 in
set_option maxHeartbeats 4000000 in
theorem rSend_ok (c : Cfg) (A1 A2 A3 A4 A5 : Option Addr) (c1 c2 c3 c4 c5 : Nat) (w : World) (hR : CfgR w w.heap.size c A1 A2 A3 A4 A5 c1 c2 c3 c4 c5) (hs : c.small) (hok : c.ok) (id : Int) (m : Nat) (hm : m ≤ 4194304) (v : Int) (hv : Hid (sendCode c id m = v)) : Calls Tryz.prog 18 #[cfgV c.frame A1 A2 A3 A4 A5 c.parts.length c.wins.length c.regs.length c.ports.length c.chans.length c1 c2 c3 c4 c5, .int .u16 id, .int .i64 m] w fun e w' => e = .returned (.int .i64 v) ∧ Below w.heap.size w w' := by
  have ST0 := Lib.hid (St.start hR 29)
  obtain ⟨x0, x1, x2, x3, x4, x5, hz⟩ := ST0.out.cells
  have hm0 : (0 : Int) ≤ (m : Int) := by omega
  have hm1 : (m : Int) ≤ 4194304 := by omega
  have hw0 : IntKind.u64.wrap (m : Int) = (m : Int) := IntWalk.u64_in _ (by omega)
  clear hR
  rcases hp : portOf c id with _ | p
  · have HP := Lib.hid (show portAns (portOf c id) = (noPrt, false) by rw [hp]; rfl)
    obtain rfl : v = 19 := by rw [← hv.out]; exact send_none hp
    clear hp hv
    go_enter Tryz.func18, Tryz.ntmps18
    go_wp2_with fail
    refine (rPort23_ok c _ _ _ _ _ _ _ _ _ _ _ ST0.out.R hs id noPrt false HP).mono ?_
    rintro e w1 ⟨rfl, hb1⟩
    have ST1 := Lib.hid (ST0.out.up hb1)
    clear hb1 x0 x1 x2 x3 x4 x5 hz
    go_wp2
    go_ret
    exact ⟨rfl, ST1.out.bel.alloc ST1.out.bel.size _⟩
  · have HP := Lib.hid (show portAns (portOf c id) = (p, true) by rw [hp]; rfl)
    have HPP := Lib.hid hp
    have hpb := Go.bounds_u32 (hok.ports p (List.mem_of_find?_eq_some (show c.ports.find? (fun x => x.id == id) = some p from hp))).size
    have hw1 : IntKind.u64.wrap p.size = p.size := IntWalk.u64_in _ (by omega)
    have HS := Lib.hid hs
    clear hp hs
    go_enter Tryz.func18, Tryz.ntmps18
    go_wp2_with fail
    refine (rPort23_ok c _ _ _ _ _ _ _ _ _ _ _ ST0.out.R HS.out id p true HP).mono ?_
    rintro e w1 ⟨rfl, hb1⟩
    obtain ⟨W2, hW2, pt, hb2⟩ := PtBox.new w1 p 41
    have HW2 := Lib.hid hW2
    have ST1 := Lib.hid ((ST0.out.up hb1).up hb2)
    clear hb1 x0 x1 x2 x3 x4 x5 hz hW2 hb2
    obtain ⟨x0, x1, x2, x3, x4, x5, hz⟩ := ST1.out.cells
    obtain ⟨z0, z1, z2, z3, z4, z5, hzz⟩ := pt
    go_upto_region 2 with (fail)
    rw [HW2.out]
    rcases Bool.eq_false_or_eq_true p.output with ho | ho
    · rw [ho] at z3
      by_cases hl : p.size < (m : Int)
      · obtain rfl : v = 11 := by rw [← hv.out]; exact send_long HPP.out ho hl
        clear hv
        go_wp2
        go_ret
        exact ⟨rfl, ST1.out.bel⟩
      · go_wp2_with fail
        refine (rRoute_ok c _ _ _ _ _ _ _ _ _ _ _ ST1.out.R HS.out id).mono ?_
        rintro e w3 ⟨vv, rfl, hO, hb3⟩
        obtain ⟨rA, rc, rfl, _⟩ := own_form hO
        have HB3 := Lib.hid (ST1.out.up hb3).bel
        clear hb3 hO x0 x1 x2 x3 x4 x5 hz z0 z1 z2 z3 z4 z5 hzz
        by_cases hlen : (routeOf c id).length = 0
        · obtain rfl : v = 28 := by rw [← hv.out]; exact send_empty HPP.out ho (by omega) hlen
          clear hv
          go_wp2
          go_ret
          exact ⟨rfl, HB3.out⟩
        · obtain rfl : v = 0 := by rw [← hv.out]; exact send_ok HPP.out ho (by omega) hlen
          have hl2 : ¬ ((routeOf c id).length : Int) = 0 := by omega
          clear hv
          go_wp2
          go_ret
          exact ⟨rfl, HB3.out⟩
    · obtain rfl : v = 25 := by rw [← hv.out]; exact send_dir HPP.out ho
      rw [ho] at z3
      clear hv
      go_wp2
      go_ret
      exact ⟨rfl, ST1.out.bel⟩
end Go.Proofs.YthnbgbocanpkjaaGreat
