/-
  What From of package wiring and From of the reference of layer 18 return, walked once.
-/
import Derived.Test.YtifmcdnaaaphmaaWirG
namespace Go.Proofs.Ytifmcdnaaaphmaa
open Go.RowKit
attribute [local go_sem] ext_cell
set_option maxRecDepth 100000 in
set_option maxHeartbeats 1000000 in
theorem index16_ok (l : List Int) (A : Option Addr) (cp : Nat) (id : Int) (w : World) (hl : l.length ≤ 1048576) (hP : Rd w w.heap.size 1 A l.length (l.map (Value.int .u16))) :
    Calls Try.prog 60 #[.slice A l.length cp, .int .u16 id] w fun e w' => e = .returned (.int .i64 (idx (fun y => id == y) l)) ∧ Below w.heap.size w w' := by
  go_enter Try.func60, Try.ntmps60
  go_wp2
  go_loop [8] (fun i => ∃ k : Nat, k ≤ l.length ∧ i = .int .i64 k ∧ Hid (idx (fun y => id == y) l = idxFrom (fun y => id == y) k (l.drop k))) (fun i => l.length - (intOf i).toNat)
  case atStart => exact ⟨0, Nat.zero_le _, rfl, Lib.hid rfl⟩
  case round =>
    obtain ⟨k, hk, rfl, hrest⟩ := hrel
    by_cases hlt : k < l.length
    · obtain ⟨y, hy⟩ := get_lt hlt
      obtain ⟨b, o, rfl, hb, g0⟩ := int_at hP hy
      have HY := Lib.hid hy
      clear hy
      rcases beq_cases id y with hp | hp
      · have HP := Lib.hid (show (fun y => id == y) y = true from hp)
        go_wp2
        go_ret
        exact ⟨ret_int (idx_hit hrest.out HY.out HP.out).symm, Below.refl _ _⟩
      · have HP := Lib.hid (show (fun y => id == y) y = false from hp)
        go_wp2
        go_round
        case rel => exact ⟨k + 1, by omega, by go_num, Lib.hid (idx_miss hrest.out HY.out HP.out)⟩
        case measure => simp [intOf]; omega
    · obtain rfl : k = l.length := by omega
      go_wp2
      go_ret
      exact ⟨ret_int (idx_end hrest.out).symm, Below.refl _ _⟩
theorem hasI_idx (l : List Int) (id : Int) : hasI l id = decide (0 ≤ idx (fun y => id == y) l) := by
  rcases idx_cases (fun y => id == y) l with ⟨h1, h2⟩ | ⟨k, y, h1, _, h3, _, h5⟩
  · rw [h1]
    have := List.find?_eq_none.1 h2
    rw [hasI_no (fun h => this id h (by simp))]
    rfl
  · rw [h1]
    have : y = id := (show id = y by simpa using h5).symm
    rw [contains_hit h3 this]
    simp
set_option maxRecDepth 100000 in
set_option maxHeartbeats 1000000 in
theorem contains16_ok (l : List Int) (A : Option Addr) (cp : Nat) (id : Int) (w : World) (hl : l.length ≤ 1048576) (hP : Rd w w.heap.size 1 A l.length (l.map (Value.int .u16))) :
    Calls Try.prog 41 #[.slice A l.length cp, .int .u16 id] w fun e w' => e = .returned (.bool (hasI l id)) ∧ Below w.heap.size w w' := by
  rw [hasI_idx]
  go_enter Try.func41, Try.ntmps41
  go_wp2_with (go_at_call 60; refine (index16_ok l A cp id _ hl hP).mono ?_; rintro e w1 ⟨rfl, hb1⟩)
  go_ret
  exact ⟨rfl, hb1⟩
set_option maxRecDepth 100000 in
set_option maxHeartbeats 1000000 in
theorem fromFn_ok (x : Chn) (D : Option Addr) (d : Nat) (id : Int) (pb : Nat) (w : World) (hl : x.dests.length ≤ 1048576) (hD : Rd w w.heap.size 1 D x.dests.length (x.dests.map (Value.int .u16))) (hc : w.cell? ⟨pb, 0, none⟩ = some (.int .u16 id)) :
    Calls Try.prog 40 #[.agg #[.int .u16 x.id, .int .u16 x.source, .slice D x.dests.length d], .pointer (some ⟨pb, 0, none⟩)] w fun e w' => e = .returned (.bool (hasI x.dests id)) ∧ Below w.heap.size w w' := by
  obtain ⟨W0, hW, cb, hb0⟩ := ChBox.new w x D d 55
  have hl2 : pb < w.heap.size := cell_lt hc
  have hc0 : W0.cell? ⟨pb, 0, none⟩ = some (.int .u16 id) := (hb0.cell (p := ⟨pb, 0, none⟩) hl2).trans hc
  have HD := Lib.hid (hD.up hb0)
  have HW := Lib.hid hW
  have HB := Lib.hid hb0
  obtain ⟨y0, y1, y2, hz⟩ := cb
  clear hD hc hW hb0
  go_enter Try.func40, Try.ntmps40
  go_upto_region 1 with (fail)
  rw [HW.out]
  go_wp2_with (go_at_call 41; refine (contains16_ok x.dests D d id _ hl HD.out).mono ?_; rintro e w1 ⟨rfl, hb1⟩)
  go_ret
  exact ⟨rfl, Below.then_ HB.out hb1⟩
theorem fromFn_val (x : Chn) (D : Option Addr) (d : Nat) (id : Int) (pb : Nat) (w : World) (hl : x.dests.length ≤ 1048576) (hD : Rd w w.heap.size 1 D x.dests.length (x.dests.map (Value.int .u16))) (hc : w.cell? ⟨pb, 0, none⟩ = some (.int .u16 id)) (v : Bool) (hv : Hid (hasI x.dests id = v)) :
    Calls Try.prog 40 #[.agg #[.int .u16 x.id, .int .u16 x.source, .slice D x.dests.length d], .pointer (some ⟨pb, 0, none⟩)] w fun e w' => e = .returned (.bool v) ∧ Below w.heap.size w w' := by
  have := fromFn_ok x D d id pb w hl hD hc
  rwa [hv.out] at this
def CfgC (w : World) (c : Cfg) (A5 : Option Addr) : Prop := ∃ cs, ChnsC w w.heap.size c.chans cs ∧ Rd w w.heap.size 3 A5 c.chans.length cs
theorem CfgC.up {w w' : World} {c : Cfg} {A5 : Option Addr} (h : CfgC w c A5) (hb : Below w.heap.size w w') : CfgC w' c A5 := by
  obtain ⟨cs, h1, h2⟩ := h
  exact ⟨cs, (h1.keep fun _ _ hp => hb.cell hp).more hb.size, h2.up hb⟩
set_option maxRecDepth 100000 in
set_option maxHeartbeats 2000000 in
theorem indexChn_ok (c : Cfg) (hbd : c.Bd) (A5 : Option Addr) (c5 : Nat) (id : Int) (pb : Nat) (w : World) (hC : CfgC w c A5) (hc : w.cell? ⟨pb, 0, none⟩ = some (.int .u16 id)) :
    Calls Try.prog 39 #[.slice A5 c.chans.length c5, .func (.func 40) #[] #[.pointer (some ⟨pb, 0, none⟩)]] w fun e w' => e = .returned (.int .i64 (idx (fun x => hasI x.dests id) c.chans)) ∧ Below w.heap.size w w' := by
  have bx := hbd.x
  have HDL := Lib.hid hbd.d
  have hl2 : pb < w.heap.size := cell_lt hc
  have HC := Lib.hid hC
  have HCC := Lib.hid hc
  clear hbd hC hc
  go_enter Try.func39, Try.ntmps39
  go_wp2
  go_loopw [8] (fun i wr => ∃ k : Nat, k ≤ c.chans.length ∧ i = .int .i64 k ∧ Hid (idx (fun x => hasI x.dests id) c.chans = idxFrom (fun x => hasI x.dests id) k (c.chans.drop k)) ∧ Hid (Below w.heap.size w wr)) (fun i _ => c.chans.length - (intOf i).toNat)
  case atStart => exact ⟨0, Nat.zero_le _, rfl, Lib.hid rfl, Lib.hid (Below.refl _ _)⟩
  case round =>
    obtain ⟨k, hk, rfl, hrest, HB⟩ := hrel
    by_cases hlt : k < c.chans.length
    · obtain ⟨x, hx⟩ := get_lt hlt
      have hxl := HDL.out x (List.mem_of_getElem? hx)
      obtain ⟨cs, hC, hr⟩ := HC.out.up HB.out
      obtain ⟨b, o, rfl, hb, g0, g1, D, d, g2, hd1, hd2, hD⟩ := chn_at hC hr hx
      have HX := Lib.hid hx
      have HD := Lib.hid hD
      have HC2 := Lib.hid ((HB.out.cell (p := ⟨pb, 0, none⟩) hl2).trans HCC.out)
      clear hx hC hr hD
      have hub : hasI x.dests id = true ∨ hasI x.dests id = false := by cases hasI x.dests id <;> simp
      rcases hub with hu | hu
      · have HU := Lib.hid hu
        have HP := Lib.hid (show (fun x : Chn => hasI x.dests id) x = true from hu)
        clear hu
        go_wp2_with (go_at_call 40; refine (fromFn_val x D d id pb _ hxl HD.out HC2.out true HU).mono ?_; rintro e w1 ⟨rfl, hb1⟩)
        go_ret
        exact ⟨ret_int (idx_hit hrest.out HX.out HP.out).symm, Below.then_ HB.out hb1⟩
      · have HU := Lib.hid hu
        have HP := Lib.hid (show (fun x : Chn => hasI x.dests id) x = false from hu)
        clear hu
        go_wp2_with (go_at_call 40; refine (fromFn_val x D d id pb _ hxl HD.out HC2.out false HU).mono ?_; rintro e w1 ⟨rfl, hb1⟩)
        go_roundw
        case rel => exact ⟨k + 1, by omega, by go_num, Lib.hid (idx_miss hrest.out HX.out HP.out), Lib.hid (Below.then_ HB.out hb1)⟩
        case measure => simp [intOf]; omega
    · obtain rfl : k = c.chans.length := by omega
      go_wp2
      go_ret
      exact ⟨ret_int (idx_end hrest.out).symm, HB.out⟩
def chanTo (c : Cfg) (id : Int) : Option Chn := c.chans.find? (fun x => hasI x.dests id)
def fromOf (c : Cfg) (id : Int) : Int × Bool := match chanTo c id with
  | none => (0, false)
  | some x => (x.source, true)
theorem fromOf_none {c : Cfg} {id : Int} (h : chanTo c id = none) : fromOf c id = (0, false) := by unfold fromOf; rw [h]
theorem fromOf_some {c : Cfg} {id : Int} {x : Chn} (h : chanTo c id = some x) : fromOf c id = (x.source, true) := by unfold fromOf; rw [h]
theorem indexChn_val (c : Cfg) (hbd : c.Bd) (A5 : Option Addr) (c5 : Nat) (id : Int) (pb : Nat) (w : World) (hC : CfgC w c A5) (hc : w.cell? ⟨pb, 0, none⟩ = some (.int .u16 id)) (v : Int) (hv : Hid (idx (fun x => hasI x.dests id) c.chans = v)) :
    Calls Try.prog 39 #[.slice A5 c.chans.length c5, .func (.func 40) #[] #[.pointer (some ⟨pb, 0, none⟩)]] w fun e w' => e = .returned (.int .i64 v) ∧ Below w.heap.size w w' := by
  have := indexChn_ok c hbd A5 c5 id pb w hC hc
  rwa [hv.out] at this
set_option maxRecDepth 100000 in
set_option maxHeartbeats 2000000 in
theorem from_ok (c : Cfg) (A1 A2 A3 A4 A5 : Option Addr) (c1 c2 c3 c4 c5 : Nat) (w : World) (hR : CfgR w w.heap.size c A1 A2 A3 A4 A5 c1 c2 c3 c4 c5) (hs : c.small) (id : Int) : Calls Try.prog 16 #[cfgV c.frame A1 A2 A3 A4 A5 c.parts.length c.wins.length c.regs.length c.ports.length c.chans.length c1 c2 c3 c4 c5, .int .u16 id] w fun e w' => e = .returned (.tuple #[.int .u16 (fromOf c id).1, .bool (fromOf c id).2]) ∧ Below w.heap.size w w' := by
  obtain ⟨W0, hW, st⟩ := St.start_any hR 29
  have HW := Lib.hid hW
  have e0 : W0.heap.size = w.heap.size + 1 := by rw [← hW]; simp
  have ST0 := Lib.hid st
  have hbd := hs.bd
  have bx := hbd.x
  have HBD := Lib.hid hbd
  have st1 := st.up (below_one W0 (.cells #[.int .u16 id] 38))
  have hcell : (W0.alloc (.cells #[.int .u16 id] 38)).cell? ⟨w.heap.size + 1, 0, none⟩ = some (.int .u16 id) := by rw [← e0]; simp
  have hb1 := below_one W0 (.cells #[.int .u16 id] 38)
  generalize hW1 : W0.alloc (.cells #[.int .u16 id] 38) = W1 at st1 hcell hb1
  have HW1 := Lib.hid hW1
  have ST1 := Lib.hid st1
  have HC1 := Lib.hid hcell
  obtain ⟨x0, x1, x2, x3, x4, x5, hz⟩ := st1.cells
  clear hR hW st hbd st1 hcell hb1 hW1 e0
  rcases idx_cases (fun x => hasI x.dests id) c.chans with ⟨h1, h2⟩ | ⟨k, x, h1, hk, h3, h4, h5⟩
  · have HI := Lib.hid h1
    have HV := Lib.hid (fromOf_none h2)
    clear h1 h2
    go_enter Try.func16, Try.ntmps16
    go_upto_region 1 with (fail)
    rw [HW.out, HW1.out]
    go_wp2_with (go_at_call 39; refine (indexChn_val c HBD.out A5 c5 id _ _ ST1.out.R.chans HC1.out (-1) HI).mono ?_; rintro e w2 ⟨rfl, hb2⟩)
    go_ret2
    exact ⟨by rw [HV.out]; rfl, (ST1.out.up hb2).bel⟩
  · have HI := Lib.hid h1
    have HV := Lib.hid (fromOf_some h4)
    have HX := Lib.hid h3
    clear h1 h3 h4 h5
    have m0 : (0 : Int) ≤ (k : Int) := by omega
    have m1 : (k : Int) < (c.chans.length : Int) := by omega
    have mneg : decide ((k : Int) < 0) = false := decide_eq_false (by omega)
    go_enter Try.func16, Try.ntmps16
    go_upto_region 1 with (fail)
    rw [HW.out, HW1.out]
    go_wp2_with fail
    refine (indexChn_val c HBD.out A5 c5 id _ _ ST1.out.R.chans HC1.out k HI).mono ?_
    rintro e w2 ⟨rfl, hb2⟩
    have ST2 := Lib.hid (ST1.out.up hb2)
    clear x0 x1 x2 x3 x4 x5 hz hb2
    obtain ⟨x0, x1, x2, x3, x4, x5, hz⟩ := ST2.out.cells
    obtain ⟨cs, hC, hr⟩ := ST2.out.R.chans
    obtain ⟨b, o, rfl, hb, g0, g1, D, d, g2, hd1, hd2, hD⟩ := chn_at hC hr HX.out
    clear hC hr hD
    go_wp2
    go_ret2
    exact ⟨by rw [HV.out]; rfl, ST2.out.bel⟩
theorem in18_val (l : List Int) (A : Option Addr) (cp : Nat) (id : Int) (w : World) (hl : l.length ≤ 1048576) (hP : Rd w w.heap.size 1 A l.length (l.map (Value.int .u16))) (v : Bool) (hv : Hid (hasI l id = v)) :
    Calls Try.prog 42 #[.slice A l.length cp, .int .u16 id] w fun e w' => e = .returned (.bool v) ∧ Below w.heap.size w w' := by
  have := in18_ok l A cp id w hl hP
  rwa [hv.out] at this
set_option maxRecDepth 100000 in
set_option maxHeartbeats 2000000 in
theorem rFrom18_ok (c : Cfg) (A1 A2 A3 A4 A5 : Option Addr) (c1 c2 c3 c4 c5 : Nat) (w : World) (hR : CfgR w w.heap.size c A1 A2 A3 A4 A5 c1 c2 c3 c4 c5) (hs : c.small) (id : Int) : Calls Try.prog 17 #[cfgV c.frame A1 A2 A3 A4 A5 c.parts.length c.wins.length c.regs.length c.ports.length c.chans.length c1 c2 c3 c4 c5, .int .u16 id] w fun e w' => e = .returned (.tuple #[.int .u16 (fromOf c id).1, .bool (fromOf c id).2]) ∧ Below w.heap.size w w' := by
  have hbd := hs.bd
  have ST0 := Lib.hid (St.start hR 29)
  have bx := hbd.x
  have HDL := Lib.hid hbd.d
  clear hR hbd
  go_enter Try.func17, Try.ntmps17
  go_wp2
  go_loopw [6] (fun i wr => ∃ k : Nat, k ≤ c.chans.length ∧ i = .int .i64 k ∧ Hid (chanTo c id = (c.chans.drop k).find? (fun x => hasI x.dests id)) ∧ Hid (St w (wr) c A1 A2 A3 A4 A5 c1 c2 c3 c4 c5)) (fun i _ => c.chans.length - (intOf i).toNat)
  case atStart => exact ⟨0, Nat.zero_le _, rfl, Lib.hid rfl, ST0⟩
  case round =>
    obtain ⟨k, hk, rfl, hrest, ST⟩ := hrel
    obtain ⟨x0, x1, x2, x3, x4, x5, hz⟩ := ST.out.cells
    by_cases hlt : k < c.chans.length
    · obtain ⟨x, hx⟩ := get_lt hlt
      have hxl := HDL.out x (List.mem_of_getElem? hx)
      obtain ⟨cs, hC, hr⟩ := ST.out.R.chans
      obtain ⟨b, o, rfl, hb, g0, g1, D, d, g2, hd1, hd2, hD⟩ := chn_at hC hr hx
      have HD := Lib.hid hD
      have hub : hasI x.dests id = true ∨ hasI x.dests id = false := by cases hasI x.dests id <;> simp
      have HDR := Lib.hid (drop_cons hx)
      clear hx hC hr hD
      rcases hub with hu | hu
      · have HU := Lib.hid hu
        have HV := Lib.hid (fromOf_some (c := c) (id := id) (x := x) (by rw [hrest.out, HDR.out, List.find?_cons]; simp [hu]))
        clear hu
        go_wp2_with fail
        refine (in18_val x.dests D d id _ hxl HD.out true HU).mono ?_
        rintro e w1 ⟨rfl, hb1⟩
        have ST2 := Lib.hid (ST.out.up hb1)
        clear x0 x1 x2 x3 x4 x5 hz g0 g1 g2
        obtain ⟨x0, x1, x2, x3, x4, x5, hz⟩ := ST2.out.cells
        have q : ∀ j, w1.cell? ⟨b, j, none⟩ = wr.cell? ⟨b, j, none⟩ := fun j => hb1.cell (p := ⟨b, j, none⟩) hb
        obtain ⟨cs, hC, hr⟩ := ST.out.R.chans
        obtain ⟨b', o', e', _, g0, g1, _⟩ := chn_at hC hr (show c.chans[k]? = some x by have := congrArg (·[0]?) HDR.out; simpa using this)
        obtain ⟨rfl, rfl⟩ : b = b' ∧ o = o' := by simpa using e'
        have g1' := (q _).trans g1
        clear g0 g1 hC hr q e' hb1
        go_wp2
        go_ret2
        exact ⟨by rw [HV.out]; rfl, ST2.out.bel⟩
      · have HU := Lib.hid hu
        have HV := Lib.hid (show chanTo c id = (c.chans.drop (k + 1)).find? (fun x => hasI x.dests id) by rw [hrest.out, HDR.out, List.find?_cons]; simp [hu])
        clear hu
        go_wp2_with (go_at_call 42; refine (in18_val x.dests D d id _ hxl HD.out false HU).mono ?_; rintro e w1 ⟨rfl, hb1⟩)
        go_roundw
        case rel => exact ⟨k + 1, by omega, by go_num, HV, Lib.hid (ST.out.up hb1)⟩
        case measure => simp [intOf]; omega
    · obtain rfl : k = c.chans.length := by omega
      have HV := Lib.hid (fromOf_none (c := c) (id := id) (by rw [hrest.out, List.drop_length]; rfl))
      go_wp2
      go_ret2
      exact ⟨by rw [HV.out]; rfl, ST.out.bel⟩
end Go.Proofs.Ytifmcdnaaaphmaa
