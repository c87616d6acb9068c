/-
  The law WiringSources, walked.
-/
import Derived.Test.YtifmcdnaaaphmaaLaw18a
import Derived.BigQuiet
namespace Go.Proofs.Ytifmcdnaaaphmaa
open Go.RowKit Go.Lib
attribute [local go_sem] ext_cell
theorem port_self {c : Cfg} (hu : (c.ports.map (·.id)).Nodup) {k : Nat} {x : Prt} (hx : c.ports[k]? = some x) : portOf c x.id = some x := by
  have hs : (portOf c x.id).isSome = true := by
    unfold portOf
    rw [List.find?_isSome]
    exact ⟨x, List.mem_of_getElem? hx, by simp⟩
  obtain ⟨j, hj, hjp, hp⟩ := port_idx hs
  have hid : (thePort c x.id).id = x.id := by
    have := List.find?_some (show c.ports.find? (fun y => y.id == x.id) = some (thePort c x.id) from hp)
    simpa using this
  have h1 : (c.ports.map (·.id))[j]? = some x.id := by rw [List.getElem?_map, hjp]; simp [hid]
  have h2 : (c.ports.map (·.id))[k]? = some x.id := by rw [List.getElem?_map, hx]; rfl
  have hjk : j = k := (List.getElem?_inj (List.getElem?_eq_some_iff.1 h1).1 hu).1 (h1.trans h2.symm)
  subst hjk
  rw [hjp] at hx
  injection hx with hx
  rw [hp, hx]
theorem from_cases (c : Cfg) (id : Int) : fromOf c id = (0, false) ∨ ∃ (i : Nat) (x : Chn), c.chans[i]? = some x ∧ id ∈ x.dests ∧ fromOf c id = (x.source, true) := by
  rcases h : chanTo c id with _ | x
  · exact .inl (fromOf_none h)
  · have hm := List.mem_of_find?_eq_some (show c.chans.find? (fun x => hasI x.dests id) = some x from h)
    have hp := List.find?_some (show c.chans.find? (fun x => hasI x.dests id) = some x from h)
    obtain ⟨i, hi⟩ := List.mem_iff_getElem?.1 hm
    exact .inr ⟨i, x, hi, hasI_iff.1 hp, fromOf_some h⟩
/-- the source of a port that a channel leads to -/
theorem source_of {c : Cfg} (hr : rightB c = true) {k : Nat} {x : Prt} (hx : c.ports[k]? = some x) : fromOf c x.id = (0, false) ∨ ∃ (s : Int) (j : Nat) (p : Prt), fromOf c x.id = (s, true) ∧ idx (fun y => y.id == s) c.ports = (j : Int) ∧ c.ports[j]? = some p ∧
    x.output = false ∧ p.output = true ∧ p.queuing = x.queuing ∧ p.size = x.size := by
  obtain ⟨h1, _, h3⟩ := right_parts hr
  have hu := (unique_parts h1).2.1
  rcases from_cases c x.id with h | ⟨i, ch, hi, hd, hf⟩
  · exact .inl h
  · refine .inr ⟨ch.source, ?_⟩
    have g := right_good h3 hi
    obtain ⟨s, hs, ho⟩ := g.src
    obtain ⟨m, hm⟩ := List.mem_iff_getElem?.1 hd
    obtain ⟨p, hp, hpo, hk, _⟩ := g.dst m _ hm
    rw [port_self hu hx] at hp
    injection hp with hp
    subst hp
    obtain ⟨j, hj, hjp, _⟩ := port_idx (c := c) (id := ch.source) (by rw [hs]; rfl)
    have e : thePort c ch.source = s := by simp [thePort, hs]
    rw [e] at hjp hk
    simp only [sameKind, Bool.and_eq_true, beq_iff_eq] at hk
    exact ⟨j, s, hf, hj, hjp, hpo, ho, hk.1.symm, hk.2.symm⟩
theorem from_val (c : Cfg) (A1 A2 A3 A4 A5 : Option Addr) (c1 c2 c3 c4 c5 : Nat) (w : World) (hR : CfgR w w.heap.size c A1 A2 A3 A4 A5 c1 c2 c3 c4 c5) (hs : c.small) (id : Int) (s : Int) (b : Bool) (hv : Hid (fromOf c id = (s, b))) : Calls Try.prog 16 #[cfgV c.frame A1 A2 A3 A4 A5 c.parts.length c.wins.length c.regs.length c.ports.length c.chans.length c1 c2 c3 c4 c5, .int .u16 id] w fun e w' => e = .returned (.tuple #[.int .u16 s, .bool b]) ∧ Below w.heap.size w w' := by
  have := from_ok c A1 A2 A3 A4 A5 c1 c2 c3 c4 c5 w hR hs id
  rwa [hv.out] at this
theorem rFrom18_val (c : Cfg) (A1 A2 A3 A4 A5 : Option Addr) (c1 c2 c3 c4 c5 : Nat) (w : World) (hR : CfgR w w.heap.size c A1 A2 A3 A4 A5 c1 c2 c3 c4 c5) (hs : c.small) (id : Int) (s : Int) (b : Bool) (hv : Hid (fromOf c id = (s, b))) : Calls Try.prog 17 #[cfgV c.frame A1 A2 A3 A4 A5 c.parts.length c.wins.length c.regs.length c.ports.length c.chans.length c1 c2 c3 c4 c5, .int .u16 id] w fun e w' => e = .returned (.tuple #[.int .u16 s, .bool b]) ∧ Below w.heap.size w w' := by
  have := rFrom18_ok c A1 A2 A3 A4 A5 c1 c2 c3 c4 c5 w hR hs id
  rwa [hv.out] at this
set_option maxRecDepth 100000 in
set_option maxHeartbeats 4000000 in
theorem wiringSources_ok (c : Cfg) (A1 A2 A3 A4 A5 : Option Addr) (c1 c2 c3 c4 c5 : Nat) (w : World) (hR : CfgR w w.heap.size c A1 A2 A3 A4 A5 c1 c2 c3 c4 c5) (hs : c.small) (hok : c.ok) (port : Int) (hport : wU16 port) : Calls Try.prog 4 #[cfgV c.frame A1 A2 A3 A4 A5 c.parts.length c.wins.length c.regs.length c.ports.length c.chans.length c1 c2 c3 c4 c5, .int .u16 port] w fun e w' => e = .returned (.bool true) ∧ Below w.heap.size w w' := by
  obtain ⟨W0, hW, st⟩ := St.start_any hR 29
  have HW := Lib.hid hW
  have ST0 := Lib.hid st
  have HOK := Lib.hid hok
  have hbd := hs.bd
  have bt := hbd.t
  obtain ⟨x0, x1, x2, x3, x4, x5, hz⟩ := st.cells
  clear hR hW st hok hbd
  have h1 : goodB c = true ∨ goodB c = false := by cases goodB c <;> simp
  rcases h1 with h1 | h1
  · have H1 := Lib.hid h1
    have hr : rightB c = true := by unfold goodB at h1; simp only [Bool.and_eq_true] at h1; exact h1.2
    have HRT := Lib.hid hr
    obtain ⟨s, b, hf⟩ : ∃ s b, fromOf c port = (s, b) := ⟨_, _, rfl⟩
    have HF := Lib.hid hf
    clear h1 hf hr
    have hb : b = true ∨ b = false := by cases b <;> simp
    rcases hb with rfl | rfl
    all_goals
      go_enter Try.func4, Try.ntmps4
      go_upto_region 1 with (fail)
      rw [HW.out]
      go_wp2_with fail
      refine (good_val c _ _ _ _ _ _ _ _ _ _ _ ST0.out.R hs true H1).mono ?_
      rintro e w1 ⟨rfl, hb1⟩
      have ST1 := Lib.hid (ST0.out.up hb1)
      clear hb1 x0 x1 x2 x3 x4 x5 hz
      obtain ⟨x0, x1, x2, x3, x4, x5, hz⟩ := ST1.out.cells
      go_wp2_with fail
      refine (from_val c _ _ _ _ _ _ _ _ _ _ _ ST1.out.R hs port s _ HF).mono ?_
      rintro e w2 ⟨rfl, hb2⟩
      have ST2 := Lib.hid (ST1.out.up hb2)
      clear hb2 x0 x1 x2 x3 x4 x5 hz
      obtain ⟨x0, x1, x2, x3, x4, x5, hz⟩ := ST2.out.cells
      go_wp2_with fail
      refine (rFrom18_val c _ _ _ _ _ _ _ _ _ _ _ ST2.out.R hs port s _ HF).mono ?_
      rintro e w3 ⟨rfl, hb3⟩
      have ST3 := Lib.hid (ST2.out.up hb3)
      clear hb3 x0 x1 x2 x3 x4 x5 hz
      obtain ⟨x0, x1, x2, x3, x4, x5, hz⟩ := ST3.out.cells
      go_wp2
      clear x0 x1 x2 x3 x4 x5 hz
      go_loopw [41] (fun i wr => ∃ (k : Nat), k ≤ c.ports.length ∧ i = .int .i64 k ∧ Hid (St w wr c A1 A2 A3 A4 A5 c1 c2 c3 c4 c5)) (fun i _ => c.ports.length - (intOf i).toNat)
      case atStart => exact ⟨0, Nat.zero_le _, rfl, ST3⟩
      case round =>
        obtain ⟨k, hk, rfl, ST⟩ := hrel
        by_cases hlt : k < c.ports.length
        · obtain ⟨x, hx⟩ := get_lt hlt
          obtain ⟨x0, x1, x2, x3, x4, x5, hz⟩ := ST.out.cells
          obtain ⟨bb, o, rfl, hbb, g0, g1, g2, g3, g4, g5⟩ := prt_at ST.out.R0.ports hx
          have hbel := ST.out.bel
          have g0' := (hbel.cell (p := ⟨bb, o + k * 6, none⟩) hbb).trans g0
          have g1' := (hbel.cell (p := ⟨bb, o + k * 6 + 1, none⟩) hbb).trans g1
          have g2' := (hbel.cell (p := ⟨bb, o + k * 6 + 2, none⟩) hbb).trans g2
          have g3' := (hbel.cell (p := ⟨bb, o + k * 6 + 3, none⟩) hbb).trans g3
          have g4' := (hbel.cell (p := ⟨bb, o + k * 6 + 4, none⟩) hbb).trans g4
          have g5' := (hbel.cell (p := ⟨bb, o + k * 6 + 5, none⟩) hbb).trans g5
          have n0 : (0 : Int) ≤ (k : Int) := by omega
          have n1 : (k : Int) < (c.ports.length : Int) := by omega
          have HXX := Lib.hid hx
          clear hbel hbb g0 g1 g2 g3 g4 g5 hx
          go_upto_region 10 with (fail)
          obtain ⟨W4, hW4, pb, hb4⟩ := PtBox.new wr x 43
          rw [hW4]
          have ST4 := Lib.hid (ST.out.up hb4)
          have PB4 := Lib.hid pb
          clear hW4 hb4 pb g0' g1' g2' g3' g4' g5' x0 x1 x2 x3 x4 x5 hz
          rcases source_of HRT.out HXX.out with hno | ⟨s2, j, p, hyes, hidx, hjp, hxo, hpo, hpq, hpsz⟩
          · have HNO := Lib.hid hno
            clear hno
            obtain ⟨x0, x1, x2, x3, x4, x5, hz⟩ := ST4.out.cells
            obtain ⟨p0, p1, p2, p3, p4, p5, hg⟩ := PB4.out
            go_wp2_with fail
            refine (from_val c _ _ _ _ _ _ _ _ _ _ _ ST4.out.R hs x.id 0 false HNO).mono ?_
            rintro e w5 ⟨rfl, hb5⟩
            have ST5 := Lib.hid (ST4.out.up hb5)
            clear hb5 x0 x1 x2 x3 x4 x5 hz p0 p1 p2 p3 p4 p5 hg
            go_wp2
            go_roundw
            case rel => exact ⟨k + 1, by omega, by go_num, ST5⟩
            case measure => simp [intOf]; omega
          · have HYES := Lib.hid hyes
            have HIDX := Lib.hid hidx
            have HJP := Lib.hid hjp
            have HXO := Lib.hid hxo
            have HPO := Lib.hid hpo
            have HPQ := Lib.hid hpq
            have HPS := Lib.hid hpsz
            have hjl : j < c.ports.length := (List.getElem?_eq_some_iff.1 hjp).1
            clear hyes hidx hjp hxo hpo hpq hpsz
            obtain ⟨x0, x1, x2, x3, x4, x5, hz⟩ := ST4.out.cells
            obtain ⟨p0, p1, p2, p3, p4, p5, hg⟩ := PB4.out
            go_wp2_with fail
            refine (from_val c _ _ _ _ _ _ _ _ _ _ _ ST4.out.R hs x.id s2 true HYES).mono ?_
            rintro e w5 ⟨rfl, hb5⟩
            have ST5 := Lib.hid (ST4.out.up hb5)
            have PB5 := Lib.hid (PB4.out.up hb5)
            clear hb5 x0 x1 x2 x3 x4 x5 hz p0 p1 p2 p3 p4 p5 hg
            obtain ⟨x0, x1, x2, x3, x4, x5, hz⟩ := ST5.out.cells
            go_wp2_with fail
            refine (rPort_val c _ _ _ _ _ _ _ _ _ _ _ ST5.out.R hs s2 j HIDX).mono ?_
            rintro e w6 ⟨rfl, hb6⟩
            have ST6 := Lib.hid (ST5.out.up hb6)
            have PB6 := Lib.hid (PB5.out.up hb6)
            clear hb6 x0 x1 x2 x3 x4 x5 hz
            obtain ⟨x0, x1, x2, x3, x4, x5, hz⟩ := ST6.out.cells
            obtain ⟨p0, p1, p2, p3, p4, p5, hg⟩ := PB6.out
            obtain ⟨bq, oq, eq, hbq, r0, r1, r2, r3, r4, r5⟩ := prt_at ST6.out.R.ports HJP.out
            obtain ⟨rfl, rfl⟩ : bb = bq ∧ o = oq := by simpa using eq
            rw [HXO.out] at p3
            rw [HPO.out] at r3
            rw [HPQ.out] at r4
            rw [HPS.out] at r5
            have m0 : (0 : Int) ≤ (j : Int) := by omega
            have m1 : (j : Int) < (c.ports.length : Int) := by omega
            have mneg : decide ((j : Int) < 0) = false := decide_eq_false (by omega)
            clear eq r0 r1 r2 p0 p1 p2
            have hq : x.queuing = true ∨ x.queuing = false := by cases x.queuing <;> simp
            rcases hq with hq | hq
            all_goals
              rw [hq] at p4 r4
              clear hq
              go_wp2_with fail
              go_quiet (fail)
              clear x0 x1 x2 x3 x4 x5 hz p3 p4 p5 r3 r4 r5 hg
              go_wp2
              go_roundw
              case rel => exact ⟨k + 1, by omega, by go_num, Lib.hid (ST6.out.drewN _)⟩
              case measure => simp [intOf]; omega
        · obtain rfl : k = c.ports.length := by omega
          go_wp2_with fail
          refine (alive_ok _).mono ?_
          rintro e w5 ⟨rfl, hb5⟩
          have HZ := Lib.hid (ST.out.up hb5).bel
          clear hb5
          go_wp2
          go_ret
          exact ⟨rfl, HZ.out⟩
  · have H1 := Lib.hid h1
    clear h1
    go_enter Try.func4, Try.ntmps4
    go_upto_region 1 with (fail)
    rw [HW.out]
    go_wp2_with fail
    refine (good_val c _ _ _ _ _ _ _ _ _ _ _ ST0.out.R hs false H1).mono ?_
    rintro e w1 ⟨rfl, hb1⟩
    have HB1 := Lib.hid (ST0.out.up hb1).bel
    clear hb1 x0 x1 x2 x3 x4 x5 hz
    go_wp2_with fail
    refine (alive_ok _).mono ?_
    rintro e w2 ⟨rfl, hb2⟩
    have HZ := Lib.hid (Below.then_ HB1.out hb2)
    clear hb2
    go_wp2
    go_ret
    exact ⟨rfl, HZ.out⟩
end Go.Proofs.Ytifmcdnaaaphmaa
