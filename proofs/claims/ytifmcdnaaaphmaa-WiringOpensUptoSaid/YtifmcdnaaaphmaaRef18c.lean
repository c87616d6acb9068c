/-
  What the reference of layer 18 (wiring) computes, walked once: dest, channel, Channels, Right.
-/
import Derived.Test.YtifmcdnaaaphmaaRef18b
import Derived.Test.YtifmcdnaaaphmaaAppend
import Derived.Deep.RegionHeld3
import Derived.Deep.CutBlock
import Derived.Deep.DeepCutAuto
namespace Go.Proofs.Ytifmcdnaaaphmaa
open Go.RowKit
attribute [local go_sem] ext_cell
theorem rPort_val (c : Cfg) (A1 A2 A3 A4 A5 : Option Addr) (c1 c2 c3 c4 c5 : Nat) (w : World) (hR : CfgR w w.heap.size c A1 A2 A3 A4 A5 c1 c2 c3 c4 c5) (hs : c.small) (id : Int) (v : Int) (hv : Hid (idx (fun x => x.id == id) c.ports = v)) :
    Calls Try.prog 18 #[cfgV c.frame A1 A2 A3 A4 A5 c.parts.length c.wins.length c.regs.length c.ports.length c.chans.length c1 c2 c3 c4 c5, .int .u16 id] w fun e w' => e = .returned (.int .i64 v) ∧ Below w.heap.size w w' := by
  have h := rPort_ok c A1 A2 A3 A4 A5 c1 c2 c3 c4 c5 w hR hs id
  rwa [hv.out] at h
theorem uses_val (c : Cfg) (A1 A2 A3 A4 A5 : Option Addr) (c1 c2 c3 c4 c5 : Nat) (w : World) (hR : CfgR w w.heap.size c A1 A2 A3 A4 A5 c1 c2 c3 c4 c5) (hs : c.small) (n : Nat) (hn : n ≤ c.chans.length) (id : Int) (v : Bool) (hv : Hid (usesL (c.chans.take n) id = v)) :
    Calls Try.prog 53 #[cfgV c.frame A1 A2 A3 A4 A5 c.parts.length c.wins.length c.regs.length c.ports.length c.chans.length c1 c2 c3 c4 c5, .int .i64 n, .int .u16 id] w fun e w' => e = .returned (.bool v) ∧ Below w.heap.size w w' := by
  have h := uses_ok c A1 A2 A3 A4 A5 c1 c2 c3 c4 c5 w hR hs n hn id
  rwa [hv.out] at h
theorem Rd.take {w : World} {B n : Nat} {A : Option Addr} {l : List Int} (h : Rd w B 1 A n (l.map (Value.int .u16))) {k : Nat} (hk : k ≤ n) : Rd w B 1 A k ((l.take k).map (Value.int .u16)) := by
  have h1 := h.1
  simp only [List.length_map, Nat.mul_one] at h1
  refine ⟨by simp; omega, fun hp => ?_⟩
  obtain ⟨b, o, e, hb, hc⟩ := h.2 (by omega)
  refine ⟨b, o, e, hb, fun j u hu => hc j u ?_⟩
  rw [List.getElem?_map, List.getElem?_take] at hu
  split at hu
  · rw [List.getElem?_map]; exact hu
  · cases hu
theorem rDest_19 {c : Cfg} {i k : Nat} {x : Chn} {d : Int} (h : portOf c d = none) : rDest c i x k d = 19 := by simp [rDest, h]
theorem rDest_25 {c : Cfg} {i k : Nat} {x : Chn} {d : Int} {p : Prt} (h : portOf c d = some p) (ho : p.output = true) : rDest c i x k d = 25 := by simp [rDest, h, ho]
theorem rDest_26 {c : Cfg} {i k : Nat} {x : Chn} {d : Int} {p s : Prt} (h : portOf c d = some p) (ho : p.output = false) (hs : thePort c x.source = s) (hk : sameKind s p = false) : rDest c i x k d = 26 := by simp [rDest, h, ho, hs, hk]
theorem rDest_27a {c : Cfg} {i k : Nat} {x : Chn} {d : Int} {p s : Prt} (h : portOf c d = some p) (ho : p.output = false) (hs : thePort c x.source = s) (hk : sameKind s p = true) (hu : usesL (c.chans.take i) p.id = true) : rDest c i x k d = 27 := by simp [rDest, h, ho, hs, hk, hu]
theorem rDest_27b {c : Cfg} {i k : Nat} {x : Chn} {d : Int} {p s : Prt} (h : portOf c d = some p) (ho : p.output = false) (hs : thePort c x.source = s) (hk : sameKind s p = true) (hu : hasI (x.dests.take k) p.id = true) : rDest c i x k d = 27 := by
  have hu' : (x.dests.take k).contains p.id = true := hu
  simp only [rDest, h, ho, hs, hk, hu', Bool.or_true, if_true]; rfl
theorem rDest_0 {c : Cfg} {i k : Nat} {x : Chn} {d : Int} {p s : Prt} (h : portOf c d = some p) (ho : p.output = false) (hs : thePort c x.source = s) (hk : sameKind s p = true) (hu : usesL (c.chans.take i) p.id = false) (hu2 : hasI (x.dests.take k) p.id = false) : rDest c i x k d = 0 := by
  have hu' : (x.dests.take k).contains p.id = false := hu2
  simp only [rDest, h, ho, hs, hk, hu, hu', Bool.or_false, if_true]; rfl
theorem sameKind_q {s p : Prt} (h : p.queuing ≠ s.queuing) : sameKind s p = false := by simp [sameKind, h]
theorem sameKind_s {s p : Prt} (h : p.size ≠ s.size) : sameKind s p = false := by simp [sameKind, h]
theorem sameKind_y {s p : Prt} (h1 : p.queuing = s.queuing) (h : p.size = s.size) : sameKind s p = true := by simp [sameKind, h, h1]
set_option maxRecDepth 100000 in
set_option maxHeartbeats 4000000 in
theorem dest18_ok (c : Cfg) (A1 A2 A3 A4 A5 : Option Addr) (c1 c2 c3 c4 c5 : Nat) (w : World) (hR : CfgR w w.heap.size c A1 A2 A3 A4 A5 c1 c2 c3 c4 c5) (hs : c.small) (i : Nat) (x : Chn) (hx : c.chans[i]? = some x) (k : Nat) (dd : Int) (hd : x.dests[k]? = some dd) (ks : Nat) (s : Prt) (hks : idx (fun y => y.id == x.source) c.ports = (ks : Int)) (hps : c.ports[ks]? = some s) (hst : thePort c x.source = s) :
    Calls Try.prog 56 #[cfgV c.frame A1 A2 A3 A4 A5 c.parts.length c.wins.length c.regs.length c.ports.length c.chans.length c1 c2 c3 c4 c5, .int .i64 i, .int .i64 k] w fun e w' => e = .returned (.int .i64 (rDest c i x k dd)) ∧ Below w.heap.size w w' := by
  have hbd := hs.bd
  obtain ⟨W0, hW, st⟩ := St.start_any hR 29
  have HW := Lib.hid hW
  have bt := hbd.t
  have bx := hbd.x
  have hil : i < c.chans.length := (List.getElem?_eq_some_iff.1 hx).1
  have hdl := hbd.d x (List.mem_of_getElem? hx)
  have hkl : k < x.dests.length := (List.getElem?_eq_some_iff.1 hd).1
  have hksl : ks < c.ports.length := (List.getElem?_eq_some_iff.1 hps).1
  have HX := Lib.hid hx
  have HD := Lib.hid hd
  have HK := Lib.hid hks
  have HP := Lib.hid hps
  have HT := Lib.hid hst
  clear hR hbd hx hd hks hps hst hW
  obtain ⟨cs, hC, hr⟩ := st.R.chans
  obtain ⟨b, o, rfl, hb, g0, g1, D, d, g2, hd1, hd2, hD⟩ := chn_at hC hr HX.out
  obtain ⟨bp, op, rfl, hbp, p0, p1, p2, p3, p4, p5⟩ := prt_at st.R.ports HP.out
  obtain ⟨x0, x1, x2, x3, x4, x5, hz⟩ := st.cells
  have HDD := Lib.hid hD
  have ST0 := Lib.hid st
  clear hC hr hD st
  go_enter Try.func56, Try.ntmps56
  go_upto_region 1 with (fail)
  rw [HW.out]
  go_upto_region 2 with (fail)
  obtain ⟨W1, hW1, cb, hb1⟩ := ChBox.new W0 x D d 55
  rw [hW1]
  have st := ST0.out.up hb1
  have HDD1 := Lib.hid (HDD.out.up hb1)
  clear hW1 HDD g0 g1 g2 x0 x1 x2 x3 x4 x5 hz hb p0 p1 p2 p3 p4 p5
  obtain ⟨bp2, op2, e2, hbp2, p0, p1, p2, p3, p4, p5⟩ := prt_at st.R.ports HP.out
  obtain ⟨rfl, rfl⟩ : bp = bp2 ∧ op = op2 := by simpa using e2
  obtain ⟨x0, x1, x2, x3, x4, x5, hz⟩ := st.cells
  obtain ⟨y0, y1, y2, hz1⟩ := cb
  have ST1 := Lib.hid st
  clear st e2 ST0 HW hb1
  have n0 : (0 : Int) ≤ (ks : Int) := by omega
  have n1 : (ks : Int) < (c.ports.length : Int) := by omega
  have KEEP : ∀ V, Below W1.heap.size W1 V → (fun w' => w'.cell? ⟨w.heap.size, 0, none⟩ = some (.int .u64 c.frame) ∧ w'.cell? ⟨w.heap.size, 1, none⟩ = some (.slice A1 c.parts.length c1) ∧ w'.cell? ⟨w.heap.size, 2, none⟩ = some (.slice A2 c.wins.length c2) ∧
      w'.cell? ⟨w.heap.size, 3, none⟩ = some (.slice A3 c.regs.length c3) ∧ w'.cell? ⟨w.heap.size, 4, none⟩ = some (.slice (some ⟨bp, op, none⟩) c.ports.length c4) ∧ w'.cell? ⟨w.heap.size, 5, none⟩ = some (.slice (some ⟨b, o, none⟩) c.chans.length c5) ∧
      w'.cell? ⟨W0.heap.size, 1, none⟩ = some (.int .u16 x.source) ∧ w'.cell? ⟨bp, op + ks * 6, none⟩ = some (.int .u16 s.id) ∧ w'.cell? ⟨bp, op + ks * 6 + 1, none⟩ = some (.int .u16 s.part) ∧ w'.cell? ⟨bp, op + ks * 6 + 2, none⟩ = some (.string s.name) ∧
      w'.cell? ⟨bp, op + ks * 6 + 3, none⟩ = some (.bool s.output) ∧ w'.cell? ⟨bp, op + ks * 6 + 4, none⟩ = some (.bool s.queuing) ∧ w'.cell? ⟨bp, op + ks * 6 + 5, none⟩ = some (.int .u32 s.size)) V := fun V hV => by
    have q : ∀ b o, b < W1.heap.size → V.cell? ⟨b, o, none⟩ = W1.cell? ⟨b, o, none⟩ := fun b o h => hV.cell (p := ⟨b, o, none⟩) h
    exact ⟨(q _ _ hz).trans x0, (q _ _ hz).trans x1, (q _ _ hz).trans x2, (q _ _ hz).trans x3, (q _ _ hz).trans x4, (q _ _ hz).trans x5, (q _ _ hz1).trans y1, (q _ _ hbp2).trans p0, (q _ _ hbp2).trans p1, (q _ _ hbp2).trans p2, (q _ _ hbp2).trans p3, (q _ _ hbp2).trans p4, (q _ _ hbp2).trans p5⟩
  have HKP := Lib.hid KEEP
  clear KEEP
  go_cut [8] (fun v W => ∃ g, v = .pointer (some ⟨g, 0, none⟩) ∧ Hid (Below W1.heap.size W1 W) ∧ Hid (PtBox W g s))
  case first =>
    go_region_held3 (fun w' => w'.cell? ⟨w.heap.size, 0, none⟩ = some (.int .u64 c.frame) ∧ w'.cell? ⟨w.heap.size, 1, none⟩ = some (.slice A1 c.parts.length c1) ∧ w'.cell? ⟨w.heap.size, 2, none⟩ = some (.slice A2 c.wins.length c2) ∧
      w'.cell? ⟨w.heap.size, 3, none⟩ = some (.slice A3 c.regs.length c3) ∧ w'.cell? ⟨w.heap.size, 4, none⟩ = some (.slice (some ⟨bp, op, none⟩) c.ports.length c4) ∧ w'.cell? ⟨w.heap.size, 5, none⟩ = some (.slice (some ⟨b, o, none⟩) c.chans.length c5) ∧
      w'.cell? ⟨W0.heap.size, 1, none⟩ = some (.int .u16 x.source) ∧ w'.cell? ⟨bp, op + ks * 6, none⟩ = some (.int .u16 s.id) ∧ w'.cell? ⟨bp, op + ks * 6 + 1, none⟩ = some (.int .u16 s.part) ∧ w'.cell? ⟨bp, op + ks * 6 + 2, none⟩ = some (.string s.name) ∧
      w'.cell? ⟨bp, op + ks * 6 + 3, none⟩ = some (.bool s.output) ∧ w'.cell? ⟨bp, op + ks * 6 + 4, none⟩ = some (.bool s.queuing) ∧ w'.cell? ⟨bp, op + ks * 6 + 5, none⟩ = some (.int .u32 s.size))
      (first | (refine HKP.out _ ?_; (repeat (first | with_reducible exact HBW.out | with_reducible exact Below.refl _ _ | with_reducible refine Below.drew ?_ | (with_reducible refine Below.alloc ?_ (by first | (simp; done) | (have hq := HBW.out.size; simp at hq ⊢; omega)) _) | (with_reducible refine Below.setCell ?_ (by first | (simp; done) | (have hq := HBW.out.size; simp at hq ⊢; omega)) _))); done) | go_keep)
      (first | (go_at_call 18; refine (rPort_val c _ _ _ _ _ _ _ _ _ _ _ (ST1.out.up (by repeat (first | with_reducible exact Below.refl _ _ | with_reducible refine Below.drew ?_ | (with_reducible refine Below.alloc ?_ (by simp) _) | (with_reducible refine Below.setCell ?_ (by simp) _)))).R hs x.source ks HK).mono ?_; rintro e w2 ⟨rfl, hb2⟩; have HBW := Lib.hid (Below.then_ (show Below W1.heap.size W1 _ from (by repeat (first | with_reducible exact Below.refl _ _ | with_reducible refine Below.drew ?_ | (with_reducible refine Below.alloc ?_ (by simp) _) | (with_reducible refine Below.setCell ?_ (by simp) _)))) hb2); (try (have bk : Blk w2 W1.heap.size 43 #[.int .u16 0, .int .u16 0, .string ⟨#[]⟩, .bool false, .bool false, .int .u32 0] := Blk.below (by exact Blk.new W1 _ _) hb2 (by simp); have k0 := bk.cell 0; have k1 := bk.cell 1; have k2 := bk.cell 2; have k3 := bk.cell 3; have k4 := bk.cell 4; have k5 := bk.cell 5; have kf := bk.frozen; have HBK := Lib.hid bk; clear bk; simp at k0 k1 k2 k3 k4 k5))))
    · go_wp2
      go_meet
      case rel => exact ⟨_, rfl, Lib.hid (by (repeat (first | with_reducible exact HBW.out | with_reducible exact Below.refl _ _ | with_reducible refine Below.drew ?_ | (with_reducible refine Below.alloc ?_ (by first | (simp; done) | (have hq := HBW.out.size; simp at hq ⊢; omega)) _) | (with_reducible refine Below.setCell ?_ (by first | (simp; done) | (have hq := HBW.out.size; simp at hq ⊢; omega)) _)))), Lib.hid (by refine ⟨?_, ?_, ?_, ?_, ?_, ?_, ?_⟩ <;> simp)⟩
    · go_wp2
      go_meet
      case rel => exact ⟨_, rfl, Lib.hid (by (repeat (first | with_reducible exact HBW.out | with_reducible exact Below.refl _ _ | with_reducible refine Below.drew ?_ | (with_reducible refine Below.alloc ?_ (by first | (simp; done) | (have hq := HBW.out.size; simp at hq ⊢; omega)) _) | (with_reducible refine Below.setCell ?_ (by first | (simp; done) | (have hq := HBW.out.size; simp at hq ⊢; omega)) _)))), Lib.hid (by
        have hb := (((((HBK.out.set_ 0 (.int .u16 s.id)).set_ 1 (.int .u16 s.part)).set_ 2 (.string s.name)).set_ 3 (.bool s.output)).set_ 4 (.bool s.queuing)).set_ 5 (.int .u32 s.size)
        have e := hb.cell
        have el := hb.lt
        refine ⟨?_, ?_, ?_, ?_, ?_, ?_, el⟩ <;> (rw [e]; simp))⟩
  case rest =>
    obtain ⟨g, rfl, hbw, pb⟩ := hcut
    have st := ST1.out.up hbw.out
    have cb2 : ChBox wc W0.heap.size x D d := ChBox.up ⟨y0, y1, y2, hz1⟩ hbw.out
    have HDD2 := Lib.hid (HDD1.out.up hbw.out)
    clear x0 x1 x2 x3 x4 x5 hz y0 y1 y2 hz1 p0 p1 p2 p3 p4 p5 hbp hbp2 HKP HDD1
    obtain ⟨bd, od, rfl, hbd, gd⟩ := int_at HDD2.out HD.out
    obtain ⟨x0, x1, x2, x3, x4, x5, hz⟩ := st.cells
    obtain ⟨y0, y1, y2, hz1⟩ := cb2
    have ST2 := Lib.hid st
    have CB2 := Lib.hid (show ChBox wc W0.heap.size x (some ⟨bd, od, none⟩) d from ⟨y0, y1, y2, hz1⟩)
    have k0 : (0 : Int) ≤ (k : Int) := by omega
    have k1 : (k : Int) < (x.dests.length : Int) := by omega
    clear st
    go_upto_region 3 with (fail)
    rcases idx_cases (fun y => y.id == dd) c.ports with ⟨h1, h2⟩ | ⟨kd, p, h1, hkd, h3, h4, h5⟩
    · have HI := Lib.hid h1
      have HF := Lib.hid (rDest_19 (c := c) (i := i) (k := k) (x := x) (d := dd) h2)
      clear h1 h2
      refine wp_region_ext (by kernel_rfl) (by kernel_rfl) ?_
      repeat (go_big_quiet_step ((go_at_call 18; exact Calls.quiet_ext (rPort_val c _ _ _ _ _ _ _ _ _ _ _ (ST2.out.ext _).R hs dd (-1) HI))))
      refine wpQuiet_nil ?_
      intro xq
      go_wp2
      go_ret
      exact ⟨ret_int HF.out.symm, (ST2.out.ext xq).bel⟩
    · have HI := Lib.hid h1
      have HPD := Lib.hid h3
      have HF := Lib.hid (show portOf c dd = some p from h4)
      clear h1 h3 h4 h5
      refine wp_region_ext (by kernel_rfl) (by kernel_rfl) ?_
      repeat (go_big_quiet_step ((go_at_call 18; exact Calls.quiet_ext (rPort_val c _ _ _ _ _ _ _ _ _ _ _ (ST2.out.ext _).R hs dd kd HI))))
      refine wpQuiet_nil ?_
      intro xq
      have st := ST2.out.ext xq
      have cb := CB2.out.up (ext_below _ xq)
      have pb2 := pb.out.up (ext_below _ xq)
      have HDD3 := Lib.hid (HDD2.out.up (ext_below _ xq))
      generalize ext wc xq = W3 at *
      clear x0 x1 x2 x3 x4 x5 hz y0 y1 y2 hz1 gd
      obtain ⟨bq, oq, eq, hbq, p0, p1, p2, p3, p4, p5⟩ := prt_at st.R.ports HPD.out
      obtain ⟨rfl, rfl⟩ : bp = bq ∧ op = oq := by simpa using eq
      obtain ⟨x0, x1, x2, x3, x4, x5, hz⟩ := st.cells
      obtain ⟨y0, y1, y2, hz1⟩ := cb
      obtain ⟨z0, z1, z2, z3, z4, z5, hz2⟩ := pb2
      have ST3 := Lib.hid st
      have m0 : (0 : Int) ≤ (kd : Int) := by omega
      have m1 : (kd : Int) < (c.ports.length : Int) := by omega
      have mneg : decide ((kd : Int) < 0) = false := decide_eq_false (by omega)
      clear st eq
      rcases Bool.eq_false_or_eq_true p.output with hpo | hpo
      · have HV := Lib.hid (rDest_25 (i := i) (k := k) (x := x) HF.out hpo)
        go_wp2
        go_ret
        exact ⟨ret_int HV.out.symm, (ST3.out.alloc _).bel⟩
      · by_cases hq : p.queuing = s.queuing
        · have hqb : (p.queuing != s.queuing) = false := by simp [hq]
          rcases beq_cases p.size s.size with hsz | hsz
          · have hszb : (p.size != s.size) = false := by simpa using hsz
            have hsk := sameKind_y hq (by simpa using hsz)
            have HQ := Lib.hid hq
            have HSK := Lib.hid hsk
            have HPO := Lib.hid hpo
            clear hq hsk
            go_upto_region 11 with (fail)
            generalize hW4 : World.alloc W3 _ = W4
            have hb4 : Below W3.heap.size W3 W4 := hW4 ▸ below_one _ _
            have pb4 : PtBox W4 W3.heap.size p := by rw [← hW4]; refine ⟨?_, ?_, ?_, ?_, ?_, ?_, ?_⟩ <;> simp [HPO.out, HQ.out]
            have st := ST3.out.up hb4
            have cb : ChBox W4 W0.heap.size x (some ⟨bd, od, none⟩) d := ChBox.up ⟨y0, y1, y2, hz1⟩ hb4
            have HDD4 := Lib.hid (HDD3.out.up hb4)
            clear x0 x1 x2 x3 x4 x5 hz y0 y1 y2 hz1 z0 z1 z2 z3 z4 z5 hz2 hW4 p0 p1 p2 p3 p4 p5
            obtain ⟨x0, x1, x2, x3, x4, x5, hz⟩ := st.cells
            obtain ⟨y0, y1, y2, hz1⟩ := cb
            obtain ⟨z0, z1, z2, z3, z4, z5, hz2⟩ := pb4
            have ST4 := Lib.hid st
            clear st
            have hub : usesL (c.chans.take i) p.id = true ∨ usesL (c.chans.take i) p.id = false := by cases usesL (c.chans.take i) p.id <;> simp
            rcases hub with hu | hu
            · have HU := Lib.hid hu
              have HV := Lib.hid (rDest_27a (k := k) HF.out HPO.out HT.out HSK.out hu)
              clear hu
              refine wp_region_ext (by kernel_rfl) (by kernel_rfl) ?_
              repeat (go_big_quiet_step ((go_at_call 53; exact Calls.quiet_ext (uses_val c _ _ _ _ _ _ _ _ _ _ _ (ST4.out.ext _).R hs i (by omega) p.id true HU))))
              refine wpQuiet_nil ?_
              intro xr
              go_wp2
              go_ret
              exact ⟨ret_int HV.out.symm, (ST4.out.ext xr).bel⟩
            · have HU := Lib.hid hu
              clear hu
              have hib : hasI (x.dests.take k) p.id = true ∨ hasI (x.dests.take k) p.id = false := by cases hasI (x.dests.take k) p.id <;> simp
              have htl : (x.dests.take k).length = k := by simp; omega
              have hin : ∀ (y : Ext W4) (cc : Nat), Calls Try.prog 42 #[.slice (some ⟨bd, od, none⟩) k cc, .int .u16 p.id] (ext W4 y) fun e w' => ∀ v, Hid (hasI (x.dests.take k) p.id = v) → e = .returned (.bool v) ∧ Below (ext W4 y).heap.size (ext W4 y) w' := fun y cc => by
                have h := in18_ok (x.dests.take k) (some ⟨bd, od, none⟩) cc p.id (ext W4 y) (by omega) (by rw [htl]; exact (HDD4.out.up (ext_below _ y)).take (by omega))
                rw [htl] at h
                exact h.mono fun e w' ⟨h1, h2⟩ v hv => ⟨by rw [h1, hv.out], h2⟩
              have HIN := Lib.hid hin
              clear hin htl
              rcases hib with hi | hi
              · have HI2 := Lib.hid hi
                have HV := Lib.hid (rDest_27b (i := i) HF.out HPO.out HT.out HSK.out hi)
                clear hi
                refine wp_region_ext (by kernel_rfl) (by kernel_rfl) ?_
                repeat (go_big_quiet_step ((first | (go_at_call 53; exact Calls.quiet_ext (uses_val c _ _ _ _ _ _ _ _ _ _ _ (ST4.out.ext _).R hs i (by omega) p.id false HU)) | (go_at_call 42; exact Calls.quiet_ext ((HIN.out _ _).mono fun _ _ h => h true HI2)))))
                refine wpQuiet_nil ?_
                intro xr
                go_wp2
                go_ret
                exact ⟨ret_int HV.out.symm, (ST4.out.ext xr).bel⟩
              · have HI2 := Lib.hid hi
                have HV := Lib.hid (rDest_0 HF.out HPO.out HT.out HSK.out HU.out hi)
                clear hi
                refine wp_region_ext (by kernel_rfl) (by kernel_rfl) ?_
                repeat (go_big_quiet_step ((first | (go_at_call 53; exact Calls.quiet_ext (uses_val c _ _ _ _ _ _ _ _ _ _ _ (ST4.out.ext _).R hs i (by omega) p.id false HU)) | (go_at_call 42; exact Calls.quiet_ext ((HIN.out _ _).mono fun _ _ h => h false HI2)))))
                refine wpQuiet_nil ?_
                intro xr
                go_wp2
                go_ret
                exact ⟨ret_int HV.out.symm, (ST4.out.ext xr).bel⟩
          · have hszb : (p.size != s.size) = true := by simpa using hsz
            have HV := Lib.hid (rDest_26 (i := i) (k := k) HF.out hpo HT.out (sameKind_s (by simpa using hsz)))
            have HQ := Lib.hid hq
            clear hq
            go_wp2
            all_goals first | (exfalso; exact ‹¬ p.queuing = s.queuing› HQ.out) | (go_ret; exact ⟨ret_int HV.out.symm, (ST3.out.alloc _).bel⟩)
        · have hqb : (p.queuing != s.queuing) = true := by simp [hq]
          have HV := Lib.hid (rDest_26 (i := i) (k := k) HF.out hpo HT.out (sameKind_q hq))
          have HQ := Lib.hid hq
          clear hq
          go_wp2
          all_goals first | (exfalso; exact HQ.out ‹p.queuing = s.queuing›) | (go_ret; exact ⟨ret_int HV.out.symm, (ST3.out.alloc _).bel⟩)
theorem rChan_19 {c : Cfg} {i : Nat} {x : Chn} (h : portOf c x.source = none) : rChan c i x = 19 := by simp [rChan, h]
theorem rChan_25 {c : Cfg} {i : Nat} {x : Chn} {s : Prt} (h : portOf c x.source = some s) (ho : s.output = false) : rChan c i x = 25 := by simp [rChan, h, ho]
theorem rChan_27 {c : Cfg} {i : Nat} {x : Chn} {s : Prt} (h : portOf c x.source = some s) (ho : s.output = true) (hu : usesL (c.chans.take i) x.source = true) : rChan c i x = 27 := by simp [rChan, h, ho, hu]
theorem rChan_28 {c : Cfg} {i : Nat} {x : Chn} {s : Prt} (h : portOf c x.source = some s) (ho : s.output = true) (hu : usesL (c.chans.take i) x.source = false) (hd : x.dests = []) : rChan c i x = 28 := by simp [rChan, h, ho, hu, hd]
theorem rChan_d {c : Cfg} {i : Nat} {x : Chn} {s : Prt} (h : portOf c x.source = some s) (ho : s.output = true) (hu : usesL (c.chans.take i) x.source = false) (hd : x.dests ≠ []) : rChan c i x = rDests c i x 0 x.dests := by simp [rChan, h, ho, hu, hd]
theorem rDests_hit {c : Cfg} {i k : Nat} {x : Chn} {d : Int} {v : Int} (h : v = rDests c i x k (x.dests.drop k)) (hx : x.dests[k]? = some d) (hp : rDest c i x k d ≠ 0) : v = rDest c i x k d := by
  rw [h, drop_cons hx, rDests, if_neg hp]
theorem rDests_miss {c : Cfg} {i k : Nat} {x : Chn} {d : Int} {v : Int} (h : v = rDests c i x k (x.dests.drop k)) (hx : x.dests[k]? = some d) (hp : rDest c i x k d = 0) : v = rDests c i x (k + 1) (x.dests.drop (k + 1)) := by
  rw [h, drop_cons hx, rDests, if_pos hp]
theorem rDests_end {c : Cfg} {i : Nat} {x : Chn} {v : Int} (h : v = rDests c i x x.dests.length (x.dests.drop x.dests.length)) : v = 0 := by
  rw [h, List.drop_length, rDests]
theorem dest18_val (c : Cfg) (A1 A2 A3 A4 A5 : Option Addr) (c1 c2 c3 c4 c5 : Nat) (w : World) (hR : CfgR w w.heap.size c A1 A2 A3 A4 A5 c1 c2 c3 c4 c5) (hs : c.small) (i : Nat) (x : Chn) (hx : c.chans[i]? = some x) (k : Nat) (dd : Int) (hd : x.dests[k]? = some dd) (ks : Nat) (s : Prt) (hks : idx (fun y => y.id == x.source) c.ports = (ks : Int)) (hps : c.ports[ks]? = some s) (hst : thePort c x.source = s) (v : Int) (hv : Hid (rDest c i x k dd = v)) :
    Calls Try.prog 56 #[cfgV c.frame A1 A2 A3 A4 A5 c.parts.length c.wins.length c.regs.length c.ports.length c.chans.length c1 c2 c3 c4 c5, .int .i64 i, .int .i64 k] w fun e w' => e = .returned (.int .i64 v) ∧ Below w.heap.size w w' := by
  have h := dest18_ok c A1 A2 A3 A4 A5 c1 c2 c3 c4 c5 w hR hs i x hx k dd hd ks s hks hps hst
  rwa [hv.out] at h
set_option maxRecDepth 100000 in
set_option maxHeartbeats 4000000 in
theorem channel18_ok (c : Cfg) (A1 A2 A3 A4 A5 : Option Addr) (c1 c2 c3 c4 c5 : Nat) (w : World) (hR : CfgR w w.heap.size c A1 A2 A3 A4 A5 c1 c2 c3 c4 c5) (hs : c.small) (i : Nat) (x : Chn) (hx : c.chans[i]? = some x) :
    Calls Try.prog 32 #[cfgV c.frame A1 A2 A3 A4 A5 c.parts.length c.wins.length c.regs.length c.ports.length c.chans.length c1 c2 c3 c4 c5, .int .i64 i] w fun e w' => e = .returned (.int .i64 (rChan c i x)) ∧ Below w.heap.size w w' := by
  have hbd := hs.bd
  obtain ⟨W0, hW, st⟩ := St.start_any hR 29
  have HW := Lib.hid hW
  have bt := hbd.t
  have bx := hbd.x
  have hil : i < c.chans.length := (List.getElem?_eq_some_iff.1 hx).1
  have hdl := hbd.d x (List.mem_of_getElem? hx)
  have HX := Lib.hid hx
  clear hR hbd hx hW
  obtain ⟨cs, hC, hr⟩ := st.R.chans
  obtain ⟨b, o, rfl, hb, g0, g1, D, d, g2, hd1, hd2, hD⟩ := chn_at hC hr HX.out
  obtain ⟨x0, x1, x2, x3, x4, x5, hz⟩ := st.cells
  have ST0 := Lib.hid st
  clear hC hr hD st
  go_enter Try.func32, Try.ntmps32
  go_upto_region 1 with (fail)
  rw [HW.out]
  go_upto_region 2 with (fail)
  obtain ⟨W1, hW1, cb, hb1⟩ := ChBox.new W0 x D d 55
  rw [hW1]
  have st := ST0.out.up hb1
  clear hW1 g0 g1 g2 x0 x1 x2 x3 x4 x5 hz hb
  obtain ⟨x0, x1, x2, x3, x4, x5, hz⟩ := st.cells
  have CB1 := Lib.hid cb
  obtain ⟨y0, y1, y2, hz1⟩ := cb
  have ST1 := Lib.hid st
  clear st ST0 HW hb1
  rcases idx_cases (fun y => y.id == x.source) c.ports with ⟨h1, h2⟩ | ⟨ks, s, h1, hkd, h3, h4, h5⟩
  · have HI := Lib.hid h1
    have HV := Lib.hid (rChan_19 (c := c) (i := i) (x := x) h2)
    clear h1 h2
    go_wp2_with (go_at_call 18; refine (rPort_val c _ _ _ _ _ _ _ _ _ _ _ ST1.out.R hs x.source (-1) HI).mono ?_; rintro e w2 ⟨rfl, hb2⟩)
    go_ret
    exact ⟨ret_int HV.out.symm, (ST1.out.up hb2).bel⟩
  · have HI := Lib.hid h1
    have HPS := Lib.hid h3
    have HF := Lib.hid (show portOf c x.source = some s from h4)
    have HT := Lib.hid (show thePort c x.source = s by simp [thePort, show portOf c x.source = some s from h4])
    clear h1 h3 h4 h5
    have m0 : (0 : Int) ≤ (ks : Int) := by omega
    have m1 : (ks : Int) < (c.ports.length : Int) := by omega
    have mneg : decide ((ks : Int) < 0) = false := decide_eq_false (by omega)
    go_wp2_with fail
    refine (rPort_val c _ _ _ _ _ _ _ _ _ _ _ ST1.out.R hs x.source ks HI).mono ?_
    rintro e w2 ⟨rfl, hb2⟩
    have st := ST1.out.up hb2
    have cb := CB1.out.up hb2
    have HB2 := Lib.hid hb2
    clear x0 x1 x2 x3 x4 x5 hz y0 y1 y2 hz1 hb2
    obtain ⟨bp, op, rfl, hbq, p0, p1, p2, p3, p4, p5⟩ := prt_at st.R.ports HPS.out
    obtain ⟨x0, x1, x2, x3, x4, x5, hz⟩ := st.cells
    have CB2 := Lib.hid cb
    obtain ⟨y0, y1, y2, hz1⟩ := cb
    have ST2 := Lib.hid st
    clear st
    rcases Bool.eq_false_or_eq_true s.output with hso | hso
    · have HSO := Lib.hid hso
      have hub : usesL (c.chans.take i) x.source = true ∨ usesL (c.chans.take i) x.source = false := by cases usesL (c.chans.take i) x.source <;> simp
      go_upto_region 7 with (fail)
      rcases hub with hu | hu
      · have HU := Lib.hid hu
        have HV := Lib.hid (rChan_27 HF.out HSO.out hu)
        clear hu
        go_wp2_with (go_at_call 53; refine (uses_val c _ _ _ _ _ _ _ _ _ _ _ ST2.out.R hs i (by omega) x.source true HU).mono ?_; rintro e w3 ⟨rfl, hb3⟩)
        go_ret
        exact ⟨ret_int HV.out.symm, (ST2.out.up hb3).bel⟩
      · have HU := Lib.hid hu
        clear hu
        go_wp2_with fail
        refine (uses_val c _ _ _ _ _ _ _ _ _ _ _ ST2.out.R hs i (by omega) x.source false HU).mono ?_
        rintro e w3 ⟨rfl, hb3⟩
        have st := ST2.out.up hb3
        have cb := CB2.out.up hb3
        clear x0 x1 x2 x3 x4 x5 hz y0 y1 y2 hz1 p0 p1 p2 p3 p4 p5
        obtain ⟨x0, x1, x2, x3, x4, x5, hz⟩ := st.cells
        have CB3 := Lib.hid cb
        obtain ⟨y0, y1, y2, hz1⟩ := cb
        have ST3 := Lib.hid st
        clear st hb3
        by_cases hd0 : x.dests.length = 0
        · have HV := Lib.hid (rChan_28 HF.out HSO.out HU.out (List.eq_nil_of_length_eq_zero hd0))
          have hd0' : ((x.dests.length : Int) == 0) = true := by simp [hd0]
          clear hd0
          go_wp2
          go_ret
          exact ⟨ret_int HV.out.symm, ST3.out.bel⟩
        · have HV := Lib.hid (rChan_d HF.out HSO.out HU.out (fun e => hd0 (by rw [e]; rfl)))
          have hd0' : ((x.dests.length : Int) == 0) = false := by simp; exact fun e => hd0 (by rw [e]; rfl)
          clear hd0
          go_wp2
          clear x0 x1 x2 x3 x4 x5 hz y0 y1 y2 hz1
          go_loopw [7] (fun j wr => ∃ k : Nat, k ≤ x.dests.length ∧ j = .int .i64 k ∧ Hid (rChan c i x = rDests c i x k (x.dests.drop k)) ∧ Hid (St w wr c A1 A2 A3 (some ⟨bp, op, none⟩) (some ⟨b, o, none⟩) c1 c2 c3 c4 c5) ∧ Hid (ChBox wr W0.heap.size x D d)) (fun j _ => x.dests.length - (intOf j).toNat)
          case atStart => exact ⟨0, Nat.zero_le _, rfl, HV, ST3, CB3⟩
          case round =>
            obtain ⟨k, hk, rfl, hrest, STr, CBr⟩ := hrel
            obtain ⟨x0, x1, x2, x3, x4, x5, hz⟩ := STr.out.cells
            obtain ⟨y0, y1, y2, hz1⟩ := CBr.out
            by_cases hlt : k < x.dests.length
            · obtain ⟨dd, hdd⟩ := get_lt hlt
              have HDD := Lib.hid hdd
              clear hdd
              by_cases he : rDest c i x k dd = 0
              · have HE := Lib.hid he
                clear he
                go_wp2_with (go_at_call 56; refine (dest18_val c _ _ _ _ _ _ _ _ _ _ _ STr.out.R hs i x HX.out k dd HDD.out ks s HI.out HPS.out HT.out 0 HE).mono ?_; rintro e w4 ⟨rfl, hb4⟩)
                go_roundw
                case rel => exact ⟨k + 1, by omega, by go_num, Lib.hid (rDests_miss hrest.out HDD.out HE.out), Lib.hid (STr.out.up hb4), Lib.hid (CBr.out.up hb4)⟩
                case measure => simp [intOf]; omega
              · have HE := Lib.hid (rDests_hit hrest.out HDD.out he)
                have hne : (rDest c i x k dd != 0) = true := by simpa using he
                clear he
                go_wp2_with (go_at_call 56; refine (dest18_ok c _ _ _ _ _ _ _ _ _ _ _ STr.out.R hs i x HX.out k dd HDD.out ks s HI.out HPS.out HT.out).mono ?_; rintro e w4 ⟨rfl, hb4⟩)
                go_ret
                exact ⟨ret_int HE.out.symm, (STr.out.up hb4).bel⟩
            · obtain rfl : k = x.dests.length := by omega
              go_wp2
              go_ret
              exact ⟨ret_int (rDests_end hrest.out).symm, STr.out.bel⟩
    · have HV := Lib.hid (rChan_25 (i := i) HF.out hso)
      go_wp2
      go_ret
      exact ⟨ret_int HV.out.symm, ST2.out.bel⟩
theorem rChans_hit {c : Cfg} {i : Nat} {x : Chn} {v : Int × Int} (h : v = rChans c i (c.chans.drop i)) (hx : c.chans[i]? = some x) (hp : rChan c i x ≠ 0) : v = (rChan c i x, (i : Int)) := by
  rw [h, drop_cons hx, rChans, if_neg hp]
theorem rChans_miss {c : Cfg} {i : Nat} {x : Chn} {v : Int × Int} (h : v = rChans c i (c.chans.drop i)) (hx : c.chans[i]? = some x) (hp : rChan c i x = 0) : v = rChans c (i + 1) (c.chans.drop (i + 1)) := by
  rw [h, drop_cons hx, rChans, if_pos hp]
theorem rChans_end {c : Cfg} {v : Int × Int} (h : v = rChans c c.chans.length (c.chans.drop c.chans.length)) : v = (0, 0) := by
  rw [h, List.drop_length, rChans]
theorem channel18_val (c : Cfg) (A1 A2 A3 A4 A5 : Option Addr) (c1 c2 c3 c4 c5 : Nat) (w : World) (hR : CfgR w w.heap.size c A1 A2 A3 A4 A5 c1 c2 c3 c4 c5) (hs : c.small) (i : Nat) (x : Chn) (hx : c.chans[i]? = some x) (v : Int) (hv : Hid (rChan c i x = v)) :
    Calls Try.prog 32 #[cfgV c.frame A1 A2 A3 A4 A5 c.parts.length c.wins.length c.regs.length c.ports.length c.chans.length c1 c2 c3 c4 c5, .int .i64 i] w fun e w' => e = .returned (.int .i64 v) ∧ Below w.heap.size w w' := by
  have h := channel18_ok c A1 A2 A3 A4 A5 c1 c2 c3 c4 c5 w hR hs i x hx
  rwa [hv.out] at h
set_option maxRecDepth 100000 in
set_option maxHeartbeats 4000000 in
theorem rChannels18_ok (c : Cfg) (A1 A2 A3 A4 A5 : Option Addr) (c1 c2 c3 c4 c5 : Nat) (w : World) (hR : CfgR w w.heap.size c A1 A2 A3 A4 A5 c1 c2 c3 c4 c5) (hs : c.small) :
    Calls Try.prog 12 #[cfgV c.frame A1 A2 A3 A4 A5 c.parts.length c.wins.length c.regs.length c.ports.length c.chans.length c1 c2 c3 c4 c5] w fun e w' => e = .returned (.tuple #[.int .i64 (rChanBad c).1, .int .i64 (rChanBad c).2]) ∧ Below w.heap.size w w' := by
  have hbd := hs.bd
  have ST0 := Lib.hid (St.start hR 29)
  have bx := hbd.x
  clear hR hbd
  go_enter Try.func12, Try.ntmps12
  go_wp2
  go_loopw [4] (fun j wr => ∃ k : Nat, k ≤ c.chans.length ∧ j = .int .i64 k ∧ Hid (rChanBad c = rChans c k (c.chans.drop k)) ∧ Hid (St w (wr) c A1 A2 A3 A4 A5 c1 c2 c3 c4 c5)) (fun j _ => c.chans.length - (intOf j).toNat)
  case atStart => exact ⟨0, Nat.zero_le _, rfl, Lib.hid rfl, ST0⟩
  case round =>
    obtain ⟨k, hk, rfl, hrest, ST⟩ := hrel
    obtain ⟨x0, x1, x2, x3, x4, x5, hz⟩ := ST.out.cells
    by_cases hlt : k < c.chans.length
    · obtain ⟨x, hx⟩ := get_lt hlt
      have HX := Lib.hid hx
      clear hx
      by_cases he : rChan c k x = 0
      · have HE := Lib.hid he
        clear he
        go_wp2_with (go_at_call 32; refine (channel18_val c _ _ _ _ _ _ _ _ _ _ _ ST.out.R hs k x HX.out 0 HE).mono ?_; rintro e w4 ⟨rfl, hb4⟩)
        go_roundw
        case rel => exact ⟨k + 1, by omega, by go_num, Lib.hid (rChans_miss hrest.out HX.out HE.out), Lib.hid (ST.out.up hb4)⟩
        case measure => simp [intOf]; omega
      · have HE := Lib.hid (rChans_hit hrest.out HX.out he)
        have hne : (rChan c k x != 0) = true := by simpa using he
        clear he
        go_wp2_with (go_at_call 32; refine (channel18_ok c _ _ _ _ _ _ _ _ _ _ _ ST.out.R hs k x HX.out).mono ?_; rintro e w4 ⟨rfl, hb4⟩)
        go_ret2
        refine ⟨?_, (ST.out.up hb4).bel⟩
        rw [HE.out]
        rfl
    · obtain rfl : k = c.chans.length := by omega
      go_wp2
      go_ret2
      refine ⟨?_, ST.out.bel⟩
      rw [rChans_end hrest.out]
      rfl
def rightB (c : Cfg) : Bool := uniqueB c && decide ((portBad c).1 = 0) && decide ((rChanBad c).1 = 0)
theorem unique_val (c : Cfg) (A1 A2 A3 A4 A5 : Option Addr) (c1 c2 c3 c4 c5 : Nat) (w : World) (hR : CfgR w w.heap.size c A1 A2 A3 A4 A5 c1 c2 c3 c4 c5) (hs : c.small) (v : Bool) (hv : Hid (uniqueB c = v)) :
    Calls Try.prog 30 #[cfgV c.frame A1 A2 A3 A4 A5 c.parts.length c.wins.length c.regs.length c.ports.length c.chans.length c1 c2 c3 c4 c5] w fun e w' => e = .returned (.bool v) ∧ Below w.heap.size w w' := by
  have h := unique_ok c A1 A2 A3 A4 A5 c1 c2 c3 c4 c5 w hR hs
  rwa [hv.out] at h
set_option maxRecDepth 100000 in
set_option maxHeartbeats 4000000 in
theorem right_ok (c : Cfg) (A1 A2 A3 A4 A5 : Option Addr) (c1 c2 c3 c4 c5 : Nat) (w : World) (hR : CfgR w w.heap.size c A1 A2 A3 A4 A5 c1 c2 c3 c4 c5) (hs : c.small) : Calls Try.prog 38 #[cfgV c.frame A1 A2 A3 A4 A5 c.parts.length c.wins.length c.regs.length c.ports.length c.chans.length c1 c2 c3 c4 c5] w fun e w' => e = .returned (.bool (rightB c)) ∧ Below w.heap.size w w' := by
  have ST0 := Lib.hid (St.start hR 29)
  clear hR
  go_enter Try.func38, Try.ntmps38
  have hub : uniqueB c = true ∨ uniqueB c = false := by cases uniqueB c <;> simp
  rcases hub with hu | hu
  · have HU := Lib.hid hu
    clear hu
    go_wp2_with fail
    refine (unique_val c _ _ _ _ _ _ _ _ _ _ _ ST0.out.R hs true HU).mono ?_
    rintro e w1 ⟨rfl, hb1⟩
    have ST1 := Lib.hid (ST0.out.up hb1)
    clear hb1
    obtain ⟨x0, x1, x2, x3, x4, x5, hz⟩ := ST1.out.cells
    go_wp2_with fail
    refine (rPorts18_ok c _ _ _ _ _ _ _ _ _ _ _ ST1.out.R hs).mono ?_
    rintro e w2 ⟨rfl, hb2⟩
    have ST2 := Lib.hid (ST1.out.up hb2)
    clear hb2 x0 x1 x2 x3 x4 x5 hz
    obtain ⟨x0, x1, x2, x3, x4, x5, hz⟩ := ST2.out.cells
    go_wp2_with fail
    refine (rChannels18_ok c _ _ _ _ _ _ _ _ _ _ _ ST2.out.R hs).mono ?_
    rintro e w3 ⟨rfl, hb3⟩
    have ST3 := Lib.hid (ST2.out.up hb3)
    clear hb3 x0 x1 x2 x3 x4 x5 hz
    by_cases h1 : (portBad c).1 = 0
    · by_cases h2 : (rChanBad c).1 = 0
      · have HV := Lib.hid (show rightB c = true by simp [rightB, HU.out, h1, h2])
        have h1' : ((portBad c).1 == 0) = true := by simp [h1]
        have h2' : ((rChanBad c).1 == 0) = true := by simp [h2]
        clear h1 h2
        go_wp2
        go_ret
        exact ⟨ret_bool HV.out.symm, ST3.out.bel⟩
      · have HV := Lib.hid (show rightB c = false by simp [rightB, h2])
        have h1' : ((portBad c).1 == 0) = true := by simp [h1]
        have h2' : ((rChanBad c).1 == 0) = false := by simp [h2]
        clear h1 h2
        go_wp2
        go_ret
        exact ⟨ret_bool HV.out.symm, ST3.out.bel⟩
    · have HV := Lib.hid (show rightB c = false by simp [rightB, h1])
      have h1' : ((portBad c).1 == 0) = false := by simp [h1]
      clear h1
      go_wp2
      go_ret
      exact ⟨ret_bool HV.out.symm, ST3.out.bel⟩
  · have HU := Lib.hid hu
    have HV := Lib.hid (show rightB c = false by simp [rightB, hu])
    clear hu
    go_wp2_with fail
    refine (unique_val c _ _ _ _ _ _ _ _ _ _ _ ST0.out.R hs false HU).mono ?_
    rintro e w1 ⟨rfl, hb1⟩
    go_wp2
    go_ret
    exact ⟨ret_bool HV.out.symm, (ST0.out.up hb1).bel⟩
end Go.Proofs.Ytifmcdnaaaphmaa
