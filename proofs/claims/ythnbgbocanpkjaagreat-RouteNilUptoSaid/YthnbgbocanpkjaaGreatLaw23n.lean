/-
  The law RouteNil of the chapter of layer 23, walked.
-/
import Derived.BigQuiet
import Derived.Deep.RegionHeld3
import Derived.Test.YthnbgbocanpkjaaGreatLaw23b
import Derived.Test.YthnbgbocanpkjaaGreatRoutG
import Derived.Test.YthnbgbocanpkjaaGreatYStP
namespace Go.Proofs.YthnbgbocanpkjaaGreat
open Go.RowKit Go.Lib
/-- where the destinations of a clone lie -/
def LoA (lo : Nat) (L : List CE) : Prop := ∀ e ∈ L, ∀ b o, e.A = some ⟨b, o, none⟩ → 0 < e.x.dests.length → b < lo
theorem loA_of {W : World} {B : Nat} {L : List CE} (h : ChnsO W B L) : LoA W.heap.size L := fun e he b o hA hn => by
  obtain ⟨g, cap, hv, _, hlt⟩ := (h.own e he).form hn
  have h1 : (Value.slice e.A e.x.dests.length e.c) = .slice (some ⟨g, 0, none⟩) e.x.dests.length cap := hv
  injection h1 with h1
  rw [hA] at h1
  injection h1 with h1
  injection h1 with h1
  omega
theorem LoA.set {lo : Nat} {L : List CE} (h : LoA lo L) {k : Nat} {e e' : CE} (hk : L[k]? = some e) (hA : e'.A = e.A) (hl : e'.x.dests.length = e.x.dests.length) : LoA lo (L.set k e') := fun a ha b o hb hn => by
  rcases List.mem_or_eq_of_mem_set ha with h1 | rfl
  · exact h a h1 b o hb hn
  · exact h e (List.mem_of_getElem? hk) b o (by rw [← hA]; exact hb) (by rw [← hl]; exact hn)
set_option maxRecDepth 100000 in
set_option maxHeartbeats 16000000 in
theorem routeNil_ok (c : Cfg) (A1 A2 A3 A4 A5 : Option Addr) (c1 c2 c3 c4 c5 : Nat) (w : World) (hR : CfgR w w.heap.size c A1 A2 A3 A4 A5 c1 c2 c3 c4 c5) (hs : c.small) (hok : c.ok) (id : Int) (hid : wU16 id) : Calls Tryz.prog 8 #[cfgV c.frame A1 A2 A3 A4 A5 c.parts.length c.wins.length c.regs.length c.ports.length c.chans.length c1 c2 c3 c4 c5, .int .u16 id] w fun e w' => e = .returned (.bool true) ∧ Below w.heap.size w w' := by
  obtain ⟨W0, hW, st⟩ := St.start_any hR 29
  have HW := Lib.hid hW
  have ST0 := Lib.hid st
  have HSM := Lib.hid hs
  have HOK := Lib.hid hok
  obtain ⟨x0, x1, x2, x3, x4, x5, hz⟩ := st.cells
  clear hR hW st hs hok
  rcases Bool.eq_false_or_eq_true (goodR c) with h1 | h1
  · have hr1 : rightR c = true := by unfold goodR at h1; simp at h1; exact h1.2
    have HR := Lib.hid hr1
    have HRR := Lib.hid (rightR_iff.1 hr1)
    have H1 := Lib.hid h1
    obtain ⟨ids, hids⟩ : ∃ ids, routeOf c id = ids := ⟨_, rfl⟩
    have hil : ids.length ≤ 1048576 := by rw [← hids]; exact route_len HSM.out id
    have HIDS := Lib.hid hids
    have bx := HSM.out.bd.x
    have HBD := Lib.hid HSM.out.bd.d
    clear h1 hr1 hids
    go_enter Tryz.func8, Tryz.ntmps8
    go_upto_region 1 with (fail)
    rw [HW.out]
    go_wp2_with fail
    refine (goodR_ok c _ _ _ _ _ _ _ _ _ _ _ ST0.out.R HSM.out true H1).mono ?_
    rintro e w1 ⟨rfl, hb1⟩
    have ST1 := Lib.hid (ST0.out.up hb1)
    clear hb1 x0 x1 x2 x3 x4 x5 hz
    obtain ⟨WA, rfl⟩ : ∃ WA, WA = w1 := ⟨_, rfl⟩
    obtain ⟨x0, x1, x2, x3, x4, x5, hz⟩ := ST1.out.cells
    go_wp2_with fail
    refine (cloneC_ok c A1 A2 A3 A4 A5 c1 c2 c3 c4 c5 WA ST1.out.R HSM.out.tot).mono ?_
    rintro e w2 ⟨Y1, Y2, Y3, Y4, Y5, y1, y2, y3, y4, y5, rfl, hO, hb2⟩
    obtain ⟨W3, L, hW3, hll, hlx, hyst⟩ := YSt.start (W3 := WA) hb2 hb2.size hO
    obtain ⟨W3', hW3', cb, _⟩ := CBx.new hO.toR 29
    obtain rfl : W3' = W3 := by rw [← hW3', ← hW3]
    have HW3 := Lib.hid hW3
    have HY3 := Lib.hid hyst
    have HLL := Lib.hid hll
    have HLX := Lib.hid hlx
    have CB := Lib.hid cb
    have HLO := Lib.hid (loA_of hyst.ch)
    clear x0 x1 x2 x3 x4 x5 hz hO hb2 hW3 hyst hlx hll hW3' cb
    go_upto_region 4 with (fail)
    rw [HW3.out]
    clear HW3
    generalize w2.heap.size = gx at *
    obtain ⟨x0, x1, x2, x3, x4, x5⟩ := CB.out.cells
    have hz := CB.out.z
    go_wp2_with fail
    refine (newR2_ok c Y1 Y2 Y3 Y4 Y5 y1 y2 y3 y4 y5 W3' CB.out.R HSM.out HOK.out true HR).mono ?_
    rintro e w4 ⟨hb4, ⟨h0, _⟩ | ⟨_, gr, rfl, _, hrow⟩⟩
    · cases h0
    have HY4 := Lib.hid (HY3.out.up hb4)
    have RW4 := Lib.hid hrow
    generalize W3'.heap.size = lo at *
    clear x0 x1 x2 x3 x4 x5 hz hb4 hrow HY3 CB
    have y5c := HY4.out.box.cell 5
    simp at y5c
    have hgl := HY4.out.box.lt
    have HDL := Lib.hid (show ∀ e ∈ L, e.x.dests.length ≤ 4194304 from fun e he => by
      have h := HBD.out e.x (by rw [← HLX.out]; exact List.mem_map.2 ⟨e, he, rfl⟩)
      omega)
    go_upto_region 7 with (fail)
    go_wp2_with fail
    clear y5c hgl HLX
    go_loopw [32] (fun i wr => ∃ (k : Nat) (L : List CE), k ≤ c.chans.length ∧ i = .int .i64 k ∧ L.length = c.chans.length ∧ Hid (∀ e ∈ L, e.x.dests.length ≤ 4194304) ∧ Hid (LoA lo L) ∧ Hid (RtRow wr lo gr c.norm) ∧ Hid (YSt WA.heap.size gx WA wr c.frame (.slice Y1 c.parts.length y1) (.slice Y2 c.wins.length y2) (.slice Y3 c.regs.length y3) (.slice Y4 c.ports.length y4) (.slice Y5 c.chans.length y5) c.parts c.wins c.regs c.ports L)) (fun i _ => c.chans.length - (intOf i).toNat)
    case atStart => exact ⟨0, L, Nat.zero_le _, rfl, HLL.out, HDL, HLO, RW4, HY4⟩
    case round =>
      clear HY4 RW4 HLO HDL HLL
      obtain ⟨k, L, hk, rfl, hl, HDL, HLO, RW, HY⟩ := hrel
      by_cases hlt : k < c.chans.length
      · obtain ⟨e, he⟩ := get_lt (l := L) (k := k) (by omega)
        have HE := Lib.hid he
        obtain ⟨b, cap, hv, _, hbl⟩ := HY.out.o5.form (by omega)
        injection hv with hv1 hv2 hv3
        subst hv1 hv3
        clear hv2
        have HLN := Lib.hid hl
        have hdl := HDL.out e (List.mem_of_getElem? he)
        have g0 := own_at0 CE.cells 3 (fun _ => rfl) HY.out.o5 hl.symm he 0 _ rfl (by decide)
        have g1 := own_at0 CE.cells 3 (fun _ => rfl) HY.out.o5 hl.symm he 1 _ rfl (by decide)
        have g2 := own_at0 CE.cells 3 (fun _ => rfl) HY.out.o5 hl.symm he 2 _ rfl (by decide)
        rw [Nat.add_zero] at g0
        have n0 : (0 : Int) ≤ (k : Int) := by omega
        have n1 : (k : Int) < (c.chans.length : Int) := by omega
        clear he hl
        go_upto_region 10 with (fail)
        have hba := below_one wr (.cells #[.int .u16 e.x.id, .int .u16 e.x.source, .slice e.A e.x.dests.length e.c] 64)
        have HYa := Lib.hid (HY.out.up hba)
        have RWa := Lib.hid (RW.out.up hba)
        have hbk := Blk.new wr 64 #[.int .u16 e.x.id, .int .u16 e.x.source, .slice e.A e.x.dests.length e.c]
        clear g0 g1 g2 HY RW hba
        generalize World.alloc wr _ = W5 at *
        generalize wr.heap.size = gd at *
        obtain ⟨ex, eA, ec⟩ := e
        simp only at hdl hbk HE ⊢
        have hq := hbk.cell 2
        simp at hq
        have hqlt := hbk.lt
        have HBK := Lib.hid hbk
        obtain ⟨m, hm⟩ : ∃ m, ex.dests.length = m := ⟨_, rfl⟩
        rw [hm] at hq HBK hdl
        try rw [hm]
        have HM := Lib.hid hm
        clear hm hbk
        go_upto_region 11 with (fail)
        clear hq hqlt
        go_loopw [39] (fun i wr => ∃ (j : Nat) (l : List Int), j ≤ m ∧ i = .int .i64 j ∧ l.length = m ∧ Hid (Blk wr gd 64 #[.int .u16 ex.id, .int .u16 ex.source, .slice eA m ec]) ∧ Hid (RtRow wr lo gr c.norm) ∧ Hid (YSt WA.heap.size gx WA wr c.frame (.slice Y1 c.parts.length y1) (.slice Y2 c.wins.length y2) (.slice Y3 c.regs.length y3) (.slice Y4 c.ports.length y4) (.slice (some ⟨b, 0, none⟩) c.chans.length y5) c.parts c.wins c.regs c.ports (L.set k ⟨{ ex with dests := l }, eA, ec⟩))) (fun i _ => m - (intOf i).toNat)
        case atStart => exact ⟨0, ex.dests, Nat.zero_le _, rfl, HM.out, HBK, RWa, Lib.hid (by
          have h : L.set k ⟨{ ex with dests := ex.dests }, eA, ec⟩ = L := by
            obtain ⟨hlk, hek⟩ := List.getElem?_eq_some_iff.1 HE.out
            rw [← hek]
            exact List.set_getElem_self hlk
          rw [h]
          exact HYa.out)⟩
        case round =>
          clear HBK HYa RWa
          obtain ⟨j, l, hj, rfl, hll, HBK, RWj, HYj⟩ := hrel
          have HLL := Lib.hid hll
          have hek := List.getElem?_set_self (l := L) (i := k) (a := (⟨{ ex with dests := l }, eA, ec⟩ : CE)) (by rw [HLN.out]; exact hlt)
          have HEK := Lib.hid hek
          by_cases hltj : j < m
          · have ho := HYj.out.ch.own _ (List.mem_of_getElem? hek)
            obtain ⟨b2, cap2, hv, _, hbl2⟩ := ho.form (by show 0 < l.length; omega)
            injection hv with hv1 hv2 hv3
            simp only at hv1 hv3
            subst hv1 hv3
            clear hv2
            obtain ⟨z, hz⟩ := get_lt (l := l) (k := j) (by omega)
            have hq2 : (CE.v ⟨{ ex with dests := l }, some ⟨b2, 0, none⟩, ec⟩) = .slice (some ⟨b2, 0, none⟩) l.length ec := rfl
            rw [hq2] at ho
            have g0 := intF_at (own_slice ho).2 hz
            rw [Nat.zero_add] at g0
            have f0 := World.ownsRow.frozenAt ho j
            have hq := HBK.out.cell 2
            simp at hq
            have hqlt := HBK.out.lt
            have hblo : b2 < lo := HLO.out _ (List.mem_of_getElem? HE.out) b2 0 rfl (by show 0 < ex.dests.length; rw [HM.out]; omega)
            have HOF := Lib.hid (fun u : Int => Off.of_own (v := .slice (some ⟨b2, 0, none⟩) l.length ec) ho (World.ownsRow.stored ho j (.int .u16 u)).2)
            have n0 : (0 : Int) ≤ (j : Int) := by omega
            have n1 : (j : Int) < (m : Int) := by omega
            clear ho hz hek hll hq2
            go_wp2
            go_roundw
            case rel => exact ⟨j + 1, l.set j (IntKind.u16.wrap (z + 1)), by omega, by go_num, by rw [List.length_set]; exact HLL.out, Lib.hid (HBK.out.off (HOF.out _) (by decide)), Lib.hid (RWj.out.set (HOF.out _) hblo), Lib.hid (by
              have h := YSt.incD (j := j) HYj.out HEK.out rfl (IntKind.u16.wrap (z + 1))
              rw [List.set_set] at h
              exact h)⟩
            case measure => simp [intOf]; omega
          · obtain rfl : j = m := by omega
            have HD2 := Lib.hid (show ∀ e ∈ L.set k ⟨{ ex with dests := l }, eA, ec⟩, e.x.dests.length ≤ 4194304 from fun e he => by
              rcases List.mem_or_eq_of_mem_set he with h | rfl
              · exact HDL.out e h
              · show l.length ≤ _
                rw [HLL.out]; exact hdl)
            have HLO2 := Lib.hid (HLO.out.set (e' := ⟨{ ex with dests := l }, eA, ec⟩) HE.out rfl (by show l.length = ex.dests.length; rw [HLL.out, HM.out]))
            clear hek hll
            go_wp2
            go_roundw
            case rel => exact ⟨k + 1, _, by omega, by go_num, by rw [List.length_set]; exact HLN.out, HD2, HLO2, RWj, HYj⟩
            case measure => simp [intOf]; omega
      · obtain rfl : k = c.chans.length := by omega
        have ST5 := Lib.hid (ST1.out.up HY.out.bel)
        clear HY HLO HDL hl
        obtain ⟨WQ, rfl⟩ : ∃ WQ, WQ = wr := ⟨_, rfl⟩
        go_wp2_with fail
        refine (mRouteRL c HRR.out HSM.out lo gr id hid WQ RW.out ids HIDS).mono ?_
        rintro e w5 ⟨LA, lc, rfl, hv, hb5⟩
        have HV := Lib.hid hv
        have HB5 := Lib.hid hb5
        clear hv hb5
        go_wp2_with fail
        go_loopw [56] (fun i wr => ∃ (j : Nat) (l : List Int), j ≤ ids.length ∧ i = .int .i64 j ∧ l.length = ids.length ∧ Hid (wr.ownsRow WQ.heap.size 34 1 (.slice LA ids.length lc) ids.length (l.map (Value.int .u16))) ∧ Hid (Below WQ.heap.size WQ wr)) (fun i _ => ids.length - (intOf i).toNat)
        case atStart => exact ⟨0, ids, Nat.zero_le _, rfl, rfl, HV, HB5⟩
        case round =>
          clear HV HB5
          obtain ⟨j, l, hj, rfl, hll, HV, HB⟩ := hrel
          by_cases hltj : j < ids.length
          · obtain ⟨z, hz⟩ := get_lt (l := l) (k := j) (by omega)
            obtain ⟨b2, cap2, hform, hb0, hbl2⟩ := HV.out.form (by omega)
            injection hform with e1 e2 e3
            subst e1 e3
            clear e2
            have g0 : wr.cell? ⟨b2, j, none⟩ = some (.int .u16 z) := by
              have := HV.out.cells (g := b2) rfl j (.int .u16 z) (by simp [hz])
              rwa [addr_add, Nat.zero_add] at this
            have f0 := World.ownsRow.frozenAt HV.out j
            have HLL := Lib.hid hll
            have HST := Lib.hid (fun u : Int => World.ownsRow.stored HV.out j (.int .u16 u))
            have n0 : (0 : Int) ≤ (j : Int) := by omega
            have n1 : (j : Int) < (ids.length : Int) := by omega
            clear hz hll
            go_wp2
            go_roundw
            case rel => exact ⟨j + 1, l.set j (IntKind.u16.wrap (z + 1)), by omega, by go_num, by rw [List.length_set]; exact HLL.out, Lib.hid (by rw [List.map_set]; exact (HST.out _).1), Lib.hid (HB.out.setCell hb0 _)⟩
            case measure => simp [intOf]; omega
          · obtain rfl : j = ids.length := by omega
            have ST6 := Lib.hid (ST5.out.up HB.out)
            have RW6 := Lib.hid (RW.out.up HB.out)
            clear HV HB hll
            go_wp2_with fail
            refine (mSource_nil id _).mono ?_
            rintro e w6 ⟨rfl, hb6⟩
            have ST7 := Lib.hid (ST6.out.up hb6)
            have RW7 := Lib.hid (RW6.out.up hb6)
            clear hb6
            go_wp2_with fail
            refine (mPort_nil id _).mono ?_
            rintro e w7 ⟨rfl, hb7⟩
            obtain ⟨W7, hW7, _, hb7'⟩ := PtBox.new w7 noPrt 41
            have HW7 := Lib.hid hW7
            have ST8 := Lib.hid ((ST7.out.up hb7).up hb7')
            have RW8 := Lib.hid ((RW7.out.up hb7).up hb7')
            clear hb7 hb7' hW7
            go_upto_region 25 with (fail)
            first | rw [HW7.out] | rw [show w7.alloc (.cells #[.int .u16 0, .int .u16 0, .string ⟨#[]⟩, .bool false, .bool false, .int .u32 0] 41) = W7 from HW7.out]
            go_wp2_with fail
            refine (mNamed_nil id _ _).mono ?_
            rintro e w8 ⟨rfl, hb8⟩
            obtain ⟨W8, hW8, _, hb8'⟩ := PtBox.new w8 noPrt 41
            have HW8 := Lib.hid hW8
            have ST9 := Lib.hid ((ST8.out.up hb8).up hb8')
            have RW9 := Lib.hid ((RW8.out.up hb8).up hb8')
            clear hb8 hb8' hW8
            go_upto_region 26 with (fail)
            first | rw [HW8.out] | rw [show w8.alloc (.cells #[.int .u16 0, .int .u16 0, .string ⟨#[]⟩, .bool false, .bool false, .int .u32 0] 41) = W8 from HW8.out]
            have KEEP : ∀ U, Below W8.heap.size W8 U → (fun U => U.cell? ⟨w.heap.size, 0, none⟩ = some (.int .u64 c.frame) ∧ U.cell? ⟨w.heap.size, 1, none⟩ = some (.slice A1 c.parts.length c1) ∧ U.cell? ⟨w.heap.size, 2, none⟩ = some (.slice A2 c.wins.length c2) ∧ U.cell? ⟨w.heap.size, 3, none⟩ = some (.slice A3 c.regs.length c3) ∧ U.cell? ⟨w.heap.size, 4, none⟩ = some (.slice A4 c.ports.length c4) ∧ U.cell? ⟨w.heap.size, 5, none⟩ = some (.slice A5 c.chans.length c5)) U := fun U hU => by
              obtain ⟨a0, a1, a2, a3, a4, a5, _⟩ := (ST9.out.up hU).cells
              exact ⟨a0, a1, a2, a3, a4, a5⟩
            have HKP := Lib.hid KEEP
            have HBW := Lib.hid (Below.refl W8.heap.size W8)
            obtain ⟨a0, a1, a2, a3, a4, a5⟩ := KEEP W8 (Below.refl _ _)
            clear KEEP
            go_region_held3 (fun U => U.cell? ⟨w.heap.size, 0, none⟩ = some (.int .u64 c.frame) ∧ U.cell? ⟨w.heap.size, 1, none⟩ = some (.slice A1 c.parts.length c1) ∧ U.cell? ⟨w.heap.size, 2, none⟩ = some (.slice A2 c.wins.length c2) ∧ U.cell? ⟨w.heap.size, 3, none⟩ = some (.slice A3 c.regs.length c3) ∧ U.cell? ⟨w.heap.size, 4, none⟩ = some (.slice A4 c.ports.length c4) ∧ U.cell? ⟨w.heap.size, 5, none⟩ = some (.slice A5 c.chans.length c5))
              (first | (refine HKP.out _ ?_; (repeat (first | with_reducible exact HBW.out | with_reducible exact Below.refl _ _ | with_reducible refine Below.drew ?_ | (with_reducible refine Below.alloc ?_ (by first | (simp; done) | (have hq := HBW.out.size; simp at hq ⊢; omega)) _) | (with_reducible refine Below.setCell ?_ (by first | (simp; done) | (have hq := HBW.out.size; simp at hq ⊢; omega)) _))); done) | go_keep)
              (first
              | (go_at_call 10; refine (alive_ok _).mono ?_; rintro e q1 ⟨rfl, hq⟩; have HBW := Lib.hid (Below.then_ (show Below W8.heap.size W8 _ from (by (repeat (first | with_reducible exact HBW.out | with_reducible exact Below.refl _ _ | with_reducible refine Below.drew ?_ | (with_reducible refine Below.alloc ?_ (by first | (simp; done) | (have hq := HBW.out.size; simp at hq ⊢; omega)) _) | (with_reducible refine Below.setCell ?_ (by first | (simp; done) | (have hq := HBW.out.size; simp at hq ⊢; omega)) _))))) hq); clear hq)
              | (go_at_call 25; ((with_reducible refine (mRouteRL c HRR.out HSM.out lo gr id hid _ (RW9.out.up (by (repeat (first | with_reducible exact HBW.out | with_reducible exact Below.refl _ _ | with_reducible refine Below.drew ?_ | (with_reducible refine Below.alloc ?_ (by first | (simp; done) | (have hq := HBW.out.size; simp at hq ⊢; omega)) _) | (with_reducible refine Below.setCell ?_ (by first | (simp; done) | (have hq := HBW.out.size; simp at hq ⊢; omega)) _))))) ids HIDS).mono ?_); rintro e q1 ⟨RA, ra, rfl, hra, hq⟩; have HA := Lib.hid (own_slice hra).2; have HAQ := Lib.hid hq; have HBW := Lib.hid (Below.then_ (show Below W8.heap.size W8 _ from (by (repeat (first | with_reducible exact HBW.out | with_reducible exact Below.refl _ _ | with_reducible refine Below.drew ?_ | (with_reducible refine Below.alloc ?_ (by first | (simp; done) | (have hq := HBW.out.size; simp at hq ⊢; omega)) _) | (with_reducible refine Below.setCell ?_ (by first | (simp; done) | (have hq := HBW.out.size; simp at hq ⊢; omega)) _))))) hq); clear hq hra))
              | (go_at_call 20; refine (rRouteL c _ _ _ _ _ _ _ _ _ _ _ (ST9.out.up (by (repeat (first | with_reducible exact HBW.out | with_reducible exact Below.refl _ _ | with_reducible refine Below.drew ?_ | (with_reducible refine Below.alloc ?_ (by first | (simp; done) | (have hq := HBW.out.size; simp at hq ⊢; omega)) _) | (with_reducible refine Below.setCell ?_ (by first | (simp; done) | (have hq := HBW.out.size; simp at hq ⊢; omega)) _))))).R HSM.out id ids HIDS).mono ?_; rintro e q1 ⟨RB, rb, rfl, hrb, hq⟩; have HB := Lib.hid hrb; have HBQ := Lib.hid hq; have HBW := Lib.hid (Below.then_ (show Below W8.heap.size W8 _ from (by (repeat (first | with_reducible exact HBW.out | with_reducible exact Below.refl _ _ | with_reducible refine Below.drew ?_ | (with_reducible refine Below.alloc ?_ (by first | (simp; done) | (have hq := HBW.out.size; simp at hq ⊢; omega)) _) | (with_reducible refine Below.setCell ?_ (by first | (simp; done) | (have hq := HBW.out.size; simp at hq ⊢; omega)) _))))) hq); clear hq hrb)
              | (go_at_call 19; ((with_reducible refine (eqU_same ids RA RB ra rb _ (by omega) (HA.out.up (by first | exact HBQ.out | exact Below.refl _ _)) (HB.out.up (by first | exact HAQ.out | exact Below.refl _ _))).mono ?_); rintro e q1 ⟨rfl, hq⟩; have HBW := Lib.hid (Below.then_ (show Below W8.heap.size W8 _ from (by (repeat (first | with_reducible exact HBW.out | with_reducible exact Below.refl _ _ | with_reducible refine Below.drew ?_ | (with_reducible refine Below.alloc ?_ (by first | (simp; done) | (have hq := HBW.out.size; simp at hq ⊢; omega)) _) | (with_reducible refine Below.setCell ?_ (by first | (simp; done) | (have hq := HBW.out.size; simp at hq ⊢; omega)) _))))) hq); clear hq))
              | (go_at_call 14; refine (mSend_nil id _ _ _).mono ?_; rintro e q1 ⟨rfl, hq⟩; have HBW := Lib.hid (Below.then_ (show Below W8.heap.size W8 _ from (by (repeat (first | with_reducible exact HBW.out | with_reducible exact Below.refl _ _ | with_reducible refine Below.drew ?_ | (with_reducible refine Below.alloc ?_ (by first | (simp; done) | (have hq := HBW.out.size; simp at hq ⊢; omega)) _) | (with_reducible refine Below.setCell ?_ (by first | (simp; done) | (have hq := HBW.out.size; simp at hq ⊢; omega)) _))))) hq); clear hq)
              | (go_at_call 25; ((with_reducible refine (mRoute_nil id _).mono ?_); rintro e q1 ⟨rfl, hq⟩; have HBW := Lib.hid (Below.then_ (show Below W8.heap.size W8 _ from (by (repeat (first | with_reducible exact HBW.out | with_reducible exact Below.refl _ _ | with_reducible refine Below.drew ?_ | (with_reducible refine Below.alloc ?_ (by first | (simp; done) | (have hq := HBW.out.size; simp at hq ⊢; omega)) _) | (with_reducible refine Below.setCell ?_ (by first | (simp; done) | (have hq := HBW.out.size; simp at hq ⊢; omega)) _))))) hq); clear hq))
              | (go_at_call 29; refine (mPorts_nil id _).mono ?_; rintro e q1 ⟨rfl, hq⟩; have HBW := Lib.hid (Below.then_ (show Below W8.heap.size W8 _ from (by (repeat (first | with_reducible exact HBW.out | with_reducible exact Below.refl _ _ | with_reducible refine Below.drew ?_ | (with_reducible refine Below.alloc ?_ (by first | (simp; done) | (have hq := HBW.out.size; simp at hq ⊢; omega)) _) | (with_reducible refine Below.setCell ?_ (by first | (simp; done) | (have hq := HBW.out.size; simp at hq ⊢; omega)) _))))) hq); clear hq)
              | fail)
            all_goals
              go_wp2
              go_ret
              exact ⟨rfl, Below.then_ ST9.out.bel HBW.out⟩
  · have H1 := Lib.hid h1
    clear h1
    go_enter Tryz.func8, Tryz.ntmps8
    go_upto_region 1 with (fail)
    rw [HW.out]
    go_wp2_with fail
    refine (goodR_ok c _ _ _ _ _ _ _ _ _ _ _ ST0.out.R HSM.out false H1).mono ?_
    rintro e w1 ⟨rfl, hb1⟩
    have HB1 := Lib.hid (ST0.out.up hb1).bel
    clear hb1 x0 x1 x2 x3 x4 x5 hz
    go_wp2_with fail
    refine (alive_ok _).mono ?_
    rintro e w2 ⟨rfl, hb2⟩
    have HZ := Lib.hid (Below.then_ HB1.out hb2)
    clear hb2
    go_wp2
    go_ret
    exact ⟨rfl, HZ.out⟩
end Go.Proofs.YthnbgbocanpkjaaGreat
