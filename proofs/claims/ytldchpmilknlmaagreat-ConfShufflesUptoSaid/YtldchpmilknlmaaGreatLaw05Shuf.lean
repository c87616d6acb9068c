/-
  The laws of the chapter of layer 5: ConfShuffles, walked.
-/
import Derived.BigQuiet
import Derived.Deep.RegionHeld3
import Derived.IntWalk
import Derived.Test.YtldchpmilknlmaaGreatShufZ
namespace Go.Proofs.YtldchpmilknlmaaGreat
open Go.RowKit Go.Lib
attribute [local go_sem] ext_cell
set_option maxRecDepth 100000 in
set_option maxHeartbeats 16000000 in
theorem confShuffles_ok (c : Cfg) (A1 A2 A3 A4 A5 : Option Addr) (c1 c2 c3 c4 c5 : Nat) (w : World) (hR : CfgR w w.heap.size c A1 A2 A3 A4 A5 c1 c2 c3 c4 c5) (hs : c.small) (hok : c.ok) (k : Int) (hk : wU8 k) : Calls Tryz.prog 6 #[cfgV c.frame A1 A2 A3 A4 A5 c.parts.length c.wins.length c.regs.length c.ports.length c.chans.length c1 c2 c3 c4 c5, .int .u8 k] w fun e w' => e = .returned (.bool true) ∧ Below w.heap.size w w' := by
  have kb := Go.bounds_u8 hk
  have k0 : 0 ≤ k := kb.1
  have k255 : k ≤ 255 := kb.2
  have hwk : IntKind.i64.wrap k = k := IntWalk.i64_in _ (by omega)
  obtain ⟨W0, hW, st⟩ := St.start_any hR 29
  have HW := Lib.hid hW
  have ST0 := Lib.hid st
  obtain ⟨x0, x1, x2, x3, x4, x5, hz⟩ := st.cells
  have ht : c.total ≤ 4194304 := hs.tot
  clear hR hW st
  rcases Bool.eq_false_or_eq_true (few c) with h1 | h1
  · have H1 := Lib.hid h1
    have HTT := Lib.hid ht
    have HOK := Lib.hid hok
    have HSM := Lib.hid hs
    have bx : c.chans.length ≤ 1048576 := hs.bd.x
    have bp : c.parts.length ≤ 1048576 := hs.bd.p
    have bw : c.wins.length ≤ 1048576 := hs.bd.w
    have br : c.regs.length ≤ 1048576 := hs.bd.r
    have bt : c.ports.length ≤ 1048576 := hs.bd.t
    clear h1 hok ht hs
    go_enter Tryz.func6, Tryz.ntmps6
    go_upto_region 1 with (fail)
    rw [HW.out]
    go_wp2_with fail
    refine (few_valB c _ _ _ _ _ _ _ _ _ _ _ ST0.out.R HSM.out true H1).mono ?_
    rintro e0 w1 ⟨rfl, hb1⟩
    have ST1 := Lib.hid (ST0.out.up hb1)
    clear hb1 x0 x1 x2 x3 x4 x5 hz
    obtain ⟨x0, x1, x2, x3, x4, x5, hz⟩ := ST1.out.cells
    obtain ⟨WA, rfl⟩ : ∃ WA, WA = w1 := ⟨_, rfl⟩
    go_wp2_with fail
    refine (cloneC_ok c A1 A2 A3 A4 A5 c1 c2 c3 c4 c5 WA ST1.out.R HTT.out).mono ?_
    rintro e w2 ⟨Y1, Y2, Y3, Y4, Y5, y1, y2, y3, y4, y5, rfl, hO, hb2⟩
    obtain ⟨W3, L, hW3, hll, hlx, hyst⟩ := YSt.start (W3 := WA) hb2 hb2.size hO
    have hlm := hlx
    have HW3 := Lib.hid hW3
    have HY := Lib.hid hyst
    have HLL := Lib.hid hll
    have HLM := Lib.hid hlm
    have CC := Lib.hid ST1.out.cbx
    have HZA := Lib.hid ST1.out.bel
    clear x0 x1 x2 x3 x4 x5 hz hO hb2 hW3 hyst hlx hll hlm
    go_upto_region 4 with (fail)
    rw [HW3.out]
    clear HW3
    generalize w2.heap.size = gx at *
    have y5c := HY.out.box.cell 5
    simp at y5c
    have hgl := HY.out.box.lt
    have HLS := Lib.hid (show L.map (fun e => sortD e.x) = c.chans.map sortD by rw [← HLM.out, List.map_map]; rfl)
    go_upto_region 5 with (fail)
    clear y5c hgl
    go_loopw [19] (fun i wr => ∃ (j : Nat) (L : List CE), j ≤ c.chans.length ∧ i = .int .i64 j ∧ L.length = c.chans.length ∧ Hid (L.map (fun e => sortD e.x) = c.chans.map sortD) ∧ Hid (YSt WA.heap.size gx WA wr c.frame (.slice Y1 c.parts.length y1) (.slice Y2 c.wins.length y2) (.slice Y3 c.regs.length y3) (.slice Y4 c.ports.length y4) (.slice Y5 c.chans.length y5) c.parts c.wins c.regs c.ports L)) (fun i _ => c.chans.length - (intOf i).toNat)
    case atStart => exact ⟨0, L, Nat.zero_le _, rfl, HLL.out, HLS, HY⟩
    case round =>
      clear HY HLS HLL HLM
      obtain ⟨j, L, hj, rfl, hl, HLS, HY⟩ := hrel
      by_cases hlt : j < c.chans.length
      · obtain ⟨e, he⟩ := get_lt (l := L) (k := j) (by omega)
        have HE := Lib.hid he
        have hdl : e.x.dests.length ≤ 4194304 := by
          have h1 : sortD e.x ∈ c.chans.map sortD := by rw [← HLS.out]; exact List.mem_map.2 ⟨e, List.mem_of_getElem? he, rfl⟩
          obtain ⟨y, hy, hye⟩ := List.mem_map.1 h1
          have h2 := HSM.out.bd.d y hy
          have h3 : y.dests.length = e.x.dests.length := by have := congrArg (fun z : Chn => z.dests.length) hye; simpa [sortD, List.length_mergeSort] using this
          omega
        obtain ⟨b, cap, hv, _, hbl⟩ := HY.out.o5.form (by omega)
        injection hv with hv1 hv2 hv3
        subst hv1 hv3
        clear hv2
        have HLN := Lib.hid hl
        have g0 := own_at0 CE.cells 3 (fun _ => rfl) HY.out.o5 hl.symm he 0 _ rfl (by decide)
        have g1 := own_at0 CE.cells 3 (fun _ => rfl) HY.out.o5 hl.symm he 1 _ rfl (by decide)
        have g2 := own_at0 CE.cells 3 (fun _ => rfl) HY.out.o5 hl.symm he 2 _ rfl (by decide)
        rw [Nat.add_zero] at g0
        have n0 : (0 : Int) ≤ (j : Int) := by omega
        have n1 : (j : Int) < (c.chans.length : Int) := by omega
        clear he hl
        go_upto_region 7 with (fail)
        have hba := below_one wr (.cells #[.int .u16 e.x.id, .int .u16 e.x.source, .slice e.A e.x.dests.length e.c] 46)
        have HYa := Lib.hid (HY.out.up hba)
        have hbk := Blk.new wr 46 #[.int .u16 e.x.id, .int .u16 e.x.source, .slice e.A e.x.dests.length e.c]
        clear g0 g1 g2 HY hba
        generalize World.alloc wr _ = W5 at *
        generalize wr.heap.size = gd at *
        have hq := hbk.cell 2
        simp at hq
        have hqlt := hbk.lt
        clear hbk
        go_wp2_with fail
        refine (rev16_own (HYa.out.ch.own e (List.mem_of_getElem? HE.out)) hdl).mono ?_
        rintro r w6 ⟨rfl, ho, hg⟩
        have HY6 := Lib.hid (YSt.revD HYa.out HE.out ho hg)
        have HLS6 := Lib.hid (show (L.set j ⟨{ e.x with dests := e.x.dests.reverse }, e.A, e.c⟩).map (fun e => sortD e.x) = c.chans.map sortD by
          rw [List.map_set, ← HLS.out, sortD_rev]
          obtain ⟨hlk, hek⟩ := List.getElem?_eq_some_iff.1 HE.out
          have h : sortD e.x = (L.map (fun e => sortD e.x))[j]'(by simpa using hlk) := by simp [hek]
          rw [h]
          exact List.set_getElem_self _)
        clear hq hqlt ho hg
        go_wp2
        go_roundw
        case rel => exact ⟨j + 1, _, by omega, by go_num, by rw [List.length_set]; exact HLN.out, HLS6, HY6⟩
        case measure => simp [intOf]; omega
      · obtain rfl : j = c.chans.length := by omega
        have HLN := Lib.hid hl
        have y1c := HY.out.box.cell 1
        simp at y1c
        have hgl := HY.out.box.lt
        clear hl
        go_wp2_with fail
        refine (revPar_own HY.out.o1 (by omega)).mono ?_
        rintro r w4 ⟨rfl, ho, hof, hb⟩
        have Y4 := Lib.hid (YSt.mv1 (P' := c.parts.reverse) HY.out hb hof (by rw [List.length_reverse]; exact ho))
        clear y1c hgl ho hof hb HY
        have y3c := Y4.out.box.cell 3
        simp at y3c
        have hgl := Y4.out.box.lt
        go_wp2_with fail
        refine (revReg_own Y4.out.o3 (by omega)).mono ?_
        rintro r w5 ⟨rfl, ho, hof, hb⟩
        have Y5 := Lib.hid (YSt.mv3 (R' := c.regs.reverse) Y4.out hb hof (by rw [List.length_reverse]; exact ho))
        clear y3c hgl ho hof hb Y4
        have y5c := Y5.out.box.cell 5
        simp at y5c
        have hgl := Y5.out.box.lt
        go_wp2_with fail
        refine (revChn_own Y5.out.o5 (by rw [HLN.out]; omega)).mono ?_
        rintro r w6 ⟨rfl, ho, hof, hb⟩
        have Y6 := Lib.hid (YSt.mv5 (L' := L.reverse) Y5.out hb hof (by rw [List.length_reverse]; exact ho) (List.reverse_perm L))
        clear y5c hgl ho hof hb Y5
        have BC6 := Lib.hid (CC.out.up Y6.out.bel)
        have z2 := BC6.out.x2
        have hz2 := BC6.out.z
        go_upto_if 40 with (fail)
        clear z2 hz2
        go_cut [] (fun wx => ∃ (Z2 : Option Addr) (q2 : Nat) (N : List Win), N.Perm c.wins ∧ Hid (YSt WA.heap.size gx WA wx c.frame (.slice Y1 c.parts.length y1) (.slice Z2 c.wins.length q2) (.slice Y3 c.regs.length y3) (.slice Y4 c.ports.length y4) (.slice Y5 c.chans.length y5) c.parts.reverse N c.regs.reverse c.ports L.reverse))
        case first =>
          by_cases hn : 0 < c.wins.length
          · have hni : (0 : Int) < (c.wins.length : Int) := by omega
            obtain ⟨i2, hi2, _, hs2, _⟩ := info_parts infoWindow
            obtain ⟨r, hr, hrn⟩ : ∃ r : Nat, (k.tmod (c.wins.length : Int)) = (r : Int) ∧ r < c.wins.length := ⟨(k.tmod (c.wins.length : Int)).toNat, by
              have h0 := Int.tmod_nonneg (b := (c.wins.length : Int)) k0
              omega, by
              have h0 := Int.tmod_nonneg (b := (c.wins.length : Int)) k0
              have h1 := Int.tmod_lt_of_pos k (b := (c.wins.length : Int)) (by omega)
              omega⟩
            have hre : k % (c.wins.length : Int) = (r : Int) := by rw [← Int.tmod_eq_emod_of_nonneg k0]; exact hr
            have BC := Lib.hid (CC.out.up Y6.out.bel)
            have hR2 := BC.out.R.wins
            have hcap := BC.out.R.cap2.1
            obtain ⟨D1, e1, q1, rd1, _, _⟩ := slice_suf (P := Tryz.prog) (t := 24) (sz := 3) Tryz.underlying24 (run_sizeOf hi2 hs2) hR2 hcap r (by omega)
            obtain ⟨D2, e2, q2, rd2, _, _⟩ := slice_pre (P := Tryz.prog) (t := 24) (sz := 3) Tryz.underlying24 (run_sizeOf hi2 hs2) hR2 hcap r (by omega)
            rw [flat_drop _ 3 (fun _ => rfl)] at rd1
            rw [flat_take _ 3 (fun _ => rfl)] at rd2
            have RD1 := Lib.hid rd1
            have RD2 := Lib.hid rd2
            have KEEP : ∀ U, Below WA.heap.size w6 U → U.cell? ⟨w.heap.size, 2, none⟩ = some (.slice A2 c.wins.length c2) := fun U hU => (CC.out.up (Y6.out.bel.trans hU)).x2
            have HKQ := Lib.hid KEEP
            have z2 := KEEP w6 (Below.refl _ _)
            have hBV : WA.heap.size ≤ w6.heap.size := Y6.out.hB
            have hgl := Y6.out.box.lt
            have HBW := Lib.hid (Below.refl w6.heap.size w6)
            have hz1 : ¬ ((c.wins.length : Int) = 0) := by omega
            have hz2 : ¬ c.wins.length = 0 := by omega
            have hz3 : ¬ c.wins = [] := fun e => hz2 (by rw [e]; rfl)
            have hrn0 : (0 : Int) ≤ (r : Int) := by omega
            have hrn1 : (r : Int) < (c.wins.length : Int) := by omega
            clear hR2 hcap rd1 rd2 KEEP
            go_upto_region 14 with (fail)
            go_region_held3 (fun U => U.cell? ⟨w.heap.size, 2, none⟩ = some (.slice A2 c.wins.length c2))
              (first | (exact HS3.out) | (exact HS2.out) | (refine HKQ.out _ (Below.mono (show Below w6.heap.size w6 _ from ?_) hBV); (repeat (first | with_reducible exact HBW.out | with_reducible exact Below.refl _ _ | with_reducible refine Below.drew ?_ | (with_reducible refine Below.alloc ?_ (by first | (simp; done) | (have hq := HBW.out.size; simp at hq ⊢; omega)) _) | (with_reducible refine Below.setCell ?_ (by first | (simp; done) | (have hq := HBW.out.size; simp at hq ⊢; omega)) _))); done) | go_keep)
              (first
              | (go_at_call 18; refine (concatWin_ok D1 D2 (c.wins.length - r) r e1 e2 _ ((c.wins.drop r).flatMap Win.cells) ((c.wins.take r).flatMap Win.cells) _ (by simp) (by simp) (by simp) (RD1.out.up (by (repeat (first | with_reducible exact HBW.out | with_reducible exact Below.refl _ _ | with_reducible refine Below.drew ?_ | (with_reducible refine Below.alloc ?_ (by first | (simp; done) | (have hq := HBW.out.size; simp at hq ⊢; omega)) _) | (with_reducible refine Below.setCell ?_ (by first | (simp; done) | (have hq := HBW.out.size; simp at hq ⊢; omega)) _))))) (RD2.out.up (by (repeat (first | with_reducible exact HBW.out | with_reducible exact Below.refl _ _ | with_reducible refine Below.drew ?_ | (with_reducible refine Below.alloc ?_ (by first | (simp; done) | (have hq := HBW.out.size; simp at hq ⊢; omega)) _) | (with_reducible refine Below.setCell ?_ (by first | (simp; done) | (have hq := HBW.out.size; simp at hq ⊢; omega)) _))))) (oneWin _) (oneWin _) (by omega) (by omega)).mono ?_; rintro e w5 ⟨v, rfl, ho, hb5⟩; have HB5 := Lib.hid (Below.then_ (show Below w6.heap.size w6 _ from (by (repeat (first | with_reducible exact HBW.out | with_reducible exact Below.refl _ _ | with_reducible refine Below.drew ?_ | (with_reducible refine Below.alloc ?_ (by first | (simp; done) | (have hq := HBW.out.size; simp at hq ⊢; omega)) _) | (with_reducible refine Below.setCell ?_ (by first | (simp; done) | (have hq := HBW.out.size; simp at hq ⊢; omega)) _))))) hb5); (have HN : Hid (YSt WA.heap.size gx WA (w5.setCell ⟨gx, 2, none⟩ v) c.frame (.slice Y1 c.parts.length y1) v (.slice Y3 c.regs.length y3) (.slice Y4 c.ports.length y4) (.slice Y5 c.chans.length y5) c.parts.reverse (c.wins.drop r ++ c.wins.take r) c.regs.reverse c.ports L.reverse) := Lib.hid (YSt.put2 Y6.out HB5.out (by rw [List.flatMap_append, List.length_append, List.length_drop, List.length_take, Nat.min_eq_left (by omega)]; exact own_lessC ho (by first | exact Nat.le_refl _ | (simp; done) | (simp; omega))))); have HS2 := Lib.hid (HKQ.out w5 (HB5.out.mono hBV)); have HS3 := Lib.hid (HKQ.out (w5.setCell ⟨gx, 2, none⟩ v) ((HB5.out.mono hBV).setCell Y6.out.hg _)); (obtain ⟨v2, e9, rfl, _⟩ := own_form ho); have ob := Y6.out.box.below HB5.out Y6.out.box.lt; have qc := ob.cell 2; have fc := ob.frozen 2; have lc := ob.lt; (simp at qc); clear ho hb5 ob)
              | fail)
            all_goals
              go_wp2_with fail
              go_meet
              case rel =>
                rw [show c.wins.length - r + r = c.wins.length by omega] at HN ⊢
                exact ⟨_, _, _, rot_perm _ _, HN⟩
          · have hni : ¬ (0 : Int) < (c.wins.length : Int) := by omega
            go_wp2_with fail
            go_meet
            case rel => exact ⟨_, _, _, List.Perm.refl _, Y6⟩
        case rest =>
        obtain ⟨Z2, q2, N, hpn, Y7⟩ := hcut
        have HPN := Lib.hid hpn
        clear hpn Y6
        obtain ⟨wp, rfl⟩ : ∃ wp, wp = wc := ⟨_, rfl⟩
        have BC7 := Lib.hid (CC.out.up Y7.out.bel)
        have z4 := BC7.out.x4
        have hz4 := BC7.out.z
        go_upto_if 62 with (fail)
        clear z4 hz4
        go_cut [] (fun wx => ∃ (Z4 : Option Addr) (q4 : Nat) (T : List Prt), T.Perm c.ports ∧ Hid (YSt WA.heap.size gx WA wx c.frame (.slice Y1 c.parts.length y1) (.slice Z2 c.wins.length q2) (.slice Y3 c.regs.length y3) (.slice Z4 c.ports.length q4) (.slice Y5 c.chans.length y5) c.parts.reverse N c.regs.reverse T L.reverse))
        case first =>
          by_cases hn : 0 < c.ports.length
          · have hni : (0 : Int) < (c.ports.length : Int) := by omega
            obtain ⟨i4, hi4, _, hs4, _⟩ := info_parts infoPort
            obtain ⟨r, hr, hrn⟩ : ∃ r : Nat, (k.tmod (c.ports.length : Int)) = (r : Int) ∧ r < c.ports.length := ⟨(k.tmod (c.ports.length : Int)).toNat, by
              have h0 := Int.tmod_nonneg (b := (c.ports.length : Int)) k0
              omega, by
              have h0 := Int.tmod_nonneg (b := (c.ports.length : Int)) k0
              have h1 := Int.tmod_lt_of_pos k (b := (c.ports.length : Int)) (by omega)
              omega⟩
            have hre : k % (c.ports.length : Int) = (r : Int) := by rw [← Int.tmod_eq_emod_of_nonneg k0]; exact hr
            have BC := Lib.hid (CC.out.up Y7.out.bel)
            have hR4 := BC.out.R.ports
            have hcap := BC.out.R.cap4.1
            obtain ⟨D1, e1, _, rd1, _, _⟩ := slice_suf (P := Tryz.prog) (t := 26) (sz := 6) Tryz.underlying26 (run_sizeOf hi4 hs4) hR4 hcap r (by omega)
            obtain ⟨D2, e2, _, rd2, _, _⟩ := slice_pre (P := Tryz.prog) (t := 26) (sz := 6) Tryz.underlying26 (run_sizeOf hi4 hs4) hR4 hcap r (by omega)
            rw [flat_drop _ 6 (fun _ => rfl)] at rd1
            rw [flat_take _ 6 (fun _ => rfl)] at rd2
            have RD1 := Lib.hid rd1
            have RD2 := Lib.hid rd2
            have KEEP : ∀ U, Below WA.heap.size wp U → U.cell? ⟨w.heap.size, 4, none⟩ = some (.slice A4 c.ports.length c4) := fun U hU => (CC.out.up (Y7.out.bel.trans hU)).x4
            have HKQ := Lib.hid KEEP
            have z4 := KEEP wp (Below.refl _ _)
            have hBV : WA.heap.size ≤ wp.heap.size := Y7.out.hB
            have hgl := Y7.out.box.lt
            have HBW := Lib.hid (Below.refl wp.heap.size wp)
            have hz1 : ¬ ((c.ports.length : Int) = 0) := by omega
            have hz2 : ¬ c.ports.length = 0 := by omega
            have hz3 : ¬ c.ports = [] := fun e => hz2 (by rw [e]; rfl)
            have hrn0 : (0 : Int) ≤ (r : Int) := by omega
            have hrn1 : (r : Int) < (c.ports.length : Int) := by omega
            clear hR4 hcap rd1 rd2 KEEP
            go_upto_region 17 with (fail)
            go_region_held3 (fun U => U.cell? ⟨w.heap.size, 4, none⟩ = some (.slice A4 c.ports.length c4))
              (first | (exact HS3.out) | (exact HS2.out) | (refine HKQ.out _ (Below.mono (show Below wp.heap.size wp _ from ?_) hBV); (repeat (first | with_reducible exact HBW.out | with_reducible exact Below.refl _ _ | with_reducible refine Below.drew ?_ | (with_reducible refine Below.alloc ?_ (by first | (simp; done) | (have hq := HBW.out.size; simp at hq ⊢; omega)) _) | (with_reducible refine Below.setCell ?_ (by first | (simp; done) | (have hq := HBW.out.size; simp at hq ⊢; omega)) _))); done) | go_keep)
              (first
              | (go_at_call 20; refine (concatPrt_ok D1 D2 (c.ports.length - r) r e1 e2 _ ((c.ports.drop r).flatMap Prt.cells) ((c.ports.take r).flatMap Prt.cells) _ (by simp) (by simp) (by simp) (RD1.out.up (by (repeat (first | with_reducible exact HBW.out | with_reducible exact Below.refl _ _ | with_reducible refine Below.drew ?_ | (with_reducible refine Below.alloc ?_ (by first | (simp; done) | (have hq := HBW.out.size; simp at hq ⊢; omega)) _) | (with_reducible refine Below.setCell ?_ (by first | (simp; done) | (have hq := HBW.out.size; simp at hq ⊢; omega)) _))))) (RD2.out.up (by (repeat (first | with_reducible exact HBW.out | with_reducible exact Below.refl _ _ | with_reducible refine Below.drew ?_ | (with_reducible refine Below.alloc ?_ (by first | (simp; done) | (have hq := HBW.out.size; simp at hq ⊢; omega)) _) | (with_reducible refine Below.setCell ?_ (by first | (simp; done) | (have hq := HBW.out.size; simp at hq ⊢; omega)) _))))) (onePrt _) (onePrt _) (by omega) (by omega)).mono ?_; rintro e w5 ⟨v, rfl, ho, hb5⟩; have HB5 := Lib.hid (Below.then_ (show Below wp.heap.size wp _ from (by (repeat (first | with_reducible exact HBW.out | with_reducible exact Below.refl _ _ | with_reducible refine Below.drew ?_ | (with_reducible refine Below.alloc ?_ (by first | (simp; done) | (have hq := HBW.out.size; simp at hq ⊢; omega)) _) | (with_reducible refine Below.setCell ?_ (by first | (simp; done) | (have hq := HBW.out.size; simp at hq ⊢; omega)) _))))) hb5); (have HN : Hid (YSt WA.heap.size gx WA (w5.setCell ⟨gx, 4, none⟩ v) c.frame (.slice Y1 c.parts.length y1) (.slice Z2 c.wins.length q2) (.slice Y3 c.regs.length y3) v (.slice Y5 c.chans.length y5) c.parts.reverse N c.regs.reverse (c.ports.drop r ++ c.ports.take r) L.reverse) := Lib.hid (YSt.put4 Y7.out HB5.out (by rw [List.flatMap_append, List.length_append, List.length_drop, List.length_take, Nat.min_eq_left (by omega)]; exact own_lessC ho (by first | exact Nat.le_refl _ | (simp; done) | (simp; omega))))); have HS2 := Lib.hid (HKQ.out w5 (HB5.out.mono hBV)); have HS3 := Lib.hid (HKQ.out (w5.setCell ⟨gx, 4, none⟩ v) ((HB5.out.mono hBV).setCell Y7.out.hg _)); (obtain ⟨v2, e9, rfl, _⟩ := own_form ho); have ob := Y7.out.box.below HB5.out Y7.out.box.lt; have qc := ob.cell 4; have fc := ob.frozen 4; have lc := ob.lt; (simp at qc); clear ho hb5 ob)
              | fail)
            all_goals
              go_wp2_with fail
              go_meet
              case rel =>
                rw [show c.ports.length - r + r = c.ports.length by omega] at HN ⊢
                exact ⟨_, _, _, rot_perm _ _, HN⟩
          · have hni : ¬ (0 : Int) < (c.ports.length : Int) := by omega
            go_wp2_with fail
            go_meet
            case rel => exact ⟨_, _, _, List.Perm.refl _, Y7⟩
        case rest =>
        obtain ⟨Z4, q4, T, hpt, Y8⟩ := hcut
        obtain ⟨V, rfl⟩ : ∃ V, V = wc := ⟨_, rfl⟩
        obtain ⟨x, hx⟩ : ∃ x : Cfg, x = ⟨c.frame, c.parts.reverse, N, c.regs.reverse, T, L.reverse.map (·.x)⟩ := ⟨_, rfl⟩
        have HSH := Lib.hid (show Shuf x c by
          subst hx
          exact ⟨rfl, List.reverse_perm _, HPN.out, List.reverse_perm _, hpt, by
            show ((L.reverse.map (·.x)).map sortD).Perm _
            rw [List.map_map, List.map_reverse, ← HLS.out]
            exact List.reverse_perm _⟩)
        have BX := Lib.hid (YSt.cfg Y8.out hx (by rw [hx]; simp) HSH.out.wins.length_eq.symm (by rw [hx]; simp) HSH.out.ports.length_eq.symm HSH.out.len.symm)
        have BC := Lib.hid (CC.out.up Y8.out.bel)
        have HZV := Lib.hid (Below.then_ HZA.out Y8.out.bel)
        obtain ⟨d, hd⟩ : ∃ d, c.norm = d := ⟨_, rfl⟩
        have HD := Lib.hid hd
        have HXD := Lib.hid (show x.norm = d by rw [HSH.out.norm]; exact hd)
        have HXT := Lib.hid (HSH.out.small HSM.out).tot
        have HDO := Lib.hid (show d.ok by rw [← hd]; exact Cfg.norm_ok HOK.out)
        have HDS := Lib.hid (show d.small by rw [← hd]; exact Cfg.norm_small HSM.out)
        have HDT := Lib.hid HDS.out.tot
        have HED := Lib.hid (show eqC d d = true from eqC_yes rfl)
        have KEEP : ∀ U, Below V.heap.size V U → (fun U => U.cell? ⟨w.heap.size, 0, none⟩ = some (.int .u64 c.frame) ∧ U.cell? ⟨w.heap.size, 1, none⟩ = some (.slice A1 c.parts.length c1) ∧ U.cell? ⟨w.heap.size, 2, none⟩ = some (.slice A2 c.wins.length c2) ∧ U.cell? ⟨w.heap.size, 3, none⟩ = some (.slice A3 c.regs.length c3) ∧ U.cell? ⟨w.heap.size, 4, none⟩ = some (.slice A4 c.ports.length c4) ∧ U.cell? ⟨w.heap.size, 5, none⟩ = some (.slice A5 c.chans.length c5) ∧ U.cell? ⟨gx, 0, none⟩ = some (.int .u64 x.frame) ∧ U.cell? ⟨gx, 1, none⟩ = some (.slice Y1 x.parts.length y1) ∧ U.cell? ⟨gx, 2, none⟩ = some (.slice Z2 x.wins.length q2) ∧ U.cell? ⟨gx, 3, none⟩ = some (.slice Y3 x.regs.length y3) ∧ U.cell? ⟨gx, 4, none⟩ = some (.slice Z4 x.ports.length q4) ∧ U.cell? ⟨gx, 5, none⟩ = some (.slice Y5 x.chans.length y5)) U := fun U hU => by
          obtain ⟨a0, a1, a2, a3, a4, a5⟩ := (BC.out.up hU).cells
          obtain ⟨b0, b1, b2, b3, b4, b5⟩ := (BX.out.up hU).cells
          exact ⟨a0, a1, a2, a3, a4, a5, b0, b1, b2, b3, b4, b5⟩
        have HKP := Lib.hid KEEP
        obtain ⟨a0, a1, a2, a3, a4, a5, b0, b1, b2, b3, b4, b5⟩ := KEEP V (Below.refl _ _)
        have HBW := Lib.hid (Below.refl V.heap.size V)
        clear KEEP hx hd hpt Y8
        go_upto_region 18 with (fail)
        go_region_held3 (fun U => U.cell? ⟨w.heap.size, 0, none⟩ = some (.int .u64 c.frame) ∧ U.cell? ⟨w.heap.size, 1, none⟩ = some (.slice A1 c.parts.length c1) ∧ U.cell? ⟨w.heap.size, 2, none⟩ = some (.slice A2 c.wins.length c2) ∧ U.cell? ⟨w.heap.size, 3, none⟩ = some (.slice A3 c.regs.length c3) ∧ U.cell? ⟨w.heap.size, 4, none⟩ = some (.slice A4 c.ports.length c4) ∧ U.cell? ⟨w.heap.size, 5, none⟩ = some (.slice A5 c.chans.length c5) ∧ U.cell? ⟨gx, 0, none⟩ = some (.int .u64 x.frame) ∧ U.cell? ⟨gx, 1, none⟩ = some (.slice Y1 x.parts.length y1) ∧ U.cell? ⟨gx, 2, none⟩ = some (.slice Z2 x.wins.length q2) ∧ U.cell? ⟨gx, 3, none⟩ = some (.slice Y3 x.regs.length y3) ∧ U.cell? ⟨gx, 4, none⟩ = some (.slice Z4 x.ports.length q4) ∧ U.cell? ⟨gx, 5, none⟩ = some (.slice Y5 x.chans.length y5))
          (first | (refine HKP.out _ ?_; (repeat (first | with_reducible exact HBW.out | with_reducible exact Below.refl _ _ | with_reducible refine Below.drew ?_ | (with_reducible refine Below.alloc ?_ (by first | (simp; done) | (have hq := HBW.out.size; simp at hq ⊢; omega)) _) | (with_reducible refine Below.setCell ?_ (by first | (simp; done) | (have hq := HBW.out.size; simp at hq ⊢; omega)) _))); done) | go_keep)
          (first
          | (go_at_call 10; refine (alive_ok _).mono ?_; rintro e q1 ⟨rfl, hq⟩; have HBW := Lib.hid (Below.then_ (show Below V.heap.size V _ from (by (repeat (first | with_reducible exact HBW.out | with_reducible exact Below.refl _ _ | with_reducible refine Below.drew ?_ | (with_reducible refine Below.alloc ?_ (by first | (simp; done) | (have hq := HBW.out.size; simp at hq ⊢; omega)) _) | (with_reducible refine Below.setCell ?_ (by first | (simp; done) | (have hq := HBW.out.size; simp at hq ⊢; omega)) _))))) hq); clear hq)
          | (go_at_call 12; ((with_reducible refine (normalD_ok x d HXD Y1 Z2 Y3 Z4 Y5 y1 q2 y3 q4 y5 _ (BX.out.up (by (repeat (first | with_reducible exact HBW.out | with_reducible exact Below.refl _ _ | with_reducible refine Below.drew ?_ | (with_reducible refine Below.alloc ?_ (by first | (simp; done) | (have hq := HBW.out.size; simp at hq ⊢; omega)) _) | (with_reducible refine Below.setCell ?_ (by first | (simp; done) | (have hq := HBW.out.size; simp at hq ⊢; omega)) _))))).R HXT.out).mono ?_); rintro e q1 ⟨P1, P2, P3, P4, P5, p1, p2, p3, p4, p5, rfl, hP, hq⟩; have CP := Lib.hid hP; have HQP := Lib.hid hq; have HBW := Lib.hid (Below.then_ (show Below V.heap.size V _ from (by (repeat (first | with_reducible exact HBW.out | with_reducible exact Below.refl _ _ | with_reducible refine Below.drew ?_ | (with_reducible refine Below.alloc ?_ (by first | (simp; done) | (have hq := HBW.out.size; simp at hq ⊢; omega)) _) | (with_reducible refine Below.setCell ?_ (by first | (simp; done) | (have hq := HBW.out.size; simp at hq ⊢; omega)) _))))) hq); clear hq hP))
          | (go_at_call 12; ((with_reducible refine (normalD_ok c d HD A1 A2 A3 A4 A5 c1 c2 c3 c4 c5 _ (BC.out.up (by (repeat (first | with_reducible exact HBW.out | with_reducible exact Below.refl _ _ | with_reducible refine Below.drew ?_ | (with_reducible refine Below.alloc ?_ (by first | (simp; done) | (have hq := HBW.out.size; simp at hq ⊢; omega)) _) | (with_reducible refine Below.setCell ?_ (by first | (simp; done) | (have hq := HBW.out.size; simp at hq ⊢; omega)) _))))).R HTT.out).mono ?_); rintro e q1 ⟨N1, N2, N3, N4, N5, n1, n2, n3, n4, n5, rfl, hP, hq⟩; have CN := Lib.hid hP; have HQN := Lib.hid hq; have HBW := Lib.hid (Below.then_ (show Below V.heap.size V _ from (by (repeat (first | with_reducible exact HBW.out | with_reducible exact Below.refl _ _ | with_reducible refine Below.drew ?_ | (with_reducible refine Below.alloc ?_ (by first | (simp; done) | (have hq := HBW.out.size; simp at hq ⊢; omega)) _) | (with_reducible refine Below.setCell ?_ (by first | (simp; done) | (have hq := HBW.out.size; simp at hq ⊢; omega)) _))))) hq); clear hq hP))
          | (go_at_call 13; refine (rNormalD_ok c d HD A1 A2 A3 A4 A5 c1 c2 c3 c4 c5 _ (BC.out.up (by (repeat (first | with_reducible exact HBW.out | with_reducible exact Below.refl _ _ | with_reducible refine Below.drew ?_ | (with_reducible refine Below.alloc ?_ (by first | (simp; done) | (have hq := HBW.out.size; simp at hq ⊢; omega)) _) | (with_reducible refine Below.setCell ?_ (by first | (simp; done) | (have hq := HBW.out.size; simp at hq ⊢; omega)) _))))).R HOK.out HSM.out).mono ?_; rintro e q1 ⟨M1, M2, M3, M4, M5, m1, m2, m3, m4, m5, rfl, hP, hq⟩; have CM := Lib.hid hP; have HQM := Lib.hid hq; have HBW := Lib.hid (Below.then_ (show Below V.heap.size V _ from (by (repeat (first | with_reducible exact HBW.out | with_reducible exact Below.refl _ _ | with_reducible refine Below.drew ?_ | (with_reducible refine Below.alloc ?_ (by first | (simp; done) | (have hq := HBW.out.size; simp at hq ⊢; omega)) _) | (with_reducible refine Below.setCell ?_ (by first | (simp; done) | (have hq := HBW.out.size; simp at hq ⊢; omega)) _))))) hq); clear hq hP)
          | (go_at_call 14; refine (rSame_ok d P1 P2 P3 P4 P5 p1 p2 p3 p4 p5 d M1 M2 M3 M4 M5 m1 m2 m3 m4 m5 _ (CP.out.up (by first | exact HQM.out | exact Below.refl _ _)) (CM.out.up (by first | exact HQP.out | exact Below.refl _ _)) HDO.out HDS.out HDO.out HDS.out true HED).mono ?_; rintro e q1 ⟨rfl, hq⟩; have HBW := Lib.hid (Below.then_ (show Below V.heap.size V _ from (by (repeat (first | with_reducible exact HBW.out | with_reducible exact Below.refl _ _ | with_reducible refine Below.drew ?_ | (with_reducible refine Below.alloc ?_ (by first | (simp; done) | (have hq := HBW.out.size; simp at hq ⊢; omega)) _) | (with_reducible refine Below.setCell ?_ (by first | (simp; done) | (have hq := HBW.out.size; simp at hq ⊢; omega)) _))))) hq); clear hq)
          | (go_at_call 16; refine (same_ok d P1 P2 P3 P4 P5 p1 p2 p3 p4 p5 d N1 N2 N3 N4 N5 n1 n2 n3 n4 n5 _ (CP.out.up (by first | exact HQN.out | exact Below.refl _ _)) HDT.out (CN.out.up (by first | exact HQP.out | exact Below.refl _ _)) HDT.out true HED).mono ?_; rintro e q1 ⟨rfl, hq⟩; have HBW := Lib.hid (Below.then_ (show Below V.heap.size V _ from (by (repeat (first | with_reducible exact HBW.out | with_reducible exact Below.refl _ _ | with_reducible refine Below.drew ?_ | (with_reducible refine Below.alloc ?_ (by first | (simp; done) | (have hq := HBW.out.size; simp at hq ⊢; omega)) _) | (with_reducible refine Below.setCell ?_ (by first | (simp; done) | (have hq := HBW.out.size; simp at hq ⊢; omega)) _))))) hq); clear hq)
          | fail)
        all_goals
          go_wp2
          go_ret
          exact ⟨rfl, Below.then_ HZV.out HBW.out⟩
  · have H1 := Lib.hid h1
    clear h1
    go_enter Tryz.func6, Tryz.ntmps6
    go_upto_region 1 with (fail)
    rw [HW.out]
    go_wp2_with fail
    refine (few_valB c _ _ _ _ _ _ _ _ _ _ _ ST0.out.R hs false H1).mono ?_
    rintro e w1 ⟨rfl, hb1⟩
    have HB1 := Lib.hid (ST0.out.up hb1).bel
    clear hb1 x0 x1 x2 x3 x4 x5 hz
    go_wp2_with fail
    refine (alive_ok _).mono ?_
    rintro e w2 ⟨rfl, hb2⟩
    have HZ := Lib.hid (Below.then_ HB1.out hb2)
    clear hb2
    go_wp2
    go_ret
    exact ⟨rfl, HZ.out⟩
end Go.Proofs.YtldchpmilknlmaaGreat
