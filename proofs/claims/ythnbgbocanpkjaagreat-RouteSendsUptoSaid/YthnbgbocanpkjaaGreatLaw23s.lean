/-
  The law RouteSends of the chapter of layer 23, walked.
-/
import Derived.BigQuiet
import Derived.Deep.RegionHeld3
import Derived.Test.YthnbgbocanpkjaaGreatLaw23b
import Derived.Test.YthnbgbocanpkjaaGreatSendC
namespace Go.Proofs.YthnbgbocanpkjaaGreat
open Go.RowKit Go.Lib
theorem dest_at {c : Cfg} (hr : rightB c = true) {id : Int} {k : Nat} {p : Prt} (h : (destsOf c id)[k]? = some p) : portAns (portOf c p.id) = (p, true) ∧ (routeOf c id)[k]? = some p.id := by
  unfold destsOf at h
  rw [List.getElem?_map] at h
  rcases hd : (routeOf c id)[k]? with _ | d
  · rw [hd] at h; cases h
  · rw [hd] at h
    injection h with h
    obtain ⟨q, hq⟩ := route_port hr (List.mem_of_getElem? hd)
    have h2 : q = p := by rw [← h]; unfold thePort; rw [hq]; rfl
    subst h2
    have h3 := portOf_id hq
    rw [h3]
    exact ⟨by rw [hq]; rfl, rfl⟩
/-- the message in its box -/
structure MsgAt (W : World) (gm : Nat) (M : Option Addr) (msg : List Int) (cm : Nat) : Prop where
  c0 : W.cell? ⟨gm, 0, none⟩ = some (.slice M msg.length cm)
  z : gm < W.heap.size
  rd : Rd W W.heap.size 1 M msg.length (msg.map (Value.int .u8))
theorem MsgAt.up {W V : World} {gm : Nat} {M : Option Addr} {msg : List Int} {cm : Nat} (h : MsgAt W gm M msg cm) (hb : Below W.heap.size W V) : MsgAt V gm M msg cm :=
  ⟨(hb.cell (p := ⟨gm, 0, none⟩) h.z).trans h.c0, Nat.lt_of_lt_of_le h.z hb.size, h.rd.up hb⟩
theorem rd_none_nil {W : World} {B : Nat} {A : Option Addr} {l : List Int} (h : Rd W B 1 A l.length (l.map (Value.int .u8))) : A = none → l = [] := fun e => by
  subst e; exact List.length_eq_zero_iff.1 (rd_none h)
set_option maxRecDepth 100000 in
set_option maxHeartbeats 32000000 in
theorem routeSends_ok (c : Cfg) (A1 A2 A3 A4 A5 : Option Addr) (c1 c2 c3 c4 c5 : Nat) (w : World) (hR : CfgR w w.heap.size c A1 A2 A3 A4 A5 c1 c2 c3 c4 c5) (hs : c.small) (hok : c.ok) (id : Int) (hid : wU16 id) (msg : List Int) (M : Option Addr) (cm : Nat) (hM : Rd w w.heap.size 1 M msg.length (msg.map (Value.int .u8))) (hml : msg.length ≤ 4194304) : Calls Tryz.prog 4 #[cfgV c.frame A1 A2 A3 A4 A5 c.parts.length c.wins.length c.regs.length c.ports.length c.chans.length c1 c2 c3 c4 c5, .int .u16 id, .slice M msg.length cm] w fun e w' => e = .returned (.bool true) ∧ Below w.heap.size w w' := by
  obtain ⟨W0, hW, st⟩ := St.start_any hR 29
  have e0 : W0.heap.size = w.heap.size + 1 := by rw [← hW]; simp
  obtain ⟨WB, hWB⟩ : ∃ WB, W0.alloc (.cells #[.slice M msg.length cm] 35) = WB := ⟨_, rfl⟩
  have hbb : Below W0.heap.size W0 WB := by rw [← hWB]; exact below_one _ _
  have hms : MsgAt WB (w.heap.size + 1) M msg cm := by
    have hk : Blk WB W0.heap.size 35 #[.slice M msg.length cm] := by rw [← hWB]; exact Blk.new _ _ _
    rw [e0] at hk
    have := hk.cell 0
    exact ⟨by simpa using this, hk.lt, hM.up (Below.then_ st.bel hbb)⟩
  have HW := Lib.hid hW
  have HWB := Lib.hid hWB
  have ST0 := Lib.hid (st.up hbb)
  have MS0 := Lib.hid hms
  have HSM := Lib.hid hs
  have HOK := Lib.hid hok
  obtain ⟨x0, x1, x2, x3, x4, x5, hz⟩ := ST0.out.cells
  obtain ⟨y0, yz, _⟩ := MS0.out
  clear hR hW st hs hok hWB hbb hms e0 hM
  rcases Bool.eq_false_or_eq_true (goodR c) with h1 | h1
  · have hr1 : rightR c = true := by unfold goodR at h1; simp at h1; exact h1.2
    have HR := Lib.hid hr1
    have HRR := Lib.hid (rightR_iff.1 hr1)
    have H1 := Lib.hid h1
    clear h1 hr1
    by_cases hn : 300 < msg.length
    · have hn1 : (300 : Int) < (msg.length : Int) := by omega
      go_enter Tryz.func4, Tryz.ntmps4
      go_upto_region 1 with (fail)
      rw [HW.out, HWB.out]
      go_wp2_with fail
      refine (goodR_ok c _ _ _ _ _ _ _ _ _ _ _ ST0.out.R HSM.out true H1).mono ?_
      rintro e w1 ⟨rfl, hb1⟩
      have ST1 := Lib.hid (ST0.out.up hb1)
      have MS1 := Lib.hid (MS0.out.up hb1)
      clear hb1 x0 x1 x2 x3 x4 x5 hz y0 yz
      obtain ⟨y0, yz, _⟩ := MS1.out
      go_wp2_with fail
      refine (alive_ok _).mono ?_
      rintro e w2 ⟨rfl, hb2⟩
      have HZ := Lib.hid (ST1.out.up hb2).bel
      clear hb2
      go_wp2
      go_ret
      exact ⟨rfl, HZ.out⟩
    have hn1 : ¬ (300 : Int) < (msg.length : Int) := by omega
    obtain ⟨i0, hi, hq0, hq1, hq2⟩ := info_parts info_u8
    obtain ⟨v, hv⟩ : ∃ v, sendCode c id msg.length = v := ⟨_, rfl⟩
    have HV := Lib.hid hv
    obtain ⟨ids, hids⟩ : ∃ ids, routeOf c id = ids := ⟨_, rfl⟩
    have hil : ids.length ≤ 1048576 := by rw [← hids]; exact route_len HSM.out id
    have HDI := Lib.hid (show ∀ (k : Nat) (p : Prt), (destsOf c id)[k]? = some p → portAns (portOf c p.id) = (p, true) ∧ ids[k]? = some p.id from fun k p h => by rw [← hids]; exact dest_at HRR.out.rb h)
    have HDL := Lib.hid (show (destsOf c id).length = ids.length by rw [← hids]; unfold destsOf; simp)
    have HIDS := Lib.hid hids
    clear hv hids
    go_enter Tryz.func4, Tryz.ntmps4
    go_upto_region 1 with (fail)
    rw [HW.out, HWB.out]
    go_wp2_with fail
    refine (goodR_ok c _ _ _ _ _ _ _ _ _ _ _ ST0.out.R HSM.out true H1).mono ?_
    rintro e w1 ⟨rfl, hb1⟩
    have ST1 := Lib.hid (ST0.out.up hb1)
    have MS1 := Lib.hid (MS0.out.up hb1)
    clear hb1 x0 x1 x2 x3 x4 x5 hz y0 yz
    obtain ⟨x0, x1, x2, x3, x4, x5, hz⟩ := ST1.out.cells
    obtain ⟨y0, yz, _⟩ := MS1.out
    go_wp2_with fail
    refine (newR_yes c _ _ _ _ _ _ _ _ _ _ _ ST1.out.R HSM.out HOK.out HR).mono ?_
    rintro e w2 ⟨gr, rfl, hrt, hb2⟩
    have ST2 := Lib.hid (ST1.out.up hb2)
    have MS2 := Lib.hid (MS1.out.up hb2)
    have RT2 := Lib.hid hrt
    clear hb2 hrt x0 x1 x2 x3 x4 x5 hz y0 yz
    have HO := Lib.hid (World.ownsRow_made (e := 5) (size := 1) w2 #[] 0 (Nat.le_refl _) (Nat.zero_le _) rfl)
    have MSA := Lib.hid (MS2.out.up (below_one w2 (.cells #[] 5)))
    obtain ⟨y0, yz, _⟩ := MSA.out
    go_wp2_with (at_builtin; go_loud ((refine wpList_append_rd _ rfl (.tmp 26) (.tmp 27) _ rfl w2.heap.size 5 i0 (.int .u8 0) 1 1 Tryz.underlying35 hi hq0 hq1 hq2 rfl (by decide) _ 0 [] rfl HO.out (w2.alloc (.cells #[] 5)).heap.size M msg.length cm _ rfl MSA.out.rd (bytes_oneCell msg) (by unfold maxLen; omega) (by omega) (by simp) ?_); intro v' w3 hown hg; (simp only [Nat.zero_add, List.nil_append] at hown); (obtain ⟨OA, oc, rfl, _, _, _⟩ := own_form hown); have hb3 := below_own ((Below.refl w2.heap.size w2).alloc (Nat.le_refl _) (.cells #[] 5)) hg HO.out (by simp); have HOW := Lib.hid hown; have HB3 := Lib.hid hb3; clear hb3 hown hg))
    have ST3 := Lib.hid (ST2.out.up HB3.out)
    have MS3 := Lib.hid (MS2.out.up HB3.out)
    have RT3 := Lib.hid (RT2.out.up HB3.out)
    clear y0 yz MSA
    obtain ⟨W4, hW4⟩ : ∃ W4, w3.alloc (.cells #[.slice none 0 0] 36) = W4 := ⟨_, rfl⟩
    have e4 : W4.heap.size = w3.heap.size + 1 := by rw [← hW4]; simp
    obtain ⟨W5, hW5⟩ : ∃ W5, W4.alloc (.cells #[.bool true] 4) = W5 := ⟨_, rfl⟩
    have hj0 : SJ w3 (w3.heap.size + 1) w3.heap.size ids 0 W5 := by
      have k4 : Blk W4 w3.heap.size 36 #[.slice none 0 0] := by rw [← hW4]; exact Blk.new _ _ _
      have k5 : Blk W5 W4.heap.size 4 #[.bool true] := by rw [← hW5]; exact Blk.new _ _ _
      have b4 : Below w3.heap.size w3 W4 := by rw [← hW4]; exact below_one _ _
      have b5 : Below W4.heap.size W4 W5 := by rw [← hW5]; exact below_one _ _
      rw [e4] at k5
      exact ⟨Below.then_ b4 b5, by omega, Nat.le_refl _, by omega, k5, _, k4.below b5 k4.lt, by simpa using World.ownsRow_nil _ _ _ _⟩
    have HW4 := Lib.hid hW4
    have HW5 := Lib.hid hW5
    have HJ0 := Lib.hid hj0
    have HEN := Lib.hid (enters_of Tryz.func15 (by kernel_rfl) rfl)
    have HD := Lib.hid (show DelT w3 (.func (.func 15) #[] #[.pointer (some ⟨w.heap.size, 0, none⟩), .pointer (some ⟨w3.heap.size + 1, 0, none⟩), .pointer (some ⟨w.heap.size + 1, 0, none⟩), .pointer (some ⟨w3.heap.size, 0, none⟩)]) OA msg.length oc (destsOf c id) (SJ w3 (w3.heap.size + 1) w3.heap.size ids) from
      ⟨fun _ _ _ h hb => h.up hb, fun _ _ h => h.bel, fun k p W hk h => to_fn 15 _ HEN.out msg OA oc hml (rd_none_nil (own_slice HOW.out).2) p W ((own_slice HOW.out).2.up h.bel) _ fun V v hV ho =>
        sends1_ok c A1 A2 A3 A4 A5 c1 c2 c3 c4 c5 HSM.out msg M cm w.heap.size (w.heap.size + 1) (w3.heap.size + 1) w3.heap.size w3 ST3.out.cbx MS3.out.c0 MS3.out.z MS3.out.rd hml ids hil k p (HDI.out k p hk).1 (HDI.out k p hk).2 V (h.up hV) v (own_lessC ho h.bel.size)⟩)
    clear hW4 hW5 hj0 e4
    go_upto_region 9 with (fail)
    rw [HW4.out, HW5.out]
    go_wp2_with fail
    refine (mSend_fn c HRR.out HSM.out HOK.out gr id hid OA msg.length oc hml _ _ _ _ w3 W5 RT3.out HD.out HJ0.out v HV).mono ?_
    rintro e w6 ⟨rfl, hj6⟩
    rw [HDL.out] at hj6
    have HJ6 := Lib.hid hj6
    have ST6 := Lib.hid (ST3.out.up hj6.bel)
    have MS6 := Lib.hid (MS3.out.up hj6.bel)
    have RT6 := Lib.hid (RT3.out.up hj6.bel)
    have HO6 := Lib.hid ((own_slice HOW.out).2.up hj6.bel)
    clear hj6 HW4 HW5 HJ0 HD
    generalize w3.heap.size + 1 = gs at *
    obtain ⟨gt, hgt⟩ : ∃ gt, gt = w3.heap.size := ⟨_, rfl⟩
    rw [← hgt] at HJ6 ⊢
    have HGT := Lib.hid hgt
    clear hgt
    obtain ⟨x0, x1, x2, x3, x4, x5, hz⟩ := ST6.out.cells
    obtain ⟨y0, yz, _⟩ := MS6.out
    go_wp2_with fail
    refine (rSend_ok c _ _ _ _ _ _ _ _ _ _ _ ST6.out.R HSM.out HOK.out id msg.length hml v HV).mono ?_
    rintro e w7 ⟨rfl, hb7⟩
    have ST7 := Lib.hid (ST6.out.up hb7)
    have MS7 := Lib.hid (MS6.out.up hb7)
    have RT7 := Lib.hid (RT6.out.up hb7)
    have HO7 := Lib.hid (HO6.out.up hb7)
    have HJ7 := Lib.hid (HJ6.out.up hb7)
    clear hb7 x0 x1 x2 x3 x4 x5 hz y0 yz HJ6 HO6
    have s0 := HJ7.out.same.cell 0
    simp at s0
    have sz := HJ7.out.same.lt
    obtain ⟨y0, yz, _⟩ := MS7.out
    go_wp2_with fail
    refine (eqB_same msg OA M oc cm _ hml HO7.out MS7.out.rd).mono ?_
    rintro e w8 ⟨rfl, hb8⟩
    have ST8 := Lib.hid (ST7.out.up hb8)
    have RT8 := Lib.hid (RT7.out.up hb8)
    have HJ8 := Lib.hid (HJ7.out.up hb8)
    clear hb8 s0 sz y0 yz HJ7
    go_wp2_with fail
    refine (mSend_quiet c HRR.out HSM.out HOK.out gr id hid OA msg.length oc hml _ RT8.out v HV).mono ?_
    rintro e w9 ⟨rfl, hb9⟩
    have ST9 := Lib.hid (ST8.out.up hb9)
    have HJ9 := Lib.hid (HJ8.out.up hb9)
    clear hb9 HJ8
    by_cases hv0 : v = 0
    · subst hv0
      obtain ⟨v1, t1, t2⟩ := HJ9.out.to_
      rw [if_pos rfl, List.take_length] at t2
      obtain ⟨TA, tc, rfl, _, _, trd⟩ := own_form t2
      have HTR := Lib.hid trd
      have HT1 := Lib.hid t1
      clear t1 t2 trd
      go_upto_region 15 with (fail)
      have KEEP : ∀ U, Below w9.heap.size w9 U → (fun U => U.cell? ⟨w.heap.size, 0, none⟩ = some (.int .u64 c.frame) ∧ U.cell? ⟨w.heap.size, 1, none⟩ = some (.slice A1 c.parts.length c1) ∧ U.cell? ⟨w.heap.size, 2, none⟩ = some (.slice A2 c.wins.length c2) ∧ U.cell? ⟨w.heap.size, 3, none⟩ = some (.slice A3 c.regs.length c3) ∧ U.cell? ⟨w.heap.size, 4, none⟩ = some (.slice A4 c.ports.length c4) ∧ U.cell? ⟨w.heap.size, 5, none⟩ = some (.slice A5 c.chans.length c5) ∧ U.cell? ⟨gt, 0, none⟩ = some (.slice TA ids.length tc)) U := fun U hU => by
        obtain ⟨a0, a1, a2, a3, a4, a5, _⟩ := (ST9.out.up hU).cells
        have m0 := (HT1.out.below hU HT1.out.lt).cell 0
        simp at m0
        exact ⟨a0, a1, a2, a3, a4, a5, m0⟩
      have HKP := Lib.hid KEEP
      have HBW := Lib.hid (Below.refl w9.heap.size w9)
      obtain ⟨a0, a1, a2, a3, a4, a5, m0⟩ := KEEP w9 (Below.refl _ _)
      clear KEEP
      go_region_held3 (fun U => U.cell? ⟨w.heap.size, 0, none⟩ = some (.int .u64 c.frame) ∧ U.cell? ⟨w.heap.size, 1, none⟩ = some (.slice A1 c.parts.length c1) ∧ U.cell? ⟨w.heap.size, 2, none⟩ = some (.slice A2 c.wins.length c2) ∧ U.cell? ⟨w.heap.size, 3, none⟩ = some (.slice A3 c.regs.length c3) ∧ U.cell? ⟨w.heap.size, 4, none⟩ = some (.slice A4 c.ports.length c4) ∧ U.cell? ⟨w.heap.size, 5, none⟩ = some (.slice A5 c.chans.length c5) ∧ U.cell? ⟨gt, 0, none⟩ = some (.slice TA ids.length tc))
        (first | (refine HKP.out _ ?_; (repeat (first | with_reducible exact HBW.out | with_reducible exact Below.refl _ _ | with_reducible refine Below.drew ?_ | (with_reducible refine Below.alloc ?_ (by first | (simp; done) | (have hq := HBW.out.size; simp at hq ⊢; omega)) _) | (with_reducible refine Below.setCell ?_ (by first | (simp; done) | (have hq := HBW.out.size; simp at hq ⊢; omega)) _))); done) | go_keep)
        (first
        | (go_at_call 10; refine (alive_ok _).mono ?_; rintro e q1 ⟨rfl, hq⟩; have HBW := Lib.hid (Below.then_ (show Below w9.heap.size w9 _ from (by (repeat (first | with_reducible exact HBW.out | with_reducible exact Below.refl _ _ | with_reducible refine Below.drew ?_ | (with_reducible refine Below.alloc ?_ (by first | (simp; done) | (have hq := HBW.out.size; simp at hq ⊢; omega)) _) | (with_reducible refine Below.setCell ?_ (by first | (simp; done) | (have hq := HBW.out.size; simp at hq ⊢; omega)) _))))) hq); clear hq)
        | (go_at_call 20; refine (rRouteL c _ _ _ _ _ _ _ _ _ _ _ (ST9.out.up (by (repeat (first | with_reducible exact HBW.out | with_reducible exact Below.refl _ _ | with_reducible refine Below.drew ?_ | (with_reducible refine Below.alloc ?_ (by first | (simp; done) | (have hq := HBW.out.size; simp at hq ⊢; omega)) _) | (with_reducible refine Below.setCell ?_ (by first | (simp; done) | (have hq := HBW.out.size; simp at hq ⊢; omega)) _))))).R HSM.out id ids HIDS).mono ?_; rintro e q1 ⟨RB, rb, rfl, hrb, hq⟩; have HB := Lib.hid hrb; have HBW := Lib.hid (Below.then_ (show Below w9.heap.size w9 _ from (by (repeat (first | with_reducible exact HBW.out | with_reducible exact Below.refl _ _ | with_reducible refine Below.drew ?_ | (with_reducible refine Below.alloc ?_ (by first | (simp; done) | (have hq := HBW.out.size; simp at hq ⊢; omega)) _) | (with_reducible refine Below.setCell ?_ (by first | (simp; done) | (have hq := HBW.out.size; simp at hq ⊢; omega)) _))))) hq); clear hq hrb)
        | (go_at_call 19; ((with_reducible refine (eqU_same ids TA RB tc rb _ (by omega) (HTR.out.up (by (repeat (first | with_reducible exact HBW.out | with_reducible exact Below.refl _ _ | with_reducible refine Below.drew ?_ | (with_reducible refine Below.alloc ?_ (by first | (simp; done) | (have hq := HBW.out.size; simp at hq ⊢; omega)) _) | (with_reducible refine Below.setCell ?_ (by first | (simp; done) | (have hq := HBW.out.size; simp at hq ⊢; omega)) _))))) HB.out).mono ?_); rintro e q1 ⟨rfl, hq⟩; have HBW := Lib.hid (Below.then_ (show Below w9.heap.size w9 _ from (by (repeat (first | with_reducible exact HBW.out | with_reducible exact Below.refl _ _ | with_reducible refine Below.drew ?_ | (with_reducible refine Below.alloc ?_ (by first | (simp; done) | (have hq := HBW.out.size; simp at hq ⊢; omega)) _) | (with_reducible refine Below.setCell ?_ (by first | (simp; done) | (have hq := HBW.out.size; simp at hq ⊢; omega)) _))))) hq); clear hq))
        | fail)
      all_goals
        go_wp2
        go_ret
        exact ⟨rfl, Below.then_ ST9.out.bel HBW.out⟩
    · have hv1 : (v == 0) = false := by rw [beq_eq_false_iff_ne]; exact hv0
      obtain ⟨v1, t1, t2⟩ := HJ9.out.to_
      rw [if_neg hv0, show (ids.take 0).length = 0 by simp] at t2
      obtain ⟨TA, tc, rfl, _, _, trd⟩ := own_form t2
      have HT1 := Lib.hid t1
      clear t1 t2 trd
      go_wp2_with fail
      refine (alive_ok _).mono ?_
      rintro e w10 ⟨rfl, hb10⟩
      have HT2 := HT1.out.below hb10 HT1.out.lt
      have t0 := HT2.cell 0
      have tz := HT2.lt
      simp at t0
      have HZ := Lib.hid (ST9.out.up hb10).bel
      clear hb10 HT2
      go_wp2
      go_ret
      exact ⟨rfl, HZ.out⟩
  · have H1 := Lib.hid h1
    clear h1
    go_enter Tryz.func4, Tryz.ntmps4
    go_upto_region 1 with (fail)
    rw [HW.out, HWB.out]
    go_wp2_with fail
    refine (goodR_ok c _ _ _ _ _ _ _ _ _ _ _ ST0.out.R HSM.out false H1).mono ?_
    rintro e w1 ⟨rfl, hb1⟩
    have ST1 := Lib.hid (ST0.out.up hb1)
    have MS1 := Lib.hid (MS0.out.up hb1)
    clear hb1 x0 x1 x2 x3 x4 x5 hz y0 yz
    go_wp2_with fail
    refine (alive_ok _).mono ?_
    rintro e w2 ⟨rfl, hb2⟩
    have HZ := Lib.hid (ST1.out.up hb2).bel
    clear hb2
    go_wp2
    go_ret
    exact ⟨rfl, HZ.out⟩
end Go.Proofs.YthnbgbocanpkjaaGreat
