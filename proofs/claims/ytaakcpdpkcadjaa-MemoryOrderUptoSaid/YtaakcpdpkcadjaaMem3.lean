/-
  What Check of package memory returns, walked.
-/
import Derived.Test.YtaakcpdpkcadjaaFirst
import Derived.Test.YtaakcpdpkcadjaaUniq2
namespace Go.Proofs.Ytaakcpdpkcadjaa
open Go.RowKit Go.Shelf
theorem FltBkM (w : World) (t : TypeId) : ∃ W, w.alloc (.cells #[.int .i64 0, .int .i64 0, .int .i64 0] t) = W ∧ Blk W w.heap.size t #[.int .i64 0, .int .i64 0, .int .i64 0] ∧ Below w.heap.size w W := ⟨_, rfl, Blk.new _ _ _, below_one _ _⟩
def memFlt (c : Cfg) : Flt := if (memBad c).1 = 0 then noFlt else ⟨(memBad c).1, 3, (memBad c).2⟩
theorem memFlt_reg {c : Cfg} {e i : Int} (h : regBad c = (e, i)) (he : e ≠ 0) : memFlt c = ⟨e, 3, i⟩ := by
  unfold memFlt memBad
  rw [h]
  simp [he]
theorem memFlt_cl {c : Cfg} (h : regBad c = (0, 0)) : memFlt c = if clashJ c.regs < 0 then noFlt else ⟨21, 3, clashJ c.regs⟩ := by
  unfold memFlt memBad
  rw [h]
  simp only [if_true]
  unfold clashJ clashBad
  rcases bad_cases ((List.range c.regs.length).map (clashAt c.regs)) 0 with ⟨h1, _⟩ | ⟨j, e, h1, h2, h3, _⟩
  · rw [h1]; rfl
  · have he : e = 21 := by
      have hm := List.mem_of_getElem? h1
      obtain ⟨k, _, hk⟩ := List.mem_map.1 hm
      unfold clashAt at hk
      split at hk
      · split at hk
        · exact hk.symm
        · exact absurd hk.symm h2
      · exact absurd hk.symm h2
    subst he
    rw [h3]
    simp
    omega
theorem memRegion_val (c : Cfg) (gi : Nat) (w : World) (hI : IdxAt w w.heap.size gi c) (r : Reg) (hr : r.ok) (v : Int) (hv : Hid (regCode c r = v)) :
    Calls Try.prog 26 #[.agg #[.pointer (some ⟨gi, 0, none⟩)], .agg #[.int .u64 r.base, .int .u64 r.size, .int .u16 r.part, .int .u8 r.rights, .bool r.shared]] w fun e w' => e = .returned (.int .i64 v) ∧ Below w.heap.size w w' := by
  have h := memRegion_ok c gi w hI r hr
  rwa [hv.out] at h
set_option maxRecDepth 100000 in
set_option maxHeartbeats 8000000 in
theorem memCheck_ok (c : Cfg) (A1 A2 A3 A4 A5 : Option Addr) (c1 c2 c3 c4 c5 : Nat) (w : World) (hR : CfgR w w.heap.size c A1 A2 A3 A4 A5 c1 c2 c3 c4 c5) (hs : c.small) (hok : c.ok) : Calls Try.prog 11 #[cfgV c.frame A1 A2 A3 A4 A5 c.parts.length c.wins.length c.regs.length c.ports.length c.chans.length c1 c2 c3 c4 c5] w fun e w' => e = .returned (fltV (memFlt c)) ∧ Below w.heap.size w w' := by
  obtain ⟨W0, hW, st⟩ := St.start_any hR 29
  have HW := Lib.hid hW
  obtain ⟨W1, hW1, hk1, hb1⟩ := FltBkM W0 36
  have HW1 := Lib.hid hW1
  have e0 : W0.heap.size = w.heap.size + 1 := by rw [← hW]; simp
  rw [e0] at hk1
  have HK1 := Lib.hid hk1
  have hst1 := st.up hb1
  obtain ⟨x0, x1, x2, x3, x4, x5, hz⟩ := hst1.cells
  have ST1 := Lib.hid hst1
  have hbd := hs.bd
  have br := hbd.r
  have HOK := Lib.hid hok
  have hent : ∀ a w, (callFunc 26 a).run Try.prog w = .ok (.enter 26 a) w := enters_of Try.func26 (by kernel_rfl) rfl
  clear hR hW st hW1 hk1 hst1 hbd hok
  go_enter Try.func11, Try.ntmps11
  go_upto_region 1 with (fail)
  rw [HW.out, HW1.out]
  clear e0
  go_wp2_with fail
  refine (new_ok c _ _ _ _ _ _ _ _ _ _ _ ST1.out.R hs HOK.out).mono ?_
  rintro e w2 ⟨gi, rfl, _, hI, hb2⟩
  have ST2 := Lib.hid (ST1.out.up hb2)
  have HI2 := Lib.hid hI
  have HK2 := Lib.hid (HK1.out.below hb2 HK1.out.lt)
  clear hI hb2 x0 x1 x2 x3 x4 x5 hz hb1
  obtain ⟨x0, x1, x2, x3, x4, x5, hz⟩ := ST2.out.cells
  go_wp2
  clear x0 x1 x2 x3 x4 x5 hz
  go_loopw [17] (fun i wr => ∃ k : Nat, k ≤ c.regs.length ∧ i = .int .i64 k ∧ Hid (regBad c = bad k ((c.regs.map (regCode c)).drop k)) ∧ Hid (St w (wr) c A1 A2 A3 A4 A5 c1 c2 c3 c4 c5) ∧ Hid (IdxAt wr wr.heap.size gi c) ∧ Hid (Blk wr (w.heap.size + 1) 36 #[.int .i64 0, .int .i64 0, .int .i64 0])) (fun i _ => c.regs.length - (intOf i).toNat)
  case atStart => exact ⟨0, Nat.zero_le _, rfl, Lib.hid rfl, ST2, HI2, HK2⟩
  case round =>
    obtain ⟨k, hk, rfl, hrest, ST, HI, HK⟩ := hrel
    by_cases hlt : k < c.regs.length
    · obtain ⟨x, hx⟩ := get_lt hlt
      have HRO := Lib.hid (HOK.out.regs x (List.mem_of_getElem? hx))
      obtain ⟨bb, o, rfl, hbb, g0, g1, g2, g3, g4⟩ := reg_at ST.out.R.regs hx
      have HX := Lib.hid (show (c.regs.map (regCode c))[k]? = some (regCode c x) by simp [hx])
      clear hx
      have n0 : (0 : Int) ≤ (k : Int) := by omega
      have n1 : (k : Int) < (c.regs.length : Int) := by omega
      go_upto_region 5 with (fail)
      obtain ⟨W4, hW4, rb, hb4⟩ := RgBox.new wr x 43
      rw [hW4]
      have ST4 := Lib.hid (ST.out.up hb4)
      have HI4 := Lib.hid (HI.out.up hb4)
      have HK4 := Lib.hid (HK.out.below hb4 HK.out.lt)
      obtain ⟨p0, p1, p2, p3, p4, hg⟩ := rb
      clear hW4 hb4 g0 g1 g2 g3 g4 hbb
      obtain ⟨v, hv⟩ : ∃ v, regCode c x = v := ⟨_, rfl⟩
      have HV := Lib.hid hv
      clear hv
      go_wp2_with fail
      refine (memRegion_val c gi W4 HI4.out x HRO.out v HV).mono ?_
      rintro e w5 ⟨rfl, hb5⟩
      have ST5 := Lib.hid (ST4.out.up hb5)
      have HI5 := Lib.hid (HI4.out.up hb5)
      have HK5 := Lib.hid (HK4.out.below hb5 HK4.out.lt)
      clear hb5 p0 p1 p2 p3 p4 hg
      by_cases hv0 : v = 0
      · subst hv0
        go_wp2
        go_roundw
        case rel => exact ⟨k + 1, by omega, by go_num, Lib.hid (bad_miss hrest.out (by rw [HX.out, HV.out])), ST5, HI5, HK5⟩
        case measure => simp [intOf]; omega
      · have hk5 := HK5.out
        have q0 := hk5.cell 0
        have q1 := hk5.cell 1
        have q2 := hk5.cell 2
        have qf := hk5.frozen
        simp at q0 q1 q2
        have hkl := hk5.lt
        clear hk5
        have hb := bad_hit hrest.out HX.out (by rw [HV.out]; exact hv0)
        rw [HV.out] at hb
        have HMF := Lib.hid (memFlt_reg hb hv0)
        clear hb
        go_wp2
        have hmf := HMF.out
        refine bodyPost_ret (v := fltV (memFlt c)) (by rw [hmf]; simp [results, Try.results11, go_sem, q0, q1, q2, noFlt]) rfl ⟨rfl, ?_⟩
        exact Below.setCell (Below.setCell (Below.setCell ST5.out.bel (by simp) _) (by simp) _) (by simp) _
    · obtain rfl : k = c.regs.length := by omega
      have hrb : regBad c = (0, 0) := bad_end (l := c.regs.map (regCode c)) (by simpa using hrest.out)
      have HSP := Lib.hid (show ∀ s ∈ c.regs.map spnOf, okSp s.lo s.len from fun s hs => by obtain ⟨x, hx, rfl⟩ := List.mem_map.1 hs; exact regBad_ok HOK.out (by rw [hrb]) x hx)
      have HMF := Lib.hid (memFlt_cl hrb)
      clear hrb hrest
      obtain ⟨x0, x1, x2, x3, x4, x5, hz⟩ := ST.out.cells
      go_wp2_with fail
      refine (memSpans_ok c.regs A3 c3 wr br ST.out.R.regs).mono ?_
      rintro e w5 ⟨v, rfl, ho, hb5⟩
      obtain ⟨SA, sc, rfl, _, _, hrd⟩ := own_form ho
      have ST5 := Lib.hid (ST.out.up hb5)
      have HK5 := Lib.hid (HK.out.below hb5 HK.out.lt)
      have HRD := Lib.hid hrd
      clear ho hrd hb5 x0 x1 x2 x3 x4 x5 hz
      obtain ⟨x0, x1, x2, x3, x4, x5, hz⟩ := ST5.out.cells
      go_wp2_with fail
      refine (swpFirst_ok (c := c) br HSP.out HRD.out x3 hz ST5.out.R.regs).mono ?_
      rintro e w6 ⟨a, rfl, hb6⟩
      have ST6 := Lib.hid (ST5.out.up hb6)
      have HK6 := Lib.hid (HK5.out.below hb6 HK5.out.lt)
      clear hb6 x0 x1 x2 x3 x4 x5 hz
      obtain ⟨j, hj⟩ : ∃ j, clashJ c.regs = j := ⟨_, rfl⟩
      rw [hj] at HMF ⊢
      have hk6 := HK6.out
      have q0 := hk6.cell 0
      have q1 := hk6.cell 1
      have q2 := hk6.cell 2
      have qf := hk6.frozen
      simp at q0 q1 q2
      have hkl := hk6.lt
      clear hk6 hj
      by_cases hj0 : j < 0
      · have hj1 : decide (0 ≤ j) = false := decide_eq_false (by omega)
        have HM2 := Lib.hid (show memFlt c = noFlt by rw [HMF.out, if_pos hj0])
        go_wp2
        have hmf := HM2.out
        refine bodyPost_ret (v := fltV (memFlt c)) (by rw [hmf]; simp [results, Try.results11, go_sem, q0, q1, q2, noFlt]) rfl ⟨rfl, ?_⟩
        exact Below.setCell (Below.setCell (Below.setCell ST6.out.bel (by simp) _) (by simp) _) (by simp) _
      · have hj1 : 0 ≤ j := by omega
        have HM2 := Lib.hid (show memFlt c = ⟨21, 3, j⟩ by rw [HMF.out, if_neg hj0])
        go_wp2
        have hmf := HM2.out
        refine bodyPost_ret (v := fltV (memFlt c)) (by rw [hmf]; simp [results, Try.results11, go_sem, q0, q1, q2, noFlt]) rfl ⟨rfl, ?_⟩
        exact Below.setCell (Below.setCell (Below.setCell ST6.out.bel (by simp) _) (by simp) _) (by simp) _
end Go.Proofs.Ytaakcpdpkcadjaa
