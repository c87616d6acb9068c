/-
  What Flow of the reference of layer 18 returns, walked once.
-/
import Derived.Test.YtifmcdnaaaphmaaFlowQ
import Derived.Deep.DeepCutAuto
namespace Go.Proofs.Ytifmcdnaaaphmaa
open Go.RowKit
attribute [local go_sem] ext_cell
theorem info_bool : (Try.prog.info? 4).map (fun i => (i.zero, i.size, i.bytes)) = some (some (.bool false), 1, 1) := by kernel_rfl
theorem madeBools (c : Cfg) (hp : c.parts.length ≤ 1048576) (W : World) : ∃ V, (Instr.makeSlice 79 (.int .i64 (c.parts.length : Int)) (.int .i64 (c.parts.length : Int))).run Try.prog W = .ok (.slice (some ⟨W.heap.size, 0, none⟩) c.parts.length c.parts.length) V ∧
    Blk V W.heap.size 4 (boolsV (List.replicate c.parts.length false)) ∧ Below W.heap.size W V := by
  obtain ⟨i1, hi1, hy0, hy1, hy2⟩ := info_parts info_bool
  have := run_make_rowN (P := Try.prog) 79 4 i1 (.bool false) Try.underlying79 hi1 hy0 .i64 .i64 c.parts.length c.parts.length (Nat.le_refl _) (by rw [hy2]; omega) (by omega) W
  rw [hy1, Nat.mul_one] at this
  refine ⟨_, this, ?_, below_one _ _⟩
  rw [show (Value.bool false).cells = #[Value.bool false] from rfl, madeOne, boolsV_eq, List.map_replicate]
  exact Blk.new _ _ _
theorem rPartition_val (c : Cfg) (A1 A2 A3 A4 A5 : Option Addr) (c1 c2 c3 c4 c5 : Nat) (w : World) (hR : CfgR w w.heap.size c A1 A2 A3 A4 A5 c1 c2 c3 c4 c5) (hs : c.small) (id : Int) (v : Int) (hv : Hid (idx (fun x => x.id == id) c.parts = v)) :
    Calls Try.prog 31 #[cfgV c.frame A1 A2 A3 A4 A5 c.parts.length c.wins.length c.regs.length c.ports.length c.chans.length c1 c2 c3 c4 c5, .int .u16 id] w fun e w' => e = .returned (.int .i64 v) ∧ Below w.heap.size w w' := by
  have h := rPartition_ok c A1 A2 A3 A4 A5 c1 c2 c3 c4 c5 w hR hs id
  rwa [hv.out] at h
theorem bool_cases (b : Bool) : b = true ∨ b = false := by cases b <;> simp
set_option maxRecDepth 100000 in
set_option maxHeartbeats 8000000 in
theorem rFlow_ok (c : Cfg) (A1 A2 A3 A4 A5 : Option Addr) (c1 c2 c3 c4 c5 : Nat) (w : World) (hR : CfgR w w.heap.size c A1 A2 A3 A4 A5 c1 c2 c3 c4 c5) (hs : c.small) (hr : rightB c = true) (f t : Int) : Calls Try.prog 25 #[cfgV c.frame A1 A2 A3 A4 A5 c.parts.length c.wins.length c.regs.length c.ports.length c.chans.length c1 c2 c3 c4 c5, .int .u16 f, .int .u16 t] w fun e w' => e = .returned (.bool (flowB c f t)) ∧ Below w.heap.size w w' := by
  have hbd := hs.bd
  obtain ⟨W0, hW, st⟩ := St.start_any hR 29
  have HW := Lib.hid hW
  have ST0 := Lib.hid st
  have bp := hbd.p
  have HWI := Lib.hid (right_wired hr)
  have HRT := Lib.hid hr
  obtain ⟨W1, hmk, blk, hb1⟩ := madeBools c bp W0
  obtain ⟨x0, x1, x2, x3, x4, x5, hz⟩ := st.cells
  have HB1 := Lib.hid blk
  have ST1 := Lib.hid (st.up hb1)
  clear hR hW st hbd hr blk hb1
  go_enter Try.func25, Try.ntmps25
  go_upto_region 1 with (fail)
  rw [HW.out]
  go_wp2
  clear hmk x0 x1 x2 x3 x4 x5 hz
  go_loopw [8] (fun g wr => ∃ (gr : Bool) (bs : List Bool), g = .bool gr ∧ bs.length = c.parts.length ∧ Hid (Blk wr W0.heap.size 4 (boolsV bs)) ∧ Hid (∀ i, bs[i]? = some true → Rch c f i) ∧ Hid (gr = false → ∀ k, bs[k]? = some false → hitB c f bs k c.parts.length = false) ∧ Hid (St w (wr) c A1 A2 A3 A4 A5 c1 c2 c3 c4 c5))
    (fun g wr => cntF wr W0.heap.size + (match g with | .bool true => 1 | _ => 0))
  case atStart => exact ⟨true, List.replicate c.parts.length false, rfl, by simp, HB1, Lib.hid (fun i hi => by rw [List.getElem?_replicate] at hi; split at hi <;> simp at hi), Lib.hid (fun e => by cases e), ST1⟩
  case round =>
    obtain ⟨gr, bs0, rfl, hl0, HB, HR, HN, ST⟩ := hrel
    cases gr with
    | true =>
      have HC0 := Lib.hid HB.out.cntF
      have HP0 := Lib.hid (Pass.start hl0 HR.out)
      obtain ⟨wo, rfl⟩ : ∃ wo : World, wo = wr := ⟨_, rfl⟩
      obtain ⟨x0, x1, x2, x3, x4, x5, hz⟩ := ST.out.cells
      go_wp2
      clear x0 x1 x2 x3 x4 x5 hz
      go_loopw [8, 9] (fun g k wj => ∃ (gr : Bool) (m : Nat) (bs : List Bool), g = .bool gr ∧ k = .int .i64 m ∧ m ≤ c.parts.length ∧ Hid (Pass c f bs0 bs m gr) ∧ Hid (Blk wj W0.heap.size 4 (boolsV bs)) ∧ Hid (St w (wj) c A1 A2 A3 A4 A5 c1 c2 c3 c4 c5)) (fun _ k _ => c.parts.length - (intOf k).toNat)
      case atStart => exact ⟨false, 0, bs0, rfl, rfl, Nat.zero_le _, HP0, HB, ST⟩
      case round =>
        obtain ⟨gr, k, bs, rfl, rfl, hk, HP, HBj, STj⟩ := hrel
        obtain ⟨x0, x1, x2, x3, x4, x5, hz⟩ := STj.out.cells
        by_cases hlt : k < c.parts.length
        · have hbl := HP.out.len
          obtain ⟨b, hb⟩ : ∃ b, bs[k]? = some b := ⟨_, List.getElem?_eq_getElem (by omega)⟩
          have hcell := bools_cell HBj.out hb
          have hgl := HBj.out.lt
          have k0 : (0 : Int) ≤ (k : Int) := by omega
          have k1 : (k : Int) < (c.parts.length : Int) := by omega
          have HBL := Lib.hid hbl
          clear hbl
          rcases bool_cases b with rfl | rfl
          · have HP2 := Lib.hid (HP.out.skip hb)
            clear hb
            go_wp2
            go_roundw
            case rel => exact ⟨gr, k + 1, bs, rfl, by go_num, by omega, HP2, HBj, STj⟩
            case measure => simp [intOf]; omega
          · have HBK := Lib.hid hb
            obtain ⟨p, hp⟩ := get_lt hlt
            have HPI := Lib.hid (pid_at hp)
            obtain ⟨bp0, o, rfl, hbp, g0, _⟩ := par_at STj.out.R.parts hp
            have HPP := Lib.hid hp
            clear hb hp
            obtain ⟨s, hsv⟩ : ∃ s, sendsB c f p.id = s := ⟨_, rfl⟩
            have HS := Lib.hid hsv
            clear hsv
            go_wp2_with fail
            refine wp_region_ext (by kernel_rfl) (by kernel_rfl) ?_
            repeat (go_big_quiet_step ((go_at_call 43; exact Calls.quiet_ext (sends_val c _ _ _ _ _ _ _ _ _ _ _ (STj.out.ext _).R hs HWI.out f p.id s HS))))
            refine wpQuiet_nil ?_
            intro xq
            have ST2 := Lib.hid (STj.out.ext xq)
            have HB2 := Lib.hid (HBj.out.below (ext_below _ xq) hgl)
            have HH2 := Lib.hid (show hitB c f bs k 0 = s by rw [hitB_zero, HPI.out]; exact HS.out)
            clear x0 x1 x2 x3 x4 x5 hz g0 hcell hbp
            generalize ext _ xq = W2 at ST2 HB2 ⊢
            have hgl2 := HB2.out.lt
            obtain ⟨x0, x1, x2, x3, x4, x5, hz⟩ := ST2.out.cells
            go_wp2
            clear x0 x1 x2 x3 x4 x5 hz
            go_loopw [10, 11] (fun h i wi => ∃ (hv : Bool) (m : Nat), h = .bool hv ∧ i = .int .i64 m ∧ m ≤ c.parts.length ∧ Hid (hitB c f bs k m = hv) ∧ Hid (Below W2.heap.size W2 wi)) (fun _ i _ => c.parts.length - (intOf i).toNat)
            case atStart => exact ⟨s, 0, rfl, rfl, Nat.zero_le _, HH2, Lib.hid (Below.refl _ _)⟩
            case round =>
              obtain ⟨hv, m, rfl, rfl, hm, HH, HBW⟩ := hrel
              have STi := Lib.hid (ST2.out.up HBW.out)
              have HBi := Lib.hid (HB2.out.below HBW.out hgl2)
              obtain ⟨x0, x1, x2, x3, x4, x5, hz⟩ := STi.out.cells
              by_cases hltm : m < c.parts.length
              · obtain ⟨bm, hbm⟩ : ∃ b, bs[m]? = some b := ⟨_, List.getElem?_eq_getElem (by have := HBL.out; omega)⟩
                have hcellm := bools_cell HBi.out hbm
                have hgli := HBi.out.lt
                obtain ⟨q, hq⟩ := get_lt hltm
                have HPM := Lib.hid (pid_at hq)
                obtain ⟨bp1, o1, e1, hbp1, q0, _⟩ := par_at STi.out.R.parts hq
                obtain ⟨bp2, o2, e2, hbp2, g0, _⟩ := par_at STi.out.R.parts HPP.out
                obtain ⟨rfl, rfl⟩ : bp0 = bp1 ∧ o = o1 := by simpa using e1
                obtain ⟨rfl, rfl⟩ : bp0 = bp2 ∧ o = o2 := by simpa using e2
                obtain ⟨s2, hs2⟩ : ∃ s, sendsB c q.id p.id = s := ⟨_, rfl⟩
                have HS2 := Lib.hid hs2
                have HHN := Lib.hid (show hitB c f bs k (m + 1) = (hv || (bm && s2)) by rw [hitB_next hbm, HH.out, HPM.out, HPI.out, HS2.out])
                have m0 : (0 : Int) ≤ (m : Int) := by omega
                have m1 : (m : Int) < (c.parts.length : Int) := by omega
                clear hs2 hq e1 e2 hbm
                rcases bool_cases hv with rfl | rfl <;> rcases bool_cases bm with rfl | rfl
                all_goals
                  go_wp2_with fail
                  refine wp_region_ext (by kernel_rfl) (by kernel_rfl) ?_
                  repeat (go_big_quiet_step ((go_at_call 43; exact Calls.quiet_ext (sends_val c _ _ _ _ _ _ _ _ _ _ _ (STi.out.ext _).R hs HWI.out q.id p.id s2 HS2))))
                  refine wpQuiet_nil ?_
                  intro xr
                  have HBN := Lib.hid (Below.then_ HBW.out (ext_below _ xr))
                  clear x0 x1 x2 x3 x4 x5 hz hcellm g0 q0
                  go_wp2
                  go_roundw
                  case rel => exact ⟨_, m + 1, rfl, by go_num, by omega, Lib.hid (by rw [HHN.out]; rfl), HBN⟩
                  case measure => simp [intOf]; omega
              · obtain rfl : m = c.parts.length := by omega
                rcases bool_cases hv with rfl | rfl
                · have HP2 := Lib.hid (HP.out.hit hlt HBK.out HH.out)
                  have hcellk := bools_cell HBi.out HBK.out
                  have hfr := HBi.out.frozen k
                  have HBS := Lib.hid (bools_set (k := k) (b := true) HBi.out)
                  have STS := Lib.hid (STi.out.keep ((Below.refl (w.heap.size + 1) wr).setCell (p := ⟨W0.heap.size, k, none⟩) (by have := ST1.out.z; have := ST0.out.z; show w.heap.size + 1 ≤ W0.heap.size; omega) (.bool true)))
                  have hgli := HBi.out.lt
                  go_wp2
                  go_roundw
                  case rel => exact ⟨true, k + 1, bs.set k true, rfl, by go_num, by omega, HP2, HBS, STS⟩
                  case measure => simp [intOf]; omega
                · have HP2 := Lib.hid (HP.out.miss HH.out)
                  go_wp2
                  go_roundw
                  case rel => exact ⟨gr, k + 1, bs, rfl, by go_num, by omega, HP2, HBi, STi⟩
                  case measure => simp [intOf]; omega
        · obtain rfl : k = c.parts.length := by omega
          have hlen := HP.out.len
          have hcn := HBj.out.cntF
          have hc0 := HC0.out
          have hcle := HP.out.cnt
          have hyes := HP.out.yes
          have HCN := Lib.hid (And.intro hcn hc0)
          rcases bool_cases gr with rfl | rfl
          · have hy := hyes rfl
            clear hcn hc0 hyes
            go_wp2
            go_roundw
            case rel => exact ⟨true, bs, rfl, hlen, HBj, Lib.hid HP.out.rch, Lib.hid (fun e => by cases e), STj⟩
            case measure => have := HCN.out; simp; omega
          · clear hcn hc0 hyes
            have HE := Lib.hid HP.out.end_
            go_wp2
            go_roundw
            case rel => exact ⟨false, bs, rfl, hlen, HBj, Lib.hid HP.out.rch, Lib.hid (fun _ => HE.out), STj⟩
            case measure => have := HCN.out; simp; omega
    | false =>
      obtain ⟨x0, x1, x2, x3, x4, x5, hz⟩ := ST.out.cells
      rcases idx_cases (fun x => x.id == t) c.parts with ⟨h1, _⟩ | ⟨k, p, h1, hk, _⟩
      · have HT := Lib.hid h1
        have HV := Lib.hid (flowB_no2 (f := f) h1)
        clear h1
        go_wp2_with fail
        refine (rPartition_val c _ _ _ _ _ _ _ _ _ _ _ ST.out.R hs t (-1) HT).mono ?_
        rintro e w5 ⟨rfl, hb5⟩
        have HZ := Lib.hid (ST.out.up hb5).bel
        clear hb5 x0 x1 x2 x3 x4 x5 hz
        go_wp2
        go_ret
        exact ⟨ret_bool HV.out.symm, HZ.out⟩
      · have HT := Lib.hid h1
        obtain ⟨b, hb⟩ : ∃ b, bs0[k]? = some b := ⟨_, List.getElem?_eq_getElem (by omega)⟩
        have HV := Lib.hid (flow_seen HRT.out hl0 HR.out (HN.out rfl) h1 hb)
        have HBK := Lib.hid hb
        have hgl := HB.out.lt
        have k0 : (0 : Int) ≤ (k : Int) := by omega
        have k1 : (k : Int) < (c.parts.length : Int) := by omega
        have mge : decide (0 ≤ (k : Int)) = true := decide_eq_true k0
        clear h1 hb
        go_wp2_with fail
        refine (rPartition_val c _ _ _ _ _ _ _ _ _ _ _ ST.out.R hs t k HT).mono ?_
        rintro e w5 ⟨rfl, hb5⟩
        have HZ := Lib.hid (ST.out.up hb5).bel
        have hcell := bools_cell (HB.out.below hb5 hgl) HBK.out
        clear hb5 x0 x1 x2 x3 x4 x5 hz
        go_wp2
        go_ret
        exact ⟨ret_bool HV.out.symm, HZ.out⟩
end Go.Proofs.Ytifmcdnaaaphmaa
