/-
  left, Allowed and Right of the reference of layer 17, walked.
-/
import Derived.BigQuiet
import Derived.Test.YticdjnbkeiilfaaGreatRigM
import Derived.Test.YticdjnbkeiilfaaGreatCutW
import Derived.Test.YticdjnbkeiilfaaGreatMemP
import Derived.Test.YticdjnbkeiilfaaGreatMemA
namespace Go.Proofs.YticdjnbkeiilfaaGreat
open Go.RowKit
attribute [local go_sem] ext_cell
theorem own_one_spn (W : World) (a b : Int) (base : Nat) (hb : base ≤ W.heap.size) : (W.alloc (.cells #[.int .u64 a, .int .u64 b] 102)).ownsRow base 102 2 (.slice (some ⟨W.heap.size, 0, none⟩) 1 1) ([⟨a, b⟩] : List Spn).length (([⟨a, b⟩] : List Spn).flatMap Spn.cells) :=
  ⟨rfl, .inr ⟨W.heap.size, 1, #[.int .u64 a, .int .u64 b], rfl, hb, heap_alloc_new W _, Nat.le_refl _, by unfold maxLen; omega, rfl, rfl⟩⟩
theorem keepR_next {l : List Reg} {k : Nat} {x : Reg} {p m : Int} (hx : l[k]? = some x) (h : keepR p m x = true) : (l.take (k + 1)).filter (keepR p m) = (l.take k).filter (keepR p m) ++ [x] := by
  rw [take_next hx, List.filter_append]; simp [h]
theorem keepR_skip {l : List Reg} {k : Nat} {x : Reg} {p m : Int} (hx : l[k]? = some x) (h : keepR p m x = false) : (l.take (k + 1)).filter (keepR p m) = (l.take k).filter (keepR p m) := by
  rw [take_next hx, List.filter_append]; simp [h]
set_option maxRecDepth 100000 in
set_option maxHeartbeats 8000000 in
theorem rLeft_ok (c : Cfg) (A1 A2 A3 A4 A5 : Option Addr) (c1 c2 c3 c4 c5 : Nat) (w : World) (hR : CfgR w w.heap.size c A1 A2 A3 A4 A5 c1 c2 c3 c4 c5) (hs : c.small) (hsp : ∀ x ∈ c.regs, okSp x.base x.size) (p m : Int) (s : Spn) (hs' : okS s) : Calls Tryz.prog 59 #[cfgV c.frame A1 A2 A3 A4 A5 c.parts.length c.wins.length c.regs.length c.ports.length c.chans.length c1 c2 c3 c4 c5, .int .u16 p, .int .u8 m, .agg #[.int .u64 s.lo, .int .u64 s.len]] w
    fun e w' => ∃ (v : Value) (o : List Spn), e = .returned v ∧ w'.ownsRow w.heap.size 102 2 v o.length (o.flatMap Spn.cells) ∧ LeftOk s (ofL c p m) o ∧ Below w.heap.size w w' := by
  obtain ⟨W0, hW, st⟩ := St.start_any hR 29
  have HW := Lib.hid hW
  have hbd := hs.bd
  have br := hbd.r
  have HSP := Lib.hid hsp
  have e0 : W0.heap.size = w.heap.size + 1 := by rw [← hW]; simp
  have hb1 := below_one W0 (.cells #[.int .u64 s.lo, .int .u64 s.len] 102)
  have hc0 : (W0.alloc (.cells #[.int .u64 s.lo, .int .u64 s.len] 102)).cell? ⟨w.heap.size + 1, 0, none⟩ = some (.int .u64 s.lo) := by rw [← e0]; simp
  have hc1 : (W0.alloc (.cells #[.int .u64 s.lo, .int .u64 s.len] 102)).cell? ⟨w.heap.size + 1, 1, none⟩ = some (.int .u64 s.len) := by rw [← e0]; simp
  have hz : (W0.alloc (.cells #[.int .u64 s.lo, .int .u64 s.len] 102)).heap.size = w.heap.size + 1 + 1 := by simp [e0]
  obtain ⟨W2, hW2⟩ : ∃ W2, W0.alloc (.cells #[.int .u64 s.lo, .int .u64 s.len] 102) = W2 := ⟨_, rfl⟩
  rw [hW2] at hb1 hc0 hc1 hz
  have HW2 := Lib.hid hW2
  have hb3 := below_one W2 (.cells #[.int .u64 s.lo, .int .u64 s.len] 102)
  have ho3 := own_one_spn W2 s.lo s.len (w.heap.size + 1) (by omega)
  have hst := (st.up hb1).up hb3
  obtain ⟨W3, hW3⟩ : ∃ W3, W2.alloc (.cells #[.int .u64 s.lo, .int .u64 s.len] 102) = W3 := ⟨_, rfl⟩
  rw [hW3] at hst ho3
  rw [hz] at ho3
  have HO3 := Lib.hid ho3
  clear ho3
  have HW3 := Lib.hid hW3
  have ST3 := Lib.hid hst
  have HL0 := Lib.hid (LeftOk.start hs')
  clear hR hW hW2 hW3 st hbd hb1 hb3 hst hsp e0
  go_enter Tryz.func59, Tryz.ntmps59
  go_upto_region 1 with (fail)
  rw [HW.out, HW2.out]
  go_upto_region 2 with (fail)
  rw [HW3.out]
  clear hc0 hc1
  go_wp2
  go_loopw [9, 10] (fun o i wr => ∃ (k : Nat) (rows : List Spn), k ≤ c.regs.length ∧ i = .int .i64 k ∧ Hid (wr.ownsRow (w.heap.size + 1) 102 2 o rows.length (rows.flatMap Spn.cells)) ∧ Hid (LeftOk s ((c.regs.take k).filter (keepR p m)) rows) ∧ Hid (St w (wr) c A1 A2 A3 A4 A5 c1 c2 c3 c4 c5)) (fun _ i _ => c.regs.length - (intOf i).toNat)
  case atStart => exact ⟨0, _, Nat.zero_le _, rfl, HO3, HL0, ST3⟩
  case round =>
    obtain ⟨k, rows, hk, rfl, HO, HL, ST⟩ := hrel
    obtain ⟨x0, x1, x2, x3, x4, x5, hz⟩ := ST.out.cells
    by_cases hlt : k < c.regs.length
    · obtain ⟨x, hx⟩ := get_lt hlt
      have hox := HSP.out x (List.mem_of_getElem? hx)
      obtain ⟨bb, o, rfl, hbb, g0, g1, g2, g3, g4⟩ := reg_at ST.out.R.regs hx
      have HX := Lib.hid hx
      have n0 : (0 : Int) ≤ (k : Int) := by omega
      have n1 : (k : Int) < (c.regs.length : Int) := by omega
      obtain ⟨W4, hW4, rb, hb4⟩ := RgBox.new wr x 41
      have HW4 := Lib.hid hW4
      have ST4 := Lib.hid (ST.out.up hb4)
      have HO4 := Lib.hid (own_below HO.out hb4)
      obtain ⟨p0, p1, p2, p3, p4, hg⟩ := rb
      have hfl : ((c.regs.take k).filter (keepR p m)).length ≤ 1048576 := Nat.le_trans (List.length_filter_le _ _) (by rw [List.length_take]; omega)
      have HFL := Lib.hid hfl
      clear hx hW4 hb4 hfl
      go_upto_region 6 with (fail)
      rw [HW4.out]
      clear g0 g1 g2 g3 g4 hbb x0 x1 x2 x3 x4 x5 hz
      by_cases h1 : x.part = p
      · by_cases h2 : bits .and .u8 x.rights m = m
        · have HN := Lib.hid (keepR_next HX.out (show keepR p m x = true by unfold keepR; simp [h1, h2]))
          have HL1 := Lib.hid (HL.out.next hox)
          obtain ⟨RA, rc, rfl, _, _, hrd⟩ := own_form HO4.out
          have hrl : rows.length ≤ 1048577 := by have := HL.out.len; have := HFL.out; omega
          have HRD := Lib.hid hrd
          subst h1
          go_wp2_with fail
          refine (rSpan_ok x W4).mono ?_
          rintro e w5 ⟨rfl, hb5⟩
          have ST5 := Lib.hid (ST4.out.up hb5)
          have HRD5 := Lib.hid (HRD.out.up hb5)
          clear hb5 p0 p1 p2 p3 p4 hg hrd
          go_wp2_with fail
          refine (rCut_ok rows RA rc (spnOf x) w5 hrl HRD5.out HL.out.ok hox HL.out.ap).mono ?_
          rintro e w6 ⟨v, rfl, ho6, hb6⟩
          have HO6 := Lib.hid (own_lessM ho6 (show w.heap.size + 1 ≤ w5.heap.size from ST5.out.z))
          have ST6 := Lib.hid (ST5.out.up hb6)
          clear ho6 hb6
          go_wp2
          go_roundw
          case rel => exact ⟨k + 1, _, by omega, by go_num, HO6, Lib.hid (by rw [HN.out]; exact HL1.out), ST6⟩
          case measure => simp [intOf]; omega
        · have HN := Lib.hid (keepR_skip HX.out (show keepR p m x = false by unfold keepR; simp [h2]))
          go_wp2
          go_roundw
          case rel => exact ⟨k + 1, rows, by omega, by go_num, HO4, Lib.hid (by rw [HN.out]; exact HL.out), ST4⟩
          case measure => simp [intOf]; omega
      · have HN := Lib.hid (keepR_skip HX.out (show keepR p m x = false by unfold keepR; simp [h1]))
        go_wp2
        go_roundw
        case rel => exact ⟨k + 1, rows, by omega, by go_num, HO4, Lib.hid (by rw [HN.out]; exact HL.out), ST4⟩
        case measure => simp [intOf]; omega
    · obtain rfl : k = c.regs.length := by omega
      clear x0 x1 x2 x4 x5
      go_wp2
      go_ret
      exact ⟨_, rows, rfl, own_lessM HO.out (by omega), by have := HL.out; rwa [List.take_length] at this, ST.out.bel⟩
set_option maxRecDepth 100000 in
set_option maxHeartbeats 4000000 in
theorem rAllowed_ok (c : Cfg) (A1 A2 A3 A4 A5 : Option Addr) (c1 c2 c3 c4 c5 : Nat) (w : World) (hR : CfgR w w.heap.size c A1 A2 A3 A4 A5 c1 c2 c3 c4 c5) (hs : c.small) (hsp : ∀ x ∈ c.regs, okSp x.base x.size) (p m b s : Int) (hb : wU64 b) (hz : wU64 s) : Calls Tryz.prog 27 #[cfgV c.frame A1 A2 A3 A4 A5 c.parts.length c.wins.length c.regs.length c.ports.length c.chans.length c1 c2 c3 c4 c5, .int .u16 p, .int .u64 b, .int .u64 s, .int .u8 m] w fun e w' => e = .returned (.bool (allowB b s (covB (ofL c p m) b s))) ∧ Below w.heap.size w w' := by
  obtain ⟨W0, hW, st⟩ := St.start_any hR 29
  have HW := Lib.hid hW
  have ST0 := Lib.hid st
  have bb := Go.bounds_u64 hb
  have bz := Go.bounds_u64 hz
  have HSP := Lib.hid hsp
  clear hR hW st hsp
  by_cases h0 : s = 0
  · subst h0
    have HV := Lib.hid (show allowB b 0 (covB (ofL c p m) b 0) = true by unfold allowB; rw [if_pos rfl])
    go_enter Tryz.func27, Tryz.ntmps27
    go_upto_region 1 with (fail)
    rw [HW.out]
    go_wp2
    go_ret
    exact ⟨ret_bool HV.out.symm, ST0.out.bel⟩
  · have hb1 := below_one W0 (.cells #[.int .u64 b, .int .u64 s] 102)
    have st1 := ST0.out.up hb1
    have hc0 : (W0.alloc (.cells #[.int .u64 b, .int .u64 s] 102)).cell? ⟨W0.heap.size, 0, none⟩ = some (.int .u64 b) := by simp
    have hc1 : (W0.alloc (.cells #[.int .u64 b, .int .u64 s] 102)).cell? ⟨W0.heap.size, 1, none⟩ = some (.int .u64 s) := by simp
    have hzz : W0.heap.size < (W0.alloc (.cells #[.int .u64 b, .int .u64 s] 102)).heap.size := by simp
    obtain ⟨W1, hW1⟩ : ∃ W1, W0.alloc (.cells #[.int .u64 b, .int .u64 s] 102) = W1 := ⟨_, rfl⟩
    rw [hW1] at st1 hc0 hc1 hzz
    have HW1 := Lib.hid hW1
    have ST1 := Lib.hid st1
    have HC0 := Lib.hid hc0
    have HC1 := Lib.hid hc1
    clear st1 hW1 hb1
    by_cases hv : validB b s = true
    · have HVB := Lib.hid hv
      have hok : okS (⟨b, s⟩ : Spn) := validB_ok bb.1 hv
      have HAL := Lib.hid (show allowB b s (covB (ofL c p m) b s) = covB (ofL c p m) b s by unfold allowB; rw [if_neg h0, hv, Bool.true_and])
      rw [HAL.out]
      clear HAL hv
      go_enter Tryz.func27, Tryz.ntmps27
      go_upto_region 1 with (fail)
      rw [HW.out]
      go_upto_region 4 with (fail)
      rw [HW1.out]
      go_wp2_with fail
      refine (rValid_ok b s _ hb hz).mono ?_
      rw [HVB.out]
      rintro e w2 ⟨rfl, hb2⟩
      have ST2 := Lib.hid (ST1.out.up hb2)
      have k0 := (hb2.cell (p := ⟨W0.heap.size, 0, none⟩) hzz).trans HC0.out
      have k1 := (hb2.cell (p := ⟨W0.heap.size, 1, none⟩) hzz).trans HC1.out
      clear hb2 hc0 hc1
      obtain ⟨x0, x1, x2, x3, x4, x5, hq⟩ := ST2.out.cells
      go_wp2_with fail
      refine (rLeft_ok c _ _ _ _ _ _ _ _ _ _ _ ST2.out.R hs HSP.out p m ⟨b, s⟩ hok).mono ?_
      rintro e w3 ⟨v, rows, rfl, ho, hl, hb3⟩
      have HZ := Lib.hid (ST2.out.up hb3).bel
      obtain ⟨RA, rc, rfl, _⟩ := own_form ho
      have he := hl.empty
      clear ho hb3 x0 x1 x2 x3 x4 x5 hq k0 k1
      rcases rows with _ | ⟨x, r⟩
      · have HV := Lib.hid (covB_yes (he.1 rfl))
        clear he hl
        go_wp2
        go_ret
        exact ⟨ret_bool (by rw [HV.out]), HZ.out⟩
      · have HV := Lib.hid (covB_no (fun h => by have := he.2 h; cases this))
        have hne : (((x :: r).length : Nat) : Int) ≠ 0 := by simp; omega
        generalize (x :: r).length = n at hne ⊢
        have hne2 : ((n : Int) == 0) = false := by rw [beq_eq_false_iff_ne]; exact hne
        clear he hl
        go_wp2
        go_ret
        exact ⟨ret_bool (by rw [HV.out]), HZ.out⟩
    · have hvf : validB b s = false := by simpa using hv
      have HVB := Lib.hid hvf
      have HAL := Lib.hid (show allowB b s (covB (ofL c p m) b s) = false by unfold allowB; rw [if_neg h0, hvf, Bool.false_and])
      clear hvf hv
      go_enter Tryz.func27, Tryz.ntmps27
      go_upto_region 1 with (fail)
      rw [HW.out]
      go_upto_region 4 with (fail)
      rw [HW1.out]
      go_wp2_with fail
      refine (rValid_ok b s _ hb hz).mono ?_
      rw [HVB.out]
      rintro e w2 ⟨rfl, hb2⟩
      have HZ := Lib.hid (ST1.out.up hb2).bel
      clear hb2 hc0 hc1
      go_wp2
      go_ret
      exact ⟨ret_bool HAL.out.symm, HZ.out⟩
end Go.Proofs.YticdjnbkeiilfaaGreat
