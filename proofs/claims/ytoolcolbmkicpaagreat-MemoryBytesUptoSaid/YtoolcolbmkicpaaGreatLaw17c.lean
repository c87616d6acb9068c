/-
  The law MemoryBytes, walked.
-/
import Derived.BigQuiet
import Derived.Test.YtoolcolbmkicpaaGreatLaw17a
import Derived.Test.YtoolcolbmkicpaaGreatRefY
import Derived.Test.YtoolcolbmkicpaaGreatShaW
namespace Go.Proofs.YtoolcolbmkicpaaGreat
open Go.RowKit Go.Lib
attribute [local go_sem] ext_cell
set_option maxRecDepth 100000 in
set_option maxHeartbeats 1000000 in
theorem index16M_ok (l : List Int) (A : Option Addr) (cp : Nat) (id : Int) (w : World) (hl : l.length ≤ 1048576) (hP : Rd w w.heap.size 1 A l.length (l.map (Value.int .u16))) :
    Calls Tryz.prog 28 #[.slice A l.length cp, .int .u16 id] w fun e w' => e = .returned (.int .i64 (idx (fun y => id == y) l)) ∧ Below w.heap.size w w' := by
  go_enter Tryz.func28, Tryz.ntmps28
  go_wp2
  go_loop [8] (fun i => ∃ k : Nat, k ≤ l.length ∧ i = .int .i64 k ∧ Hid (idx (fun y => id == y) l = idxFrom (fun y => id == y) k (l.drop k))) (fun i => l.length - (intOf i).toNat)
  case atStart => exact ⟨0, Nat.zero_le _, rfl, Lib.hid rfl⟩
  case round =>
    obtain ⟨k, hk, rfl, hrest⟩ := hrel
    by_cases hlt : k < l.length
    · obtain ⟨y, hy⟩ := get_lt hlt
      obtain ⟨b, o, rfl, hb, g0⟩ := int_at hP hy
      have HY := Lib.hid hy
      clear hy
      rcases beq_cases id y with hp | hp
      · have HP := Lib.hid (show (fun y => id == y) y = true from hp)
        go_wp2
        go_ret
        exact ⟨ret_int (idx_hit hrest.out HY.out HP.out).symm, Below.refl _ _⟩
      · have HP := Lib.hid (show (fun y => id == y) y = false from hp)
        go_wp2
        go_round
        case rel => exact ⟨k + 1, by omega, by go_num, Lib.hid (idx_miss hrest.out HY.out HP.out)⟩
        case measure => simp [intOf]; omega
    · obtain rfl : k = l.length := by omega
      go_wp2
      go_ret
      exact ⟨ret_int (idx_end hrest.out).symm, Below.refl _ _⟩
theorem idx_anyM {α : Type} (p : α → Bool) (l : List α) : 0 ≤ idx p l ↔ l.any p = true := idx_any p l 0
set_option maxRecDepth 100000 in
set_option maxHeartbeats 1000000 in
theorem contains16M_ok (l : List Int) (A : Option Addr) (cp : Nat) (id : Int) (w : World) (hl : l.length ≤ 1048576) (hP : Rd w w.heap.size 1 A l.length (l.map (Value.int .u16))) (hm : Hid (id ∈ l)) :
    Calls Tryz.prog 11 #[.slice A l.length cp, .int .u16 id] w fun e w' => e = .returned (.bool true) ∧ Below w.heap.size w w' := by
  obtain ⟨u, hu⟩ : ∃ u, idx (fun y => id == y) l = u := ⟨_, rfl⟩
  have h0 : 0 ≤ u := by
    rw [← hu, idx_anyM, List.any_eq_true]
    exact ⟨id, hm.out, by simp⟩
  have hi := index16M_ok l A cp id w hl hP
  rw [hu] at hi
  clear hu
  go_enter Tryz.func11, Tryz.ntmps11
  go_wp2_with (go_at_call 28; refine hi.mono ?_; rintro e w1 ⟨rfl, hb1⟩)
  go_ret
  exact ⟨rfl, hb1⟩
theorem eqUM_same (l : List Int) (A B : Option Addr) (a b : Nat) (w : World) (hl : l.length ≤ 4194304) (hA : Rd w w.heap.size 1 A l.length (l.map (Value.int .u16))) (hB : Rd w w.heap.size 1 B l.length (l.map (Value.int .u16))) :
    Calls Tryz.prog 9 #[.slice A l.length a, .slice B l.length b] w fun e w' => e = .returned (.bool true) ∧ Below w.heap.size w w' := by
  have HA := Lib.hid hA
  have HB := Lib.hid hB
  clear hA hB
  go_enter Tryz.func9, Tryz.ntmps9
  go_wp2
  go_loopw [13] (fun i wr => ∃ k : Nat, k ≤ l.length ∧ i = .int .i64 k ∧ Hid (Below w.heap.size w wr)) (fun i _ => l.length - (intOf i).toNat)
  case atStart => exact ⟨0, Nat.zero_le _, rfl, Lib.hid (Below.refl _ _)⟩
  case round =>
    obtain ⟨k, hk, rfl, HW⟩ := hrel
    by_cases hlt : k < l.length
    · obtain ⟨x, hx⟩ := get_lt hlt
      obtain ⟨b1, o1, rfl, h1, g1⟩ := int_at (HA.out.below HW.out) hx
      obtain ⟨b2, o2, rfl, h2, g2⟩ := int_at (HB.out.below HW.out) hx
      have k0 : (0 : Int) ≤ (k : Int) := by omega
      have k1 : (k : Int) < (l.length : Int) := by omega
      clear hx
      go_wp2
      go_quiet (fail)
      go_wp2
      go_roundw
      case rel => exact ⟨k + 1, by omega, by go_num, Lib.hid (below_drewN HW.out _)⟩
      case measure => simp [intOf]; omega
    · obtain rfl : k = l.length := by omega
      go_wp2
      go_ret
      exact ⟨rfl, HW.out⟩
/-- a slice of slices reads as rows -/
def RowsR (w : World) (A : Option Addr) (rows : List (List Int)) : Prop := ∃ vs, Rd w w.heap.size 1 A rows.length vs ∧ ∀ (i : Nat) (l : List Int) (v : Value), rows[i]? = some l → vs[i]? = some v → ∃ A' c', v = .slice A' l.length c' ∧ Rd w w.heap.size 1 A' l.length (l.map (Value.int .i64))
theorem good_few {c : Cfg} (h : goodM c = true) : c.regs.length ≤ 120 := by
  unfold goodM few at h
  simp only [Bool.and_eq_true, decide_eq_true_eq] at h
  have := h.1.2
  unfold Cfg.total at this
  omega
theorem bytM_ok (c : Cfg) (A1 A2 A3 A4 A5 : Option Addr) (c1 c2 c3 c4 c5 : Nat) (w : World) (hR : CfgR w w.heap.size c A1 A2 A3 A4 A5 c1 c2 c3 c4 c5) (hs : c.small) (hsp : ∀ x ∈ c.regs, okSp x.base x.size) (p : Int) : ∃ n b, (Calls Tryz.prog 6 #[cfgV c.frame A1 A2 A3 A4 A5 c.parts.length c.wins.length c.regs.length c.ports.length c.chans.length c1 c2 c3 c4 c5, .int .u16 p] w fun e w' => e = .returned (.tuple #[.int .u64 n, .bool b]) ∧ Below w.heap.size w w') ∧ ∀ V : World, CfgR V V.heap.size c A1 A2 A3 A4 A5 c1 c2 c3 c4 c5 → Calls Tryz.prog 7 #[cfgV c.frame A1 A2 A3 A4 A5 c.parts.length c.wins.length c.regs.length c.ports.length c.chans.length c1 c2 c3 c4 c5, .int .u16 p] V fun e w' => e = .returned (.tuple #[.int .u64 n, .bool b]) ∧ Below V.heap.size V w' := by
  obtain ⟨n, b, h⟩ : ∃ n b, bytV (ofL c p 0) = (n, b) := by
    generalize bytV (ofL c p 0) = z
    obtain ⟨n, b⟩ := z
    exact ⟨n, b, rfl⟩
  exact ⟨n, b, memBytes_ok c A1 A2 A3 A4 A5 c1 c2 c3 c4 c5 w hR hs hsp p n b (Lib.hid h), fun V hV => rBytes_ok c A1 A2 A3 A4 A5 c1 c2 c3 c4 c5 V hV hs hsp p n b (Lib.hid h)⟩
set_option maxRecDepth 100000 in
set_option maxHeartbeats 16000000 in
theorem memoryBytes_ok (c : Cfg) (A1 A2 A3 A4 A5 : Option Addr) (c1 c2 c3 c4 c5 : Nat) (w : World) (hR : CfgR w w.heap.size c A1 A2 A3 A4 A5 c1 c2 c3 c4 c5) (hs : c.small) (hok : c.ok) (p : Int) (hp : wU16 p) : Calls Tryz.prog 3 #[cfgV c.frame A1 A2 A3 A4 A5 c.parts.length c.wins.length c.regs.length c.ports.length c.chans.length c1 c2 c3 c4 c5, .int .u16 p] w fun e w' => e = .returned (.bool true) ∧ Below w.heap.size w w' := by
  obtain ⟨W0, hW, st⟩ := St.start_any hR 29
  have HW := Lib.hid hW
  have ST0 := Lib.hid st
  have HOK := Lib.hid hok
  have pb := Go.bounds_u16 hp
  have HPB := Lib.hid pb
  obtain ⟨x0, x1, x2, x3, x4, x5, hz⟩ := st.cells
  clear hR hW st hok pb
  rcases bool_cases (goodM c) with h1 | h1
  rotate_left
  · have H1 := Lib.hid h1
    clear h1
    go_enter Tryz.func3, Tryz.ntmps3
    go_upto_region 1 with (fail)
    rw [HW.out]
    go_wp2_with fail
    refine (goodM_ok c _ _ _ _ _ _ _ _ _ _ _ ST0.out.R hs HOK.out false H1).mono ?_
    rintro e w1 ⟨rfl, hb1⟩
    have HB1 := Lib.hid (ST0.out.up hb1).bel
    clear hb1 x0 x1 x2 x3 x4 x5 hz
    go_wp2_with fail
    refine (alive_ok _).mono ?_
    rintro e w2 ⟨rfl, hb2⟩
    have HZ := Lib.hid (Below.then_ HB1.out hb2)
    clear hb2
    go_wp2
    go_ret
    exact ⟨rfl, HZ.out⟩
  · have H1 := Lib.hid h1
    have HSP := Lib.hid (rightM_sp HOK.out (goodM_right h1))
    have H120 := Lib.hid (good_few h1)
    obtain ⟨l, hl⟩ : ∃ l, shTo c.regs p 65536 = l := ⟨_, rfl⟩
    have HL := Lib.hid hl
    have hll : l.length ≤ 65536 := by rw [← hl]; exact shTo_len _ _ _
    have HMEM := Lib.hid (show ∀ q ∈ l, wU16 q ∧ p ∈ shTo c.regs q 65536 from fun q hq => by
      rw [← hl] at hq
      have h := shTo_mem.1 hq
      refine ⟨by obtain ⟨_, _, _, _, y, hy, rfl, _⟩ := meetsB_iff.1 h.2; exact (HOK.out.regs y hy).part, shTo_mem.2 ⟨⟨HPB.out.1, by have := HPB.out.2; omega⟩, by rw [meetsB_comm]; exact h.2⟩⟩)
    clear h1 hl
    go_enter Tryz.func3, Tryz.ntmps3
    go_upto_region 1 with (fail)
    rw [HW.out]
    go_wp2_with fail
    refine (goodM_ok c _ _ _ _ _ _ _ _ _ _ _ ST0.out.R hs HOK.out true H1).mono ?_
    rintro e w1 ⟨rfl, hb1⟩
    have ST1 := Lib.hid (ST0.out.up hb1)
    clear hb1 x0 x1 x2 x3 x4 x5 hz
    obtain ⟨x0, x1, x2, x3, x4, x5, hz⟩ := ST1.out.cells
    obtain ⟨n, b, hbm, hbr⟩ := bytM_ok c A1 A2 A3 A4 A5 c1 c2 c3 c4 c5 w1 ST1.out.R hs HSP.out p
    go_wp2_with fail
    refine hbm.mono ?_
    rintro e w2 ⟨rfl, hb1⟩
    have ST2 := Lib.hid (ST1.out.up hb1)
    clear hb1 hbm x0 x1 x2 x3 x4 x5 hz
    obtain ⟨x0, x1, x2, x3, x4, x5, hz⟩ := ST2.out.cells
    have hbr2 := hbr w2 ST2.out.R
    clear hbr
    go_wp2_with fail
    refine hbr2.mono ?_
    rintro e w3 ⟨rfl, hb1⟩
    have ST3 := Lib.hid (ST2.out.up hb1)
    clear hb1 hbr2 x0 x1 x2 x3 x4 x5 hz
    obtain ⟨x0, x1, x2, x3, x4, x5, hz⟩ := ST3.out.cells
    go_wp2_with fail
    refine (memShared_ok c A1 A2 A3 A4 A5 c1 c2 c3 c4 c5 w3 ST3.out.R HOK.out H120.out HSP.out p hp l HL).mono ?_
    rintro e w4 ⟨v4, rfl, ho4, hb1⟩
    obtain ⟨RA, ra, rfl, _, _, hrd⟩ := own_form ho4
    have HRD := Lib.hid hrd
    have ST4 := Lib.hid (ST3.out.up hb1)
    clear hb1 ho4 hrd x0 x1 x2 x3 x4 x5 hz
    obtain ⟨x0, x1, x2, x3, x4, x5, hz⟩ := ST4.out.cells
    have HNN := Lib.hid (beq_self_eq_true n)
    cases b
    all_goals
      go_wp2_with fail
      refine (rShared_ok c _ _ _ _ _ _ _ _ _ _ _ ST4.out.R hs HSP.out p 65536 (Lib.hid rfl)).mono ?_
      rintro e w5 ⟨v5, rfl, ho5, hb1⟩
      rw [HL.out] at ho5
      obtain ⟨RB, rb, rfl, _, _, hrd5⟩ := own_form ho5
      have HRD5 := Lib.hid hrd5
      have HRE5 := Lib.hid (HRD.out.up hb1)
      have ST5 := Lib.hid (ST4.out.up hb1)
      clear hb1 ho5 hrd5 x0 x1 x2 x3 x4 x5 hz
      go_wp2_with fail
      refine (eqUM_same l RA RB ra rb w5 (by omega) HRE5.out HRD5.out).mono ?_
      rintro e w6 ⟨rfl, hb1⟩
      have HR6 := Lib.hid (HRE5.out.up hb1)
      have ST6 := Lib.hid (ST5.out.up hb1)
      clear hb1
      go_wp2
      go_loopw [49] (fun i wr => ∃ k : Nat, k ≤ l.length ∧ i = .int .i64 k ∧ Hid (Rd wr wr.heap.size 1 RA l.length (l.map (Value.int .u16))) ∧ Hid (St w (wr) c A1 A2 A3 A4 A5 c1 c2 c3 c4 c5)) (fun i _ => l.length - (intOf i).toNat)
      case atStart => exact ⟨0, Nat.zero_le _, rfl, HR6, ST6⟩
      case round =>
        obtain ⟨k, hk, rfl, HRk, ST⟩ := hrel
        by_cases hlt : k < l.length
        · obtain ⟨q, hq⟩ := get_lt hlt
          obtain ⟨bb, o, rfl, hbb, g0⟩ := int_at HRk.out hq
          obtain ⟨hq0, hq1⟩ := HMEM.out q (List.mem_of_getElem? hq)
          have HQ := Lib.hid hq1
          have hqu : wU16 q := hq0
          have k0 : (0 : Int) ≤ (k : Int) := by omega
          have k1 : (k : Int) < (l.length : Int) := by omega
          obtain ⟨m, hm⟩ : ∃ m, shTo c.regs q 65536 = m := ⟨_, rfl⟩
          have HM := Lib.hid hm
          have hml : m.length ≤ 65536 := by rw [← hm]; exact shTo_len _ _ _
          have HPM := Lib.hid (show p ∈ m by rw [← hm]; exact hq1)
          obtain ⟨x0, x1, x2, x3, x4, x5, hz⟩ := ST.out.cells
          clear hq hq0 hq1 hm
          go_wp2_with fail
          refine (memShared_ok c A1 A2 A3 A4 A5 c1 c2 c3 c4 c5 wr ST.out.R HOK.out H120.out HSP.out q hqu m HM).mono ?_
          rintro e w7 ⟨v7, rfl, ho7, hb1⟩
          obtain ⟨RC, rc, rfl, _, _, hrd7⟩ := own_form ho7
          have HRD7 := Lib.hid hrd7
          have HR7 := Lib.hid (HRk.out.up hb1)
          have ST7 := Lib.hid (ST.out.up hb1)
          clear hb1 ho7 hrd7 x0 x1 x2 x3 x4 x5 hz g0 hbb
          go_wp2_with fail
          refine (contains16M_ok m RC rc p w7 (by omega) HRD7.out HPM).mono ?_
          rintro e w8 ⟨rfl, hb1⟩
          have HR8 := Lib.hid (HR7.out.up hb1)
          have ST8 := Lib.hid (ST7.out.up hb1)
          clear hb1
          go_wp2
          go_roundw
          case rel => exact ⟨k + 1, by omega, by go_num, HR8, ST8⟩
          case measure => simp [intOf]; omega
        · obtain rfl : k = l.length := by omega
          have HZ := Lib.hid ST.out.bel
          go_wp2_with fail
          refine (alive_ok _).mono ?_
          rintro e w9 ⟨rfl, hb1⟩
          have HZ9 := Lib.hid (Below.then_ HZ.out hb1)
          clear hb1
          go_wp2
          go_ret
          exact ⟨rfl, HZ9.out⟩
end Go.Proofs.YtoolcolbmkicpaaGreat
