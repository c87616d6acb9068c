/-
  The reference of layer 17: has, meets and Shared, walked.
-/
import Derived.BigQuiet
import Derived.Deep.AppendLies
import Derived.Test.YtoolcolbmkicpaaGreatShaP
import Derived.Test.YtoolcolbmkicpaaGreatMemA
namespace Go.Proofs.YtoolcolbmkicpaaGreat
open Go.RowKit
attribute [local go_sem] ext_cell
def hasRB (l : List Reg) (p : Int) : Bool := l.any fun x => x.part == p
theorem hasRB_yes {l : List Reg} {x : Reg} (h : x ∈ l) : hasRB l x.part = true := List.any_eq_true.2 ⟨x, h, by simp⟩
theorem hasRB_no {l : List Reg} {p : Int} (h : ∀ x ∈ l, x.part ≠ p) : hasRB l p = false := by
  unfold hasRB
  rw [List.any_eq_false]
  intro x hx
  simpa using h x hx
theorem all_next {α : Type} {P : α → Prop} {l : List α} {k : Nat} {x : α} (hx : l[k]? = some x) (h : ∀ y ∈ l.take k, P y) (hp : P x) : ∀ y ∈ l.take (k + 1), P y := by
  rw [take_next hx]
  intro y hy
  rcases List.mem_append.1 hy with hy | hy
  · exact h y hy
  · rw [List.mem_singleton] at hy; rw [hy]; exact hp
set_option maxRecDepth 100000 in
set_option maxHeartbeats 4000000 in
theorem rHasR_ok (c : Cfg) (A1 A2 A3 A4 A5 : Option Addr) (c1 c2 c3 c4 c5 : Nat) (w : World) (hR : CfgR w w.heap.size c A1 A2 A3 A4 A5 c1 c2 c3 c4 c5) (hs : c.small) (p : Int) (v : Bool) (hv : Hid (hasRB c.regs p = v)) : Calls Tryz.prog 55 #[cfgV c.frame A1 A2 A3 A4 A5 c.parts.length c.wins.length c.regs.length c.ports.length c.chans.length c1 c2 c3 c4 c5, .int .u16 p] w fun e w' => e = .returned (.bool v) ∧ Below w.heap.size w w' := by
  have ST0 := Lib.hid (St.start hR 29)
  have br := hs.bd.r
  clear hR
  go_enter Tryz.func55, Tryz.ntmps55
  go_wp2
  go_loopw [5] (fun i wr => ∃ k : Nat, k ≤ c.regs.length ∧ i = .int .i64 k ∧ Hid (∀ x ∈ c.regs.take k, x.part ≠ p) ∧ Hid (St w (wr) c A1 A2 A3 A4 A5 c1 c2 c3 c4 c5)) (fun i _ => c.regs.length - (intOf i).toNat)
  case atStart => exact ⟨0, Nat.zero_le _, rfl, Lib.hid (by simp), ST0⟩
  case round =>
    obtain ⟨k, hk, rfl, HN, ST⟩ := hrel
    obtain ⟨x0, x1, x2, x3, x4, x5, hz⟩ := ST.out.cells
    by_cases hlt : k < c.regs.length
    · obtain ⟨x, hx⟩ := get_lt hlt
      obtain ⟨bb, o, rfl, hbb, g0, g1, g2, g3, g4⟩ := reg_at ST.out.R.regs hx
      have n0 : (0 : Int) ≤ (k : Int) := by omega
      have n1 : (k : Int) < (c.regs.length : Int) := by omega
      have HX := Lib.hid hx
      clear hx
      by_cases hp : x.part = p
      · subst hp
        obtain rfl : v = true := by rw [← hv.out]; exact hasRB_yes (List.mem_of_getElem? HX.out)
        go_wp2
        go_ret
        exact ⟨rfl, ST.out.bel⟩
      · have HQ := Lib.hid hp
        go_wp2
        go_roundw
        case rel => exact ⟨k + 1, by omega, by go_num, Lib.hid (all_next HX.out HN.out HQ.out), ST⟩
        case measure => simp [intOf]; omega
    · obtain rfl : k = c.regs.length := by omega
      obtain rfl : v = false := by
        rw [← hv.out]
        have := HN.out
        rw [List.take_length] at this
        exact hasRB_no this
      go_wp2
      go_ret
      exact ⟨rfl, ST.out.bel⟩
/-- a pair of regions that two partitions share -/
def hitR (a b : Int) (x y : Reg) : Prop := x.part = a ∧ y.part = b ∧ meetS (spnOf x) (spnOf y) = true
theorem meets_no {l : List Reg} {a b : Int} (h : ∀ x ∈ l, ∀ y ∈ l, ¬ hitR a b x y) : meetsB l a b = false := by
  rw [Bool.eq_false_iff]
  intro hm
  obtain ⟨_, x, hx, h1, y, hy, h2, h3⟩ := meetsB_iff.1 hm
  exact h x hx y hy ⟨h1, h2, h3⟩
theorem meets_yes {l : List Reg} {a b : Int} {x y : Reg} (hab : a ≠ b) (hx : x ∈ l) (hy : y ∈ l) (h : hitR a b x y) : meetsB l a b = true :=
  meetsB_iff.2 ⟨hab, x, hx, h.1, y, hy, h.2.1, h.2.2⟩
set_option maxRecDepth 100000 in
set_option maxHeartbeats 8000000 in
theorem rMeets_ok (c : Cfg) (A1 A2 A3 A4 A5 : Option Addr) (c1 c2 c3 c4 c5 : Nat) (w : World) (hR : CfgR w w.heap.size c A1 A2 A3 A4 A5 c1 c2 c3 c4 c5) (hs : c.small) (hsp : ∀ x ∈ c.regs, okSp x.base x.size) (a b : Int) (v : Bool) (hv : Hid (meetsB c.regs a b = v)) : Calls Tryz.prog 27 #[cfgV c.frame A1 A2 A3 A4 A5 c.parts.length c.wins.length c.regs.length c.ports.length c.chans.length c1 c2 c3 c4 c5, .int .u16 a, .int .u16 b] w fun e w' => e = .returned (.bool v) ∧ Below w.heap.size w w' := by
  obtain ⟨W0, hW, st⟩ := St.start_any hR 29
  have HW := Lib.hid hW
  have ST0 := Lib.hid st
  have HSP := Lib.hid hsp
  have br := hs.bd.r
  obtain ⟨x0, x1, x2, x3, x4, x5, hz⟩ := st.cells
  clear hR hW st hsp
  by_cases hab : a = b
  · obtain rfl : v = false := by rw [← hv.out, hab]; unfold meetsB; simp
    subst hab
    clear hv
    go_enter Tryz.func27, Tryz.ntmps27
    go_upto_region 1 with (fail)
    rw [HW.out]
    go_wp2
    go_ret
    exact ⟨rfl, ST0.out.bel⟩
  · have HAB := Lib.hid hab
    rcases bool_cases (hasRB c.regs b) with h1 | h1
    rotate_left
    · have H1 := Lib.hid h1
      obtain rfl : v = false := by
        rw [← hv.out]
        refine meets_no fun x _ y hy hh => ?_
        have := hasRB_yes hy
        rw [hh.2.1, h1] at this
        cases this
      clear h1 hv
      go_enter Tryz.func27, Tryz.ntmps27
      go_upto_region 1 with (fail)
      rw [HW.out]
      go_wp2_with fail
      refine (rHasR_ok c _ _ _ _ _ _ _ _ _ _ _ ST0.out.R hs b false H1).mono ?_
      rintro e w1 ⟨rfl, hb1⟩
      have HZ := Lib.hid (ST0.out.up hb1).bel
      clear hb1 x0 x1 x2 x3 x4 x5 hz
      go_wp2
      go_ret
      exact ⟨rfl, HZ.out⟩
    · have H1 := Lib.hid h1
      clear h1
      go_enter Tryz.func27, Tryz.ntmps27
      go_upto_region 1 with (fail)
      rw [HW.out]
      go_wp2_with fail
      refine (rHasR_ok c _ _ _ _ _ _ _ _ _ _ _ ST0.out.R hs b true H1).mono ?_
      rintro e w1 ⟨rfl, hb1⟩
      have ST1 := Lib.hid (ST0.out.up hb1)
      clear hb1 x0 x1 x2 x3 x4 x5 hz
      go_wp2
      go_loopw [7] (fun i wr => ∃ k : Nat, k ≤ c.regs.length ∧ i = .int .i64 k ∧ Hid (∀ x ∈ c.regs.take k, ∀ y ∈ c.regs, ¬ hitR a b x y) ∧ Hid (St w (wr) c A1 A2 A3 A4 A5 c1 c2 c3 c4 c5)) (fun i _ => c.regs.length - (intOf i).toNat)
      case atStart => exact ⟨0, Nat.zero_le _, rfl, Lib.hid (by simp), ST1⟩
      case round =>
        obtain ⟨k, hk, rfl, HN, ST⟩ := hrel
        obtain ⟨x0, x1, x2, x3, x4, x5, hz⟩ := ST.out.cells
        by_cases hlt : k < c.regs.length
        · obtain ⟨x, hx⟩ := get_lt hlt
          have HX := Lib.hid hx
          have hox := HSP.out x (List.mem_of_getElem? hx)
          have k0 : (0 : Int) ≤ (k : Int) := by omega
          have k1 : (k : Int) < (c.regs.length : Int) := by omega
          clear hx
          generalize hwo : wr = wp at ST x0 x1 x2 x3 x4 x5 hz ⊢
          clear hwo
          go_wp2
          clear x0 x1 x2 x3 x4 x5 hz
          go_loopw [8] (fun i wr => ∃ n : Nat, n ≤ c.regs.length ∧ i = .int .i64 n ∧ Hid (∀ y ∈ c.regs.take n, ¬ hitR a b x y) ∧ Hid (St w (wr) c A1 A2 A3 A4 A5 c1 c2 c3 c4 c5)) (fun i _ => c.regs.length - (intOf i).toNat)
          case atStart => exact ⟨0, Nat.zero_le _, rfl, Lib.hid (by simp), ST⟩
          case round =>
            obtain ⟨n, hn, rfl, HM, STn⟩ := hrel
            obtain ⟨x0, x1, x2, x3, x4, x5, hz⟩ := STn.out.cells
            by_cases hnl : n < c.regs.length
            · obtain ⟨y, hy⟩ := get_lt hnl
              have HY := Lib.hid hy
              have hoy := HSP.out y (List.mem_of_getElem? hy)
              obtain ⟨bb, o, rfl, hbb, g0, g1, g2, g3, g4⟩ := reg_at STn.out.R.regs HX.out
              have n0 : (0 : Int) ≤ (n : Int) := by omega
              have n1 : (n : Int) < (c.regs.length : Int) := by omega
              clear hy
              go_upto_region 10 with (fail)
              obtain ⟨W4, hW4, rb, hb4⟩ := RgBox.new wr x 43
              rw [hW4]
              have ST4 := Lib.hid (STn.out.up hb4)
              have HRB := Lib.hid rb
              clear hW4 hb4 rb g0 g1 g2 g3 g4 hbb x0 x1 x2 x3 x4 x5 hz
              obtain ⟨x0, x1, x2, x3, x4, x5, hz⟩ := ST4.out.cells
              obtain ⟨b2, o2, e2, hbb2, g0, g1, g2, g3, g4⟩ := reg_at ST4.out.R.regs HY.out
              obtain ⟨rfl, rfl⟩ : bb = b2 ∧ o = o2 := by simpa using e2
              clear e2
              generalize wr.heap.size = gx at HRB ⊢
              go_upto_region 11 with (fail)
              obtain ⟨W5, hW5, rb, hb5⟩ := RgBox.new W4 y 43
              rw [hW5]
              have ST5 := Lib.hid (ST4.out.up hb5)
              have HRB5 := Lib.hid (HRB.out.up hb5)
              have HRC5 := Lib.hid rb
              clear hW5 hb5 rb g0 g1 g2 g3 g4 hbb2 x0 x1 x2 x3 x4 x5 hz
              generalize W4.heap.size = gy at HRC5 ⊢
              obtain ⟨p0, p1, p2, p3, p4, hg⟩ := HRB5.out
              obtain ⟨q0, q1, q2, q3, q4, hgy⟩ := HRC5.out
              by_cases ha : x.part = a
              · by_cases hb : y.part = b
                · subst ha hb
                  obtain ⟨m, hm⟩ : ∃ m, meetS (spnOf x) (spnOf y) = m := ⟨_, rfl⟩
                  have HVM := Lib.hid hm
                  have HM2 := Lib.hid (show meetS ⟨x.base, x.size⟩ ⟨y.base, y.size⟩ = m from hm)
                  clear hm
                  cases m
                  · have HQ := Lib.hid (show ¬ hitR x.part y.part x y from fun h => by have := h.2.2; rw [HVM.out] at this; cases this)
                    refine wp_region_ext (by kernel_rfl) (by kernel_rfl) ?_
                    repeat (go_big_quiet_step (fail))
                    go_big_quiet_step ((go_at_call 46; exact Calls.quiet_ext (rSpan_ok ⟨x.base, x.size, x.part, x.rights, x.shared⟩ _)))
                    repeat (go_big_quiet_step (fail))
                    go_big_quiet_step ((go_at_call 46; exact Calls.quiet_ext (rSpan_ok ⟨y.base, y.size, y.part, y.rights, y.shared⟩ _)))
                    repeat (go_big_quiet_step (fail))
                    go_big_quiet_step ((go_at_call 56; exact Calls.quiet_ext (meet_val _ _ _ _ _ _ hox hoy HM2)))
                    repeat (go_big_quiet_step (fail))
                    refine wpQuiet_nil ?_
                    intro xq
                    go_wp2
                    go_roundw
                    case rel => exact ⟨n + 1, by omega, by go_num, Lib.hid (all_next HY.out HM.out HQ.out), Lib.hid (ST5.out.ext xq)⟩
                    case measure => simp [intOf]; omega
                  · obtain rfl : v = true := by rw [← hv.out]; exact meets_yes HAB.out (List.mem_of_getElem? HX.out) (List.mem_of_getElem? HY.out) ⟨rfl, rfl, HVM.out⟩
                    refine wp_region_ext (by kernel_rfl) (by kernel_rfl) ?_
                    repeat (go_big_quiet_step (fail))
                    go_big_quiet_step ((go_at_call 46; exact Calls.quiet_ext (rSpan_ok ⟨x.base, x.size, x.part, x.rights, x.shared⟩ _)))
                    repeat (go_big_quiet_step (fail))
                    go_big_quiet_step ((go_at_call 46; exact Calls.quiet_ext (rSpan_ok ⟨y.base, y.size, y.part, y.rights, y.shared⟩ _)))
                    repeat (go_big_quiet_step (fail))
                    go_big_quiet_step ((go_at_call 56; exact Calls.quiet_ext (meet_val _ _ _ _ _ _ hox hoy HM2)))
                    repeat (go_big_quiet_step (fail))
                    refine wpQuiet_nil ?_
                    intro xq
                    go_wp2
                    go_ret
                    exact ⟨rfl, (ST5.out.ext xq).bel⟩
                · have HQ := Lib.hid (show ¬ hitR a b x y from fun h => hb h.2.1)
                  subst ha
                  have hbf : (y.part == b) = false := beq_eq_false_iff_ne.2 hb
                  refine wp_region_ext (by kernel_rfl) (by kernel_rfl) ?_
                  repeat (go_big_quiet_step (fail))
                  refine wpQuiet_nil ?_
                  intro xq
                  go_wp2
                  go_roundw
                  case rel => exact ⟨n + 1, by omega, by go_num, Lib.hid (all_next HY.out HM.out HQ.out), Lib.hid (ST5.out.ext xq)⟩
                  case measure => simp [intOf]; omega
              · have HQ := Lib.hid (show ¬ hitR a b x y from fun h => ha h.1)
                have haf : (x.part == a) = false := beq_eq_false_iff_ne.2 ha
                refine wp_region_ext (by kernel_rfl) (by kernel_rfl) ?_
                repeat (go_big_quiet_step (fail))
                refine wpQuiet_nil ?_
                intro xq
                go_wp2
                go_roundw
                case rel => exact ⟨n + 1, by omega, by go_num, Lib.hid (all_next HY.out HM.out HQ.out), Lib.hid (ST5.out.ext xq)⟩
                case measure => simp [intOf]; omega
            · obtain rfl : n = c.regs.length := by omega
              have HQ := Lib.hid (show ∀ y ∈ c.regs, ¬ hitR a b x y by have := HM.out; rwa [List.take_length] at this)
              go_wp2
              go_roundw
              case rel => exact ⟨k + 1, by omega, by go_num, Lib.hid (all_next HX.out HN.out HQ.out), STn⟩
              case measure => simp [intOf]; omega
        · obtain rfl : k = c.regs.length := by omega
          obtain rfl : v = false := by
            rw [← hv.out]
            have := HN.out
            rw [List.take_length] at this
            exact meets_no this
          go_wp2
          go_ret
          exact ⟨rfl, ST.out.bel⟩
set_option maxRecDepth 100000 in
set_option maxHeartbeats 4000000 in
theorem rShared_ok (c : Cfg) (A1 A2 A3 A4 A5 : Option Addr) (c1 c2 c3 c4 c5 : Nat) (w : World) (hR : CfgR w w.heap.size c A1 A2 A3 A4 A5 c1 c2 c3 c4 c5) (hs : c.small) (hsp : ∀ x ∈ c.regs, okSp x.base x.size) (p : Int) (N : Nat) (hN : Hid (N = 65536)) : Calls Tryz.prog 10 #[cfgV c.frame A1 A2 A3 A4 A5 c.parts.length c.wins.length c.regs.length c.ports.length c.chans.length c1 c2 c3 c4 c5, .int .u16 p] w fun e w' => ∃ v, e = .returned v ∧ w'.ownsRow w.heap.size 30 1 v (shTo c.regs p N).length ((shTo c.regs p N).map (Value.int .u16)) ∧ Below w.heap.size w w' := by
  obtain ⟨i0, hi, hz0, hz1, hz2⟩ := info_parts info_u16
  obtain ⟨W0, hW, st⟩ := St.start_any hR 29
  have HW := Lib.hid hW
  have ST0 := Lib.hid st
  have HSP := Lib.hid hsp
  clear hR hW st hsp
  go_enter Tryz.func10, Tryz.ntmps10
  go_upto_region 1 with (fail)
  rw [HW.out]
  go_wp2
  go_loopw [5, 6] (fun o i wr => ∃ k : Nat, k ≤ 65536 ∧ i = .int .i64 k ∧ Hid (wr.ownsRow (w.heap.size + 1) 30 1 o (shTo c.regs p k).length ((shTo c.regs p k).map (Value.int .u16))) ∧ Hid (St w (wr) c A1 A2 A3 A4 A5 c1 c2 c3 c4 c5)) (fun _ i _ => 65536 - (intOf i).toNat)
  case atStart => exact ⟨0, Nat.zero_le _, rfl, Lib.hid (World.ownsRow_nil _ _ _ _), ST0⟩
  case round =>
    obtain ⟨k, hk, rfl, HO, ST⟩ := hrel
    obtain ⟨rB, rd, rfl, _⟩ := own_form HO.out
    obtain ⟨x0, x1, x2, x3, x4, x5, hz⟩ := ST.out.cells
    by_cases hlt : k < 65536
    · have n0 : (0 : Int) ≤ (k : Int) := by omega
      have n1 : (k : Int) < 65536 := by omega
      have hwk : IntKind.u16.wrap (k : Int) = (k : Int) := by rw [IntKind.wrap_u16]; omega
      obtain ⟨m, hm⟩ : ∃ m, meetsB c.regs p (k : Int) = m := ⟨_, rfl⟩
      have HM := Lib.hid hm
      have HNX := Lib.hid (shTo_next c.regs p k)
      have hlen := shTo_len c.regs p k
      have HLE := Lib.hid hlen
      clear hm
      cases m
      · have HG := Lib.hid (show shTo c.regs p (k + 1) = shTo c.regs p k by rw [HNX.out, HM.out]; rfl)
        go_wp2_with fail
        refine (rMeets_ok c _ _ _ _ _ _ _ _ _ _ _ ST.out.R hs HSP.out p k false HM).mono ?_
        rintro e w5 ⟨rfl, hb5⟩
        have ST5 := Lib.hid (ST.out.up hb5)
        have HO5 := Lib.hid (own_below HO.out hb5)
        clear hb5 x0 x1 x2 x3 x4 x5 hz
        go_wp2
        go_roundw
        case rel => exact ⟨k + 1, by omega, by go_num, Lib.hid (by rw [HG.out]; exact HO5.out), ST5⟩
        case measure => simp [intOf]; omega
      · have HG := Lib.hid (show shTo c.regs p (k + 1) = shTo c.regs p k ++ [(k : Int)] by rw [HNX.out, HM.out]; rfl)
        go_wp2_with fail
        refine (rMeets_ok c _ _ _ _ _ _ _ _ _ _ _ ST.out.R hs HSP.out p k true HM).mono ?_
        rintro e w5 ⟨rfl, hb5⟩
        have ST5 := Lib.hid (ST.out.up hb5)
        have HO5 := Lib.hid (own_below HO.out hb5)
        have hal := below_one w5 (.cells #[.int .u16 (k : Int)] 30)
        have HO6 := Lib.hid (own_below HO5.out hal)
        have ST6 := Lib.hid (ST5.out.up hal)
        have hsz := ST5.out.z
        have hsz6 := ST6.out.z
        clear hb5 x0 x1 x2 x3 x4 x5 hz hal
        go_wp2_with (at_builtin; go_loud (refine wpList_append_lies _ rfl (.tmp 16) (.tmp 19) _ rfl (w.heap.size + 1) 30 i0 (.int .u16 0) 1 2 Tryz.underlying35 hi hz0 hz1 hz2 rfl (by decide) _ _ _ rfl HO6.out ⟨w5.heap.size, 0, none⟩ 1 1 [.int .u16 (k : Int)] rfl rfl (World.news_of_block (heap_alloc_new w5 _)) (by intro u hu; simp at hu; rcases hu with rfl; rfl) (by omega) (by unfold maxLen; omega) (by omega) (by simp; omega) _ rfl ?_); intro g2 cap w7 hown hg2 hat hlt7)
        have hb7 := below_own (Below.refl (w.heap.size + 1) _) hg2 HO6.out (by simp; omega)
        have ST7 := Lib.hid (ST6.out.keep hb7)
        have HON := Lib.hid (show w7.ownsRow (w.heap.size + 1) 30 1 (.slice (some ⟨g2, 0, none⟩) ((shTo c.regs p k).length + 1) cap) (shTo c.regs p (k + 1)).length ((shTo c.regs p (k + 1)).map (Value.int .u16)) by rw [HG.out, List.length_append, List.map_append]; simpa using hown)
        clear hown hg2 hat hlt7 hb7
        go_wp2
        go_roundw
        case rel => exact ⟨k + 1, by omega, by go_num, HON, ST7⟩
        case measure => simp [intOf]; omega
    · obtain rfl : k = 65536 := by omega
      go_wp2
      go_ret
      rw [hN.out]
      exact ⟨_, rfl, own_lessM HO.out (by omega), ST.out.bel⟩
end Go.Proofs.YtoolcolbmkicpaaGreat
