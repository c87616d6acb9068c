/-
  Owners of package memory and of its reference, walked.
-/
import Derived.BigQuiet
import Derived.Test.YtaakcpdpkcadjaaClashP
import Derived.Test.YtaakcpdpkcadjaaRowK
namespace Go.Proofs.Ytaakcpdpkcadjaa
open Go.RowKit
attribute [local go_sem] ext_cell
theorem infoIntM : (Try.prog.info? 3).map (fun i => (i.zero, i.size, i.bytes)) = some (some (.int .i64 0), 1, 8) := by kernel_rfl
def ownsB (r : Reg) (a : Int) : Bool := decide (r.base ≤ a) && decide (a - r.base < r.size)
theorem ownsB_has {r : Reg} {a : Int} : hasS (spnOf r) a = ownsB r a := by
  unfold hasS ownsB spnOf
  congr 1
  rw [decide_eq_decide]
  simp only
  omega
def ownTo (c : Cfg) (a : Int) (m : Nat) : List Int := ((List.range m).filter (fun k : Nat => match c.regs[k]? with | some r => ownsB r a | none => false)).map (fun k : Nat => (k : Int))
def ownL (c : Cfg) (a : Int) : List Int := ownTo c a c.regs.length
theorem ownTo_yes {c : Cfg} {a : Int} {m : Nat} {r : Reg} (hr : c.regs[m]? = some r) (h : ownsB r a = true) : ownTo c a (m + 1) = ownTo c a m ++ [(m : Int)] := by
  unfold ownTo; rw [List.range_succ, List.filter_append]; simp [hr, h]
theorem ownTo_no {c : Cfg} {a : Int} {m : Nat} {r : Reg} (hr : c.regs[m]? = some r) (h : ownsB r a = false) : ownTo c a (m + 1) = ownTo c a m := by
  unfold ownTo; rw [List.range_succ, List.filter_append]; simp [hr, h]
theorem ownTo_len (c : Cfg) (a : Int) (m : Nat) : (ownTo c a m).length ≤ m := by
  unfold ownTo; rw [List.length_map]; exact Nat.le_trans (List.length_filter_le _ _) (by simp)
theorem ownL_mem {c : Cfg} {a x : Int} : x ∈ ownL c a ↔ ∃ (k : Nat) (r : Reg), x = (k : Int) ∧ c.regs[k]? = some r ∧ ownsB r a = true := by
  unfold ownL ownTo
  rw [List.mem_map]
  constructor
  · rintro ⟨k, hk, rfl⟩
    rw [List.mem_filter] at hk
    rcases hr : c.regs[k]? with _ | r
    · rw [hr] at hk; exact absurd hk.2 (by simp)
    · rw [hr] at hk; exact ⟨k, r, rfl, hr, hk.2⟩
  · rintro ⟨k, r, rfl, hr, h⟩
    exact ⟨k, List.mem_filter.2 ⟨List.mem_range.2 (List.getElem?_eq_some_iff.1 hr).1, by rw [hr]; exact h⟩, rfl⟩
theorem one_newI (w : World) (a : Int) (t : TypeId) : Rd (w.alloc (.cells #[.int .i64 a] t)) (w.alloc (.cells #[.int .i64 a] t)).heap.size 1 (some ⟨w.heap.size, 0, none⟩) 1 [.int .i64 a] := by
  refine ⟨rfl, fun _ => ⟨_, _, rfl, by simp, fun j u hu => ?_⟩⟩
  have := World.news_of_block (heap_alloc_new w (.cells #[.int .i64 a] t)) j u (by simpa using hu)
  rwa [addr_add] at this
set_option maxRecDepth 100000 in
set_option maxHeartbeats 4000000 in
theorem memOwners_ok (c : Cfg) (A1 A2 A3 A4 A5 : Option Addr) (c1 c2 c3 c4 c5 : Nat) (w : World) (hR : CfgR w w.heap.size c A1 A2 A3 A4 A5 c1 c2 c3 c4 c5) (hs : c.small) (hok : c.ok) (a : Int) (ha : wU64 a) : Calls Try.prog 13 #[cfgV c.frame A1 A2 A3 A4 A5 c.parts.length c.wins.length c.regs.length c.ports.length c.chans.length c1 c2 c3 c4 c5, .int .u64 a] w fun e w' => ∃ v, e = .returned v ∧ w'.ownsRow w.heap.size 3 1 v (ownL c a).length ((ownL c a).map (Value.int .i64)) ∧ Below w.heap.size w w' := by
  have hbd := hs.bd
  have ST0 := Lib.hid (St.start hR 29)
  have br := hbd.r
  have HOK := Lib.hid hok
  have ba := Go.bounds_u64 ha
  obtain ⟨i0, hi, hz0, hz1, hz2⟩ := info_parts infoIntM
  clear hR hbd hok ha
  go_enter Try.func13, Try.ntmps13
  go_wp2
  go_loopw [5, 11] (fun o i wr => ∃ k : Nat, k ≤ c.regs.length ∧ i = .int .i64 k ∧ Hid (wr.ownsRow (w.heap.size + 1) 3 1 o (ownTo c a k).length ((ownTo c a k).map (Value.int .i64))) ∧ Hid (St w (wr) c A1 A2 A3 A4 A5 c1 c2 c3 c4 c5)) (fun _ i _ => c.regs.length - (intOf i).toNat)
  case atStart => exact ⟨0, by omega, rfl, Lib.hid (World.ownsRow_nil _ _ _ _), ST0⟩
  case round =>
    obtain ⟨k, hk, rfl, HO, ST⟩ := hrel
    by_cases hlt : k < c.regs.length
    · obtain ⟨x, hx⟩ := get_lt hlt
      have hro := HOK.out.regs x (List.mem_of_getElem? hx)
      have bb0 := Go.bounds_u64 hro.base
      have bb1 := Go.bounds_u64 hro.size
      obtain ⟨bb, o, rfl, hbb, g0, g1, g2, g3, g4⟩ := reg_at ST.out.R.regs hx
      have HX := Lib.hid hx
      have n0 : (0 : Int) ≤ (k : Int) := by omega
      have n1 : (k : Int) < (c.regs.length : Int) := by omega
      clear hx hro
      go_upto_region 5 with (fail)
      obtain ⟨W4, hW4, rb, hb4⟩ := RgBox.new wr x 43
      rw [hW4]
      have ST4 := Lib.hid (ST.out.up hb4)
      have hO4 := own_below HO.out hb4
      obtain ⟨p0, p1, p2, p3, p4, hg⟩ := rb
      clear hW4 hb4 g0 g1 g2 g3 g4 hbb
      by_cases h1 : x.base ≤ a
      · have hw : IntKind.u64.wrap (a - x.base) = a - x.base := by rw [IntKind.wrap_u64]; omega
        by_cases h2 : a - x.base < x.size
        · have HN := Lib.hid (ownTo_yes HX.out (show ownsB x a = true by unfold ownsB; rw [decide_eq_true h1, decide_eq_true h2]; rfl))
          have hlen := ownTo_len c a k
          obtain ⟨rA, rc, rfl, _⟩ := own_form hO4
          have HR3 := Lib.hid (own_below hO4 (below_one W4 (.cells #[.int .i64 k] 3)))
          have hsz := ST4.out.z
          clear hO4
          go_wp2_with (at_builtin; go_loud (refine wpList_append_rd _ rfl (.tmp 29) (.tmp 31) _ rfl (w.heap.size + 1) 3 i0 (.int .i64 0) 1 8 Try.underlying38 hi hz0 hz1 hz2 rfl (by decide) _ _ _ rfl HR3.out (W4.alloc (.cells #[.int .i64 k] 3)).heap.size (some ⟨W4.heap.size, 0, none⟩) 1 1 [.int .i64 k] rfl (one_newI W4 k 3) (by intro u hu; simp at hu; subst hu; rfl) (by unfold maxLen; omega) (by omega) (by simp; omega) ?_); intro v' w3 hown hg)
          have hb3 := below_own ((Below.refl (w.heap.size + 1) W4).alloc (by omega) (.cells #[.int .i64 k] 3)) hg HR3.out (by simp; omega)
          have HO3 := Lib.hid (show w3.ownsRow (w.heap.size + 1) 3 1 v' (ownTo c a (k + 1)).length ((ownTo c a (k + 1)).map (Value.int .i64)) by rw [HN.out]; simpa using hown)
          have ST3 := Lib.hid (ST4.out.keep hb3)
          clear hown hg hb3 p0 p1 p2 p3 p4
          go_wp2
          go_roundw
          case rel => exact ⟨k + 1, by omega, by go_num, HO3, ST3⟩
          case measure => simp [intOf]; omega
        · have HN := Lib.hid (ownTo_no HX.out (show ownsB x a = false by unfold ownsB; rw [decide_eq_false h2, Bool.and_false]))
          have HO4 := Lib.hid hO4
          clear hO4
          go_wp2
          go_roundw
          case rel => exact ⟨k + 1, by omega, by go_num, Lib.hid (by rw [HN.out]; exact HO4.out), ST4⟩
          case measure => simp [intOf]; omega
      · have HN := Lib.hid (ownTo_no HX.out (show ownsB x a = false by unfold ownsB; rw [decide_eq_false h1, Bool.false_and]))
        have HO4 := Lib.hid hO4
        clear hO4
        go_wp2
        go_roundw
        case rel => exact ⟨k + 1, by omega, by go_num, Lib.hid (by rw [HN.out]; exact HO4.out), ST4⟩
        case measure => simp [intOf]; omega
    · obtain rfl : k = c.regs.length := by omega
      go_wp2
      go_ret
      exact ⟨_, rfl, own_lessM HO.out (by omega), ST.out.bel⟩
theorem rHas_val (x : Reg) (a : Int) (w : World) (h : okSp x.base x.size) (v : Bool) (hv : Hid (ownsB x a = v)) : Calls Try.prog 30 #[.agg #[.int .u64 x.base, .int .u64 x.size], .int .u64 a] w fun e w' => e = .returned (.bool v) ∧ Below w.heap.size w w' := by
  have h2 := rHas_ok (spnOf x) a w h
  rw [ownsB_has, hv.out] at h2
  exact h2
set_option maxRecDepth 100000 in
set_option maxHeartbeats 4000000 in
theorem rOwners_ok (c : Cfg) (A1 A2 A3 A4 A5 : Option Addr) (c1 c2 c3 c4 c5 : Nat) (w : World) (hR : CfgR w w.heap.size c A1 A2 A3 A4 A5 c1 c2 c3 c4 c5) (hs : c.small) (hsp : ∀ x ∈ c.regs, okSp x.base x.size) (a : Int) : Calls Try.prog 15 #[cfgV c.frame A1 A2 A3 A4 A5 c.parts.length c.wins.length c.regs.length c.ports.length c.chans.length c1 c2 c3 c4 c5, .int .u64 a] w fun e w' => ∃ v, e = .returned v ∧ w'.ownsRow w.heap.size 3 1 v (ownL c a).length ((ownL c a).map (Value.int .i64)) ∧ Below w.heap.size w w' := by
  have hbd := hs.bd
  have ST0 := Lib.hid (St.start hR 29)
  have br := hbd.r
  have HSP := Lib.hid hsp
  obtain ⟨i0, hi, hz0, hz1, hz2⟩ := info_parts infoIntM
  clear hR hbd hsp
  go_enter Try.func15, Try.ntmps15
  go_wp2
  go_loopw [5, 6] (fun o i wr => ∃ k : Nat, k ≤ c.regs.length ∧ i = .int .i64 k ∧ Hid (wr.ownsRow (w.heap.size + 1) 3 1 o (ownTo c a k).length ((ownTo c a k).map (Value.int .i64))) ∧ Hid (St w (wr) c A1 A2 A3 A4 A5 c1 c2 c3 c4 c5)) (fun _ i _ => c.regs.length - (intOf i).toNat)
  case atStart => exact ⟨0, by omega, rfl, Lib.hid (World.ownsRow_nil _ _ _ _), ST0⟩
  case round =>
    obtain ⟨k, hk, rfl, HO, ST⟩ := hrel
    obtain ⟨x0, x1, x2, x3, x4, x5, hz⟩ := ST.out.cells
    by_cases hlt : k < c.regs.length
    · obtain ⟨x, hx⟩ := get_lt hlt
      have hox := HSP.out x (List.mem_of_getElem? hx)
      obtain ⟨bb, o, rfl, hbb, g0, g1, g2, g3, g4⟩ := reg_at ST.out.R.regs hx
      have HX := Lib.hid hx
      have n0 : (0 : Int) ≤ (k : Int) := by omega
      have n1 : (k : Int) < (c.regs.length : Int) := by omega
      clear hx
      go_wp2_with fail
      refine (rSpan_ok x wr).mono ?_
      rintro e w4 ⟨rfl, hb4⟩
      have ST4 := Lib.hid (ST.out.up hb4)
      have HO4 := Lib.hid (own_below HO.out hb4)
      clear hb4 g0 g1 g2 g3 g4 hbb x0 x1 x2 x3 x4 x5 hz
      obtain ⟨v, hv⟩ : ∃ v, ownsB x a = v := ⟨_, rfl⟩
      have HV := Lib.hid hv
      clear hv
      go_wp2_with fail
      refine (rHas_val x a w4 hox v HV).mono ?_
      rintro e w5 ⟨rfl, hb5⟩
      have ST5 := Lib.hid (ST4.out.up hb5)
      have hO5 := own_below HO4.out hb5
      clear hb5
      cases v
      · have HN := Lib.hid (ownTo_no HX.out HV.out)
        have HO5 := Lib.hid hO5
        clear hO5
        go_wp2
        go_roundw
        case rel => exact ⟨k + 1, by omega, by go_num, Lib.hid (by rw [HN.out]; exact HO5.out), ST5⟩
        case measure => simp [intOf]; omega
      · have HN := Lib.hid (ownTo_yes HX.out HV.out)
        have hlen := ownTo_len c a k
        obtain ⟨rA, rc, rfl, _⟩ := own_form hO5
        have HR3 := Lib.hid (own_below hO5 (below_one w5 (.cells #[.int .i64 k] 3)))
        have hsz := ST5.out.z
        clear hO5
        go_wp2_with (at_builtin; go_loud (refine wpList_append_rd _ rfl (.tmp 22) (.tmp 24) _ rfl (w.heap.size + 1) 3 i0 (.int .i64 0) 1 8 Try.underlying38 hi hz0 hz1 hz2 rfl (by decide) _ _ _ rfl HR3.out (w5.alloc (.cells #[.int .i64 k] 3)).heap.size (some ⟨w5.heap.size, 0, none⟩) 1 1 [.int .i64 k] rfl (one_newI w5 k 3) (by intro u hu; simp at hu; subst hu; rfl) (by unfold maxLen; omega) (by omega) (by simp; omega) ?_); intro v' w3 hown hg)
        have hb3 := below_own ((Below.refl (w.heap.size + 1) w5).alloc (by omega) (.cells #[.int .i64 k] 3)) hg HR3.out (by simp; omega)
        have HO3 := Lib.hid (show w3.ownsRow (w.heap.size + 1) 3 1 v' (ownTo c a (k + 1)).length ((ownTo c a (k + 1)).map (Value.int .i64)) by rw [HN.out]; simpa using hown)
        have ST3 := Lib.hid (ST5.out.keep hb3)
        clear hown hg hb3
        go_wp2
        go_roundw
        case rel => exact ⟨k + 1, by omega, by go_num, HO3, ST3⟩
        case measure => simp [intOf]; omega
    · obtain rfl : k = c.regs.length := by omega
      go_wp2
      go_ret
      exact ⟨_, rfl, own_lessM HO.out (by omega), ST.out.bel⟩
end Go.Proofs.Ytaakcpdpkcadjaa
