/-
  Package memory: spans and the function Check$1, walked.
-/
import Derived.Test.YtaakcpdpkcadjaaMem1
namespace Go.Proofs.Ytaakcpdpkcadjaa
open Go.RowKit
attribute [local go_sem] ext_cell
theorem infoSpan : (Try.prog.info? 75).map (fun i => (i.zero, i.size, i.bytes)) = some (some (.agg #[.int .u64 0, .int .u64 0]), 2, 16) := by kernel_rfl
theorem new_spn (w : World) (a b : Int) (t : TypeId) : Rd (w.alloc (.cells #[.int .u64 a, .int .u64 b] t)) (w.heap.size + 1) 2 (some ⟨w.heap.size, 0, none⟩) 1 [.int .u64 a, .int .u64 b] := by
  refine ⟨rfl, fun _ => ⟨_, _, rfl, Nat.lt_succ_self _, fun j u hu => ?_⟩⟩
  have := World.news_of_block (heap_alloc_new w (.cells #[.int .u64 a, .int .u64 b] t)) j u (by simpa using hu)
  rwa [addr_add] at this
theorem spn_cells (l : List Reg) (k : Nat) {x : Reg} (h : l[k]? = some x) : ((l.take (k + 1)).map spnOf).flatMap Spn.cells = ((l.take k).map spnOf).flatMap Spn.cells ++ [.int .u64 x.base, .int .u64 x.size] := by
  rw [take_next h]; simp [Spn.cells, spnOf]
set_option maxRecDepth 100000 in
set_option maxHeartbeats 2000000 in
theorem memSpans_ok (l : List Reg) (A : Option Addr) (cp : Nat) (w : World) (hl : l.length ≤ 1048576) (hR : Rd w w.heap.size 5 A l.length (l.flatMap Reg.cells)) :
    Calls Try.prog 29 #[.slice A l.length cp] w fun e w' => ∃ v, e = .returned v ∧ w'.ownsRow w.heap.size 75 2 v l.length ((l.map spnOf).flatMap Spn.cells) ∧ Below w.heap.size w w' := by
  obtain ⟨i0, hi, hz0, hz1, hz2⟩ := info_parts infoSpan
  have HR := Lib.hid hR
  clear hR
  go_enter Try.func29, Try.ntmps29
  go_wp2
  go_loopw [3, 8] (fun o i wr => ∃ k : Nat, k ≤ l.length ∧ i = .int .i64 k ∧ Hid (wr.ownsRow w.heap.size 75 2 o k (((l.take k).map spnOf).flatMap Spn.cells)) ∧ Hid (Below w.heap.size w wr)) (fun _ i _ => l.length - (intOf i).toNat)
  case atStart => exact ⟨0, by omega, rfl, Lib.hid (World.ownsRow_nil _ _ _ _), Lib.hid (Below.refl _ _)⟩
  case round =>
    obtain ⟨k, hk, rfl, HO, HB⟩ := hrel
    by_cases hlt : k < l.length
    · obtain ⟨x, hx⟩ := get_lt hlt
      have HRk := HR.out.below HB.out
      obtain ⟨bb, o, rfl, hbb, g0, g1, g2, g3, g4⟩ := reg_at HRk hx
      have HN := Lib.hid (spn_cells l k hx)
      have k0 : (0 : Int) ≤ (k : Int) := by omega
      have k1 : (k : Int) < (l.length : Int) := by omega
      clear hx HRk
      go_upto_region 5 with (fail)
      obtain ⟨W4, hW4, rb, hb4⟩ := RgBox.new wr x 43
      rw [hW4]
      have HB4 := Lib.hid (HB.out.trans (hb4.mono HB.out.size))
      have HO4 := Lib.hid (own_below HO.out hb4)
      obtain ⟨p0, p1, p2, p3, p4, hg⟩ := rb
      clear hW4 hb4 g0 g1 g2 g3 g4 hbb
      go_wp2_with fail
      refine (memSpan_ok x W4).mono ?_
      rintro e w5 ⟨rfl, hb5⟩
      have HB5 := Lib.hid (HB4.out.trans (hb5.mono HB4.out.size))
      have hO5 := own_below HO4.out hb5
      obtain ⟨rA, rc, rfl, _⟩ := own_form hO5
      have hal := below_one w5 (.cells #[.int .u64 x.base, .int .u64 x.size] 75)
      have HO5 := Lib.hid (own_below hO5 hal)
      have HB6 := Lib.hid (HB5.out.trans (hal.mono HB5.out.size))
      have hsz := HB5.out.size
      clear hO5 hb5 hal p0 p1 p2 p3 p4 hg
      go_wp2_with (at_builtin; go_loud (refine wpList_append_rd _ rfl (.tmp 12) (.tmp 15) _ rfl w.heap.size 75 i0 (.agg #[.int .u64 0, .int .u64 0]) 2 16 Try.underlying72 hi hz0 hz1 hz2 rfl (by decide) _ _ _ rfl HO5.out (w5.heap.size + 1) (some ⟨w5.heap.size, 0, none⟩) 1 1 [.int .u64 x.base, .int .u64 x.size] rfl (new_spn w5 _ _ _) (by intro u hu; simp at hu; rcases hu with rfl | rfl <;> rfl) (by unfold maxLen; omega) (by omega) (by simp; omega) ?_); intro v' w6 hown hg)
      have hb6 := below_own HB6.out hg HO5.out HB6.out.size
      have HO6 := Lib.hid (show w6.ownsRow w.heap.size 75 2 v' (k + 1) (((l.take (k + 1)).map spnOf).flatMap Spn.cells) by rw [HN.out]; exact hown)
      have HB7 := Lib.hid hb6
      clear hown hg hb6
      go_wp2
      go_roundw
      case rel => exact ⟨k + 1, by omega, by go_num, HO6, HB7⟩
      case measure => simp [intOf]; omega
    · obtain rfl : k = l.length := by omega
      go_wp2
      go_ret
      exact ⟨_, rfl, by have := HO.out; rwa [List.take_length] at this, HB.out⟩
def regNe (x y : Reg) : Bool := !(x.base == y.base && x.size == y.size && x.part == y.part && x.rights == y.rights && x.shared == y.shared)
/-- two regions that may overlap -/
def regAl (x y : Reg) : Bool := x.shared && y.shared && regNe x y
set_option maxRecDepth 100000 in
set_option maxHeartbeats 2000000 in
theorem memAllow_ok (c : Cfg) (A : Option Addr) (cp cb : Nat) (w : World) (hc : w.cell? ⟨cb, 3, none⟩ = some (.slice A c.regs.length cp)) (hlt : cb < w.heap.size) (hl : c.regs.length ≤ 1048576) (hR : Rd w w.heap.size 5 A c.regs.length (c.regs.flatMap Reg.cells)) {i j : Nat} {x y : Reg} (hx : c.regs[i]? = some x) (hy : c.regs[j]? = some y) :
    Calls Try.prog 27 #[.int .i64 i, .int .i64 j, .pointer (some ⟨cb, 0, none⟩)] w fun e w' => e = .returned (.bool (regAl x y)) ∧ Below w.heap.size w w' := by
  obtain ⟨bb, o, rfl, hbb, g0, g1, g2, g3, g4⟩ := reg_at hR hx
  obtain ⟨b2, o2, e2, hbb2, k0, k1, k2, k3, k4⟩ := reg_at hR hy
  obtain ⟨rfl, rfl⟩ : bb = b2 ∧ o = o2 := by simpa using e2
  have i0 : (0 : Int) ≤ (i : Int) := by omega
  have i1 : (i : Int) < (c.regs.length : Int) := by have := (List.getElem?_eq_some_iff.1 hx).1; omega
  have j0 : (0 : Int) ≤ (j : Int) := by omega
  have j1 : (j : Int) < (c.regs.length : Int) := by have := (List.getElem?_eq_some_iff.1 hy).1; omega
  clear e2 hR hx hy
  rcases bool_cases x.shared with hs | hs
  · rw [hs] at g4
    rcases bool_cases y.shared with ht | ht
    · rw [ht] at k4
      rcases Decidable.em (x.base = y.base) with q0 | q0
      rotate_left
      · have HV := Lib.hid (show regAl x y = true by simp [regAl, regNe, hs, ht, q0])
        go_enter Try.func27, Try.ntmps27
        go_wp2
        go_quiet (fail)
        go_wp2
        go_ret
        exact ⟨ret_bool HV.out.symm, below_drewN (Below.refl _ _) _⟩
      rw [← q0] at k0
      rcases Decidable.em (x.size = y.size) with q1 | q1
      rotate_left
      · have HV := Lib.hid (show regAl x y = true by simp [regAl, regNe, hs, ht, q0, q1])
        go_enter Try.func27, Try.ntmps27
        go_wp2
        go_quiet (fail)
        go_wp2
        go_ret
        exact ⟨ret_bool HV.out.symm, below_drewN (Below.refl _ _) _⟩
      rw [← q1] at k1
      rcases Decidable.em (x.part = y.part) with q2 | q2
      rotate_left
      · have HV := Lib.hid (show regAl x y = true by simp [regAl, regNe, hs, ht, q0, q1, q2])
        go_enter Try.func27, Try.ntmps27
        go_wp2
        go_quiet (fail)
        go_wp2
        go_ret
        exact ⟨ret_bool HV.out.symm, below_drewN (Below.refl _ _) _⟩
      rw [← q2] at k2
      rcases Decidable.em (x.rights = y.rights) with q3 | q3
      rotate_left
      · have HV := Lib.hid (show regAl x y = true by simp [regAl, regNe, hs, ht, q0, q1, q2, q3])
        go_enter Try.func27, Try.ntmps27
        go_wp2
        go_quiet (fail)
        go_wp2
        go_ret
        exact ⟨ret_bool HV.out.symm, below_drewN (Below.refl _ _) _⟩
      rw [← q3] at k3
      have HV := Lib.hid (show regAl x y = false by simp [regAl, regNe, hs, ht, q0, q1, q2, q3])
      go_enter Try.func27, Try.ntmps27
      go_wp2
      go_quiet (fail)
      go_wp2
      go_ret
      exact ⟨ret_bool HV.out.symm, below_drewN (Below.refl _ _) _⟩
    · rw [ht] at k4
      have HV := Lib.hid (show regAl x y = false by unfold regAl; rw [ht]; simp)
      go_enter Try.func27, Try.ntmps27
      go_wp2
      go_quiet (fail)
      go_wp2
      go_ret
      exact ⟨ret_bool HV.out.symm, below_drewN (Below.refl _ _) _⟩
  · rw [hs] at g4
    have HV := Lib.hid (show regAl x y = false by unfold regAl; rw [hs]; simp)
    go_enter Try.func27, Try.ntmps27
    go_wp2
    go_quiet (fail)
    go_wp2
    go_ret
    exact ⟨ret_bool HV.out.symm, below_drewN (Below.refl _ _) _⟩
end Go.Proofs.Ytaakcpdpkcadjaa
