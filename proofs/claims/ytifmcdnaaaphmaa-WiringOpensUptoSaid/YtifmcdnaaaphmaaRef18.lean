/-
  What the reference of layer 18 (wiring) computes, walked once: in, uses, Ports, Unique.
-/
import Derived.Test.YtifmcdnaaaphmaaSt
import Derived.Deep.Cut
namespace Go.Proofs.Ytifmcdnaaaphmaa
open Go.RowKit
attribute [local go_sem] ext_cell
def hasI (l : List Int) (x : Int) : Bool := l.contains x
theorem hasI_iff {l : List Int} {x : Int} : hasI l x = true ↔ x ∈ l := List.contains_iff_mem
theorem hasI_no {l : List Int} {x : Int} (h : x ∉ l) : hasI l x = false := Bool.eq_false_iff.2 (fun e => h (hasI_iff.1 e))
theorem contains_hit {l : List Int} {k : Nat} {y x : Int} (hy : l[k]? = some y) (h : y = x) : hasI l x = true := by
  rw [hasI_iff]; exact h ▸ List.mem_of_getElem? hy
set_option maxRecDepth 100000 in
set_option maxHeartbeats 1000000 in
theorem in18_ok (l : List Int) (A : Option Addr) (cp : Nat) (id : Int) (w : World) (hl : l.length ≤ 1048576) (hP : Rd w w.heap.size 1 A l.length (l.map (Value.int .u16))) :
    Calls Try.prog 42 #[.slice A l.length cp, .int .u16 id] w fun e w' => e = .returned (.bool (hasI l id)) ∧ Below w.heap.size w w' := by
  go_enter Try.func42, Try.ntmps42
  go_wp2
  go_loop [5] (fun i => ∃ k : Nat, k ≤ l.length ∧ i = .int .i64 k ∧ Hid (id ∉ l.take k)) (fun i => l.length - (intOf i).toNat)
  case atStart => exact ⟨0, Nat.zero_le _, rfl, Lib.hid (by simp)⟩
  case round =>
    obtain ⟨k, hk, rfl, hno⟩ := hrel
    by_cases hlt : k < l.length
    · obtain ⟨y, hy⟩ := get_lt hlt
      obtain ⟨b, o, rfl, hb, g0⟩ := int_at hP hy
      have HY := Lib.hid hy
      clear hy
      rcases beq_cases y id with hp | hp
      · go_wp2
        go_ret
        exact ⟨ret_bool (contains_hit HY.out (by simpa using hp)).symm, Below.refl _ _⟩
      · go_wp2
        go_round
        case rel => exact ⟨k + 1, by omega, by go_num, Lib.hid (not_mem_next HY.out hno.out (by simpa using hp))⟩
        case measure => simp [intOf]; omega
    · obtain rfl : k = l.length := by omega
      go_wp2
      go_ret
      refine ⟨ret_bool ?_, Below.refl _ _⟩
      have := hno.out
      rw [List.take_length] at this
      rw [hasI_no this]
theorem usesL_hit {l : List Chn} {n k : Nat} {x : Chn} {id : Int} (hx : l[k]? = some x) (hk : k < n) (h : (x.source == id || x.dests.contains id) = true) : usesL (l.take n) id = true := by
  unfold usesL
  rw [List.any_eq_true]
  exact ⟨x, mem_take_of hx hk, h⟩
theorem usesL_miss {l : List Chn} {k : Nat} {x : Chn} {id : Int} (hx : l[k]? = some x) (h0 : usesL (l.take k) id = false) (h : (x.source == id || x.dests.contains id) = false) : usesL (l.take (k + 1)) id = false := by
  rw [take_next hx]
  unfold usesL at h0 ⊢
  rw [List.any_append, h0, List.any_cons, h]; rfl
set_option maxRecDepth 100000 in
set_option maxHeartbeats 2000000 in
theorem uses_ok (c : Cfg) (A1 A2 A3 A4 A5 : Option Addr) (c1 c2 c3 c4 c5 : Nat) (w : World) (hR : CfgR w w.heap.size c A1 A2 A3 A4 A5 c1 c2 c3 c4 c5) (hs : c.small) (n : Nat) (hn : n ≤ c.chans.length) (id : Int) :
    Calls Try.prog 53 #[cfgV c.frame A1 A2 A3 A4 A5 c.parts.length c.wins.length c.regs.length c.ports.length c.chans.length c1 c2 c3 c4 c5, .int .i64 n, .int .u16 id] w fun e w' => e = .returned (.bool (usesL (c.chans.take n) id)) ∧ Below w.heap.size w w' := by
  have hbd := hs.bd
  have ST0 := Lib.hid (St.start hR 29)
  have bx := hbd.x
  have HD := Lib.hid hbd.d
  clear hR hs hbd
  go_enter Try.func53, Try.ntmps53
  go_wp2
  go_loopw [7] (fun i wr => ∃ k : Nat, k ≤ n ∧ i = .int .i64 k ∧ Hid (usesL (c.chans.take k) id = false) ∧ Hid (St w (wr) c A1 A2 A3 A4 A5 c1 c2 c3 c4 c5)) (fun i _ => n - (intOf i).toNat)
  case atStart => exact ⟨0, Nat.zero_le _, rfl, Lib.hid (by simp [usesL]), ST0⟩
  case round =>
    obtain ⟨k, hk, rfl, hno, ST⟩ := hrel
    by_cases hlt : k < n
    · obtain ⟨x, hx⟩ := get_lt (l := c.chans) (k := k) (by omega)
      obtain ⟨cs, hC, hr⟩ := ST.out.R.chans
      obtain ⟨b, o, rfl, hb, g0, g1, D, d, g2, hd1, hd2, hD⟩ := chn_at hC hr hx
      obtain ⟨x0, x1, x2, x3, x4, x5, hz⟩ := ST.out.cells
      have hdl := HD.out x (List.mem_of_getElem? hx)
      have HX := Lib.hid hx
      have HDD := Lib.hid hD
      clear hx hC hr hD
      rcases beq_cases x.source id with hp | hp
      · have HP := Lib.hid (show (x.source == id || x.dests.contains id) = true by rw [hp]; rfl)
        go_wp2
        go_ret
        exact ⟨ret_bool (usesL_hit HX.out hlt HP.out).symm, ST.out.bel⟩
      · have HP := Lib.hid hp
        go_wp2_with (go_at_call 42; refine (in18_ok x.dests D d id _ hdl HDD.out).mono ?_; rintro e w1 ⟨rfl, hb1⟩)
        · have hc : hasI x.dests id = true := by assumption
          go_ret
          exact ⟨ret_bool (usesL_hit HX.out hlt (by rw [HP.out]; exact hc)).symm, (ST.out.up hb1).bel⟩
        · have hc : hasI x.dests id = false := by assumption
          go_roundw
          case rel => exact ⟨k + 1, by omega, by go_num, Lib.hid (usesL_miss HX.out hno.out (by rw [HP.out]; exact hc)), Lib.hid (ST.out.up hb1)⟩
          case measure => simp [intOf]; omega
    · obtain rfl : k = n := by omega
      go_wp2
      go_ret
      exact ⟨ret_bool hno.out.symm, ST.out.bel⟩
end Go.Proofs.Ytifmcdnaaaphmaa
