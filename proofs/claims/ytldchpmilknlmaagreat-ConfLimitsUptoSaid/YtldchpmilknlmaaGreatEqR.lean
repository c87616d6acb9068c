/-
  slices.Equal at the records of a configuration, slices.EqualFunc at channels, walked: whether two rows hold the same records.
-/
import Derived.BigQuiet
import Derived.Test.YtldchpmilknlmaaGreatNormP
import Derived.Test.YtldchpmilknlmaaGreatCore
namespace Go.Proofs.YtldchpmilknlmaaGreat
open Go.RowKit
noncomputable def eqC {α : Type} (a b : α) : Bool := @decide (a = b) (Classical.propDecidable _)
theorem eqC_yes {α : Type} {a b : α} (h : a = b) : eqC a b = true := by unfold eqC; exact @decide_eq_true _ (Classical.propDecidable _) h
theorem eqC_no {α : Type} {a b : α} (h : ¬ a = b) : eqC a b = false := by unfold eqC; exact @decide_eq_false _ (Classical.propDecidable _) h
theorem eqC_iff {α : Type} {a b : α} : eqC a b = true ↔ a = b := by
  constructor
  · intro h
    rcases Classical.em (a = b) with h1 | h1
    · exact h1
    · rw [eqC_no h1] at h; cases h
  · exact eqC_yes
theorem names_ne {a b : ByteArray} (h : ¬ a = b) : ¬ a.toList = b.toList := fun e => h (beqb_true (by rw [beq_toListBytes, e]; exact beq_self_eq_true _))
theorem at_ne {α : Type} {l m : List α} {k : Nat} {x y : α} (hx : l[k]? = some x) (hy : m[k]? = some y) (h : ¬ x = y) : ¬ l = m := fun e => by
  rw [e, hy] at hx; injection hx with hx; exact h hx.symm
set_option maxRecDepth 100000 in
set_option maxHeartbeats 4000000 in
theorem eqPar_ok (l m : List Par) (A B : Option Addr) (a b : Nat) (w : World) (hl : l.length ≤ 4194304) (_hm : m.length ≤ 4194304) (hA : Rd w w.heap.size 4 A l.length (l.flatMap Par.cells)) (hB : Rd w w.heap.size 4 B m.length (m.flatMap Par.cells)) :
    Calls Tryz.prog 57 #[.slice A l.length a, .slice B m.length b] w fun e w' => e = .returned (.bool (eqC l m)) ∧ Below w.heap.size w w' := by
  have HA := Lib.hid hA
  by_cases hlen : l.length = m.length
  · rw [← hlen] at hB ⊢
    have HB := Lib.hid hB
    have HLEN := Lib.hid hlen
    clear hA hB hlen
    go_enter Tryz.func57, Tryz.ntmps57
    go_wp2
    go_loopw [13] (fun i wr => ∃ k : Nat, k ≤ l.length ∧ i = .int .i64 k ∧ Hid (l.take k = m.take k) ∧ Hid (Below w.heap.size w wr)) (fun i _ => l.length - (intOf i).toNat)
    case atStart => exact ⟨0, Nat.zero_le _, rfl, Lib.hid rfl, Lib.hid (Below.refl _ _)⟩
    case round =>
      obtain ⟨k, hk, rfl, HT, HW⟩ := hrel
      by_cases hlt : k < l.length
      · obtain ⟨x, hx⟩ := get_lt hlt
        obtain ⟨y, hy⟩ := get_lt (l := m) (k := k) (by have := HLEN.out; omega)
        obtain ⟨b1, o1, rfl, h1, g0, g1, g2, g3⟩ := par_at (HA.out.below HW.out) hx
        obtain ⟨b2, o2, rfl, h2, k0, k1, k2, k3⟩ := par_at (by have := HB.out.below HW.out; rw [HLEN.out] at this; exact this) hy
        have k0' : (0 : Int) ≤ (k : Int) := by omega
        have k1' : (k : Int) < (l.length : Int) := by omega
        have HX := Lib.hid hx
        have HY := Lib.hid hy
        clear hx hy
        rcases Decidable.em (x.id = y.id) with q0 | q0
        rotate_left
        · have HV := Lib.hid (show eqC l m = false from eqC_no (at_ne HX.out HY.out (fun e => q0 (by rw [e]))))
          skip
          go_wp2
          go_quiet (fail)
          go_wp2
          go_ret
          exact ⟨by rw [HV.out]; rfl, below_drewN HW.out _⟩
        rw [← q0] at k0
        rcases Decidable.em (x.name = y.name) with q1 | q1
        rotate_left
        · have HV := Lib.hid (show eqC l m = false from eqC_no (at_ne HX.out HY.out (fun e => q1 (by rw [e]))))
          have qb : ¬ x.name.toList = y.name.toList := names_ne q1
          go_wp2
          go_quiet (fail)
          go_wp2
          go_ret
          exact ⟨by rw [HV.out]; rfl, below_drewN HW.out _⟩
        rw [← q1] at k1
        rcases Decidable.em (x.period = y.period) with q2 | q2
        rotate_left
        · have HV := Lib.hid (show eqC l m = false from eqC_no (at_ne HX.out HY.out (fun e => q2 (by rw [e]))))
          skip
          go_wp2
          go_quiet (fail)
          go_wp2
          go_ret
          exact ⟨by rw [HV.out]; rfl, below_drewN HW.out _⟩
        rw [← q2] at k2
        rcases Decidable.em (x.duration = y.duration) with q3 | q3
        rotate_left
        · have HV := Lib.hid (show eqC l m = false from eqC_no (at_ne HX.out HY.out (fun e => q3 (by rw [e]))))
          skip
          go_wp2
          go_quiet (fail)
          go_wp2
          go_ret
          exact ⟨by rw [HV.out]; rfl, below_drewN HW.out _⟩
        rw [← q3] at k3
        have HE := Lib.hid (show x = y by cases x; cases y; simp_all)
        clear q0 q1 q2 q3
        go_wp2
        go_quiet (fail)
        go_wp2
        go_roundw
        case rel => exact ⟨k + 1, by omega, by go_num, Lib.hid (by rw [take_next HX.out, take_next HY.out, HT.out, HE.out]), Lib.hid (below_drewN HW.out _)⟩
        case measure => simp [intOf]; omega
      · obtain rfl : k = l.length := by omega
        have HV := Lib.hid (show eqC l m = true from eqC_yes (by have := HT.out; rw [List.take_length, HLEN.out, List.take_length] at this; exact this))
        go_wp2
        go_ret
        exact ⟨by rw [HV.out]; rfl, HW.out⟩
  · have HV := Lib.hid (show eqC l m = false from eqC_no fun e => hlen (by rw [e]))
    have hne : ((l.length : Int) == (m.length : Int)) = false := by rw [beq_eq_false_iff_ne]; omega
    have hne2 : ¬ (l.length : Int) = (m.length : Int) := by omega
    clear hA hB hlen
    go_enter Tryz.func57, Tryz.ntmps57
    go_wp2
    go_ret
    exact ⟨by rw [HV.out]; rfl, Below.refl _ _⟩
set_option maxRecDepth 100000 in
set_option maxHeartbeats 4000000 in
theorem eqWin_ok (l m : List Win) (A B : Option Addr) (a b : Nat) (w : World) (hl : l.length ≤ 4194304) (_hm : m.length ≤ 4194304) (hA : Rd w w.heap.size 3 A l.length (l.flatMap Win.cells)) (hB : Rd w w.heap.size 3 B m.length (m.flatMap Win.cells)) :
    Calls Tryz.prog 58 #[.slice A l.length a, .slice B m.length b] w fun e w' => e = .returned (.bool (eqC l m)) ∧ Below w.heap.size w w' := by
  have HA := Lib.hid hA
  by_cases hlen : l.length = m.length
  · rw [← hlen] at hB ⊢
    have HB := Lib.hid hB
    have HLEN := Lib.hid hlen
    clear hA hB hlen
    go_enter Tryz.func58, Tryz.ntmps58
    go_wp2
    go_loopw [13] (fun i wr => ∃ k : Nat, k ≤ l.length ∧ i = .int .i64 k ∧ Hid (l.take k = m.take k) ∧ Hid (Below w.heap.size w wr)) (fun i _ => l.length - (intOf i).toNat)
    case atStart => exact ⟨0, Nat.zero_le _, rfl, Lib.hid rfl, Lib.hid (Below.refl _ _)⟩
    case round =>
      obtain ⟨k, hk, rfl, HT, HW⟩ := hrel
      by_cases hlt : k < l.length
      · obtain ⟨x, hx⟩ := get_lt hlt
        obtain ⟨y, hy⟩ := get_lt (l := m) (k := k) (by have := HLEN.out; omega)
        obtain ⟨b1, o1, rfl, h1, g0, g1, g2⟩ := win_at (HA.out.below HW.out) hx
        obtain ⟨b2, o2, rfl, h2, k0, k1, k2⟩ := win_at (by have := HB.out.below HW.out; rw [HLEN.out] at this; exact this) hy
        have k0' : (0 : Int) ≤ (k : Int) := by omega
        have k1' : (k : Int) < (l.length : Int) := by omega
        have HX := Lib.hid hx
        have HY := Lib.hid hy
        clear hx hy
        rcases Decidable.em (x.start = y.start) with q0 | q0
        rotate_left
        · have HV := Lib.hid (show eqC l m = false from eqC_no (at_ne HX.out HY.out (fun e => q0 (by rw [e]))))
          skip
          go_wp2
          go_quiet (fail)
          go_wp2
          go_ret
          exact ⟨by rw [HV.out]; rfl, below_drewN HW.out _⟩
        rw [← q0] at k0
        rcases Decidable.em (x.len = y.len) with q1 | q1
        rotate_left
        · have HV := Lib.hid (show eqC l m = false from eqC_no (at_ne HX.out HY.out (fun e => q1 (by rw [e]))))
          skip
          go_wp2
          go_quiet (fail)
          go_wp2
          go_ret
          exact ⟨by rw [HV.out]; rfl, below_drewN HW.out _⟩
        rw [← q1] at k1
        rcases Decidable.em (x.part = y.part) with q2 | q2
        rotate_left
        · have HV := Lib.hid (show eqC l m = false from eqC_no (at_ne HX.out HY.out (fun e => q2 (by rw [e]))))
          skip
          go_wp2
          go_quiet (fail)
          go_wp2
          go_ret
          exact ⟨by rw [HV.out]; rfl, below_drewN HW.out _⟩
        rw [← q2] at k2
        have HE := Lib.hid (show x = y by cases x; cases y; simp_all)
        clear q0 q1 q2
        go_wp2
        go_quiet (fail)
        go_wp2
        go_roundw
        case rel => exact ⟨k + 1, by omega, by go_num, Lib.hid (by rw [take_next HX.out, take_next HY.out, HT.out, HE.out]), Lib.hid (below_drewN HW.out _)⟩
        case measure => simp [intOf]; omega
      · obtain rfl : k = l.length := by omega
        have HV := Lib.hid (show eqC l m = true from eqC_yes (by have := HT.out; rw [List.take_length, HLEN.out, List.take_length] at this; exact this))
        go_wp2
        go_ret
        exact ⟨by rw [HV.out]; rfl, HW.out⟩
  · have HV := Lib.hid (show eqC l m = false from eqC_no fun e => hlen (by rw [e]))
    have hne : ((l.length : Int) == (m.length : Int)) = false := by rw [beq_eq_false_iff_ne]; omega
    have hne2 : ¬ (l.length : Int) = (m.length : Int) := by omega
    clear hA hB hlen
    go_enter Tryz.func58, Tryz.ntmps58
    go_wp2
    go_ret
    exact ⟨by rw [HV.out]; rfl, Below.refl _ _⟩
set_option maxRecDepth 100000 in
set_option maxHeartbeats 4000000 in
theorem eqReg_ok (l m : List Reg) (A B : Option Addr) (a b : Nat) (w : World) (hl : l.length ≤ 4194304) (_hm : m.length ≤ 4194304) (hA : Rd w w.heap.size 5 A l.length (l.flatMap Reg.cells)) (hB : Rd w w.heap.size 5 B m.length (m.flatMap Reg.cells)) :
    Calls Tryz.prog 59 #[.slice A l.length a, .slice B m.length b] w fun e w' => e = .returned (.bool (eqC l m)) ∧ Below w.heap.size w w' := by
  have HA := Lib.hid hA
  by_cases hlen : l.length = m.length
  · rw [← hlen] at hB ⊢
    have HB := Lib.hid hB
    have HLEN := Lib.hid hlen
    clear hA hB hlen
    go_enter Tryz.func59, Tryz.ntmps59
    go_wp2
    go_loopw [13] (fun i wr => ∃ k : Nat, k ≤ l.length ∧ i = .int .i64 k ∧ Hid (l.take k = m.take k) ∧ Hid (Below w.heap.size w wr)) (fun i _ => l.length - (intOf i).toNat)
    case atStart => exact ⟨0, Nat.zero_le _, rfl, Lib.hid rfl, Lib.hid (Below.refl _ _)⟩
    case round =>
      obtain ⟨k, hk, rfl, HT, HW⟩ := hrel
      by_cases hlt : k < l.length
      · obtain ⟨x, hx⟩ := get_lt hlt
        obtain ⟨y, hy⟩ := get_lt (l := m) (k := k) (by have := HLEN.out; omega)
        obtain ⟨b1, o1, rfl, h1, g0, g1, g2, g3, g4⟩ := reg_at (HA.out.below HW.out) hx
        obtain ⟨b2, o2, rfl, h2, k0, k1, k2, k3, k4⟩ := reg_at (by have := HB.out.below HW.out; rw [HLEN.out] at this; exact this) hy
        have k0' : (0 : Int) ≤ (k : Int) := by omega
        have k1' : (k : Int) < (l.length : Int) := by omega
        have HX := Lib.hid hx
        have HY := Lib.hid hy
        clear hx hy
        rcases Decidable.em (x.base = y.base) with q0 | q0
        rotate_left
        · have HV := Lib.hid (show eqC l m = false from eqC_no (at_ne HX.out HY.out (fun e => q0 (by rw [e]))))
          skip
          go_wp2
          go_quiet (fail)
          go_wp2
          go_ret
          exact ⟨by rw [HV.out]; rfl, below_drewN HW.out _⟩
        rw [← q0] at k0
        rcases Decidable.em (x.size = y.size) with q1 | q1
        rotate_left
        · have HV := Lib.hid (show eqC l m = false from eqC_no (at_ne HX.out HY.out (fun e => q1 (by rw [e]))))
          skip
          go_wp2
          go_quiet (fail)
          go_wp2
          go_ret
          exact ⟨by rw [HV.out]; rfl, below_drewN HW.out _⟩
        rw [← q1] at k1
        rcases Decidable.em (x.part = y.part) with q2 | q2
        rotate_left
        · have HV := Lib.hid (show eqC l m = false from eqC_no (at_ne HX.out HY.out (fun e => q2 (by rw [e]))))
          skip
          go_wp2
          go_quiet (fail)
          go_wp2
          go_ret
          exact ⟨by rw [HV.out]; rfl, below_drewN HW.out _⟩
        rw [← q2] at k2
        rcases Decidable.em (x.rights = y.rights) with q3 | q3
        rotate_left
        · have HV := Lib.hid (show eqC l m = false from eqC_no (at_ne HX.out HY.out (fun e => q3 (by rw [e]))))
          skip
          go_wp2
          go_quiet (fail)
          go_wp2
          go_ret
          exact ⟨by rw [HV.out]; rfl, below_drewN HW.out _⟩
        rw [← q3] at k3
        rcases Decidable.em (x.shared = y.shared) with q4 | q4
        rotate_left
        · have HV := Lib.hid (show eqC l m = false from eqC_no (at_ne HX.out HY.out (fun e => q4 (by rw [e]))))
          skip
          go_wp2
          go_quiet (fail)
          go_wp2
          go_ret
          exact ⟨by rw [HV.out]; rfl, below_drewN HW.out _⟩
        rw [← q4] at k4
        have HE := Lib.hid (show x = y by cases x; cases y; simp_all)
        clear q0 q1 q2 q3 q4
        go_wp2
        go_quiet (fail)
        go_wp2
        go_roundw
        case rel => exact ⟨k + 1, by omega, by go_num, Lib.hid (by rw [take_next HX.out, take_next HY.out, HT.out, HE.out]), Lib.hid (below_drewN HW.out _)⟩
        case measure => simp [intOf]; omega
      · obtain rfl : k = l.length := by omega
        have HV := Lib.hid (show eqC l m = true from eqC_yes (by have := HT.out; rw [List.take_length, HLEN.out, List.take_length] at this; exact this))
        go_wp2
        go_ret
        exact ⟨by rw [HV.out]; rfl, HW.out⟩
  · have HV := Lib.hid (show eqC l m = false from eqC_no fun e => hlen (by rw [e]))
    have hne : ((l.length : Int) == (m.length : Int)) = false := by rw [beq_eq_false_iff_ne]; omega
    have hne2 : ¬ (l.length : Int) = (m.length : Int) := by omega
    clear hA hB hlen
    go_enter Tryz.func59, Tryz.ntmps59
    go_wp2
    go_ret
    exact ⟨by rw [HV.out]; rfl, Below.refl _ _⟩
set_option maxRecDepth 100000 in
set_option maxHeartbeats 4000000 in
theorem eqPrt_ok (l m : List Prt) (A B : Option Addr) (a b : Nat) (w : World) (hl : l.length ≤ 4194304) (_hm : m.length ≤ 4194304) (hA : Rd w w.heap.size 6 A l.length (l.flatMap Prt.cells)) (hB : Rd w w.heap.size 6 B m.length (m.flatMap Prt.cells)) :
    Calls Tryz.prog 60 #[.slice A l.length a, .slice B m.length b] w fun e w' => e = .returned (.bool (eqC l m)) ∧ Below w.heap.size w w' := by
  have HA := Lib.hid hA
  by_cases hlen : l.length = m.length
  · rw [← hlen] at hB ⊢
    have HB := Lib.hid hB
    have HLEN := Lib.hid hlen
    clear hA hB hlen
    go_enter Tryz.func60, Tryz.ntmps60
    go_wp2
    go_loopw [13] (fun i wr => ∃ k : Nat, k ≤ l.length ∧ i = .int .i64 k ∧ Hid (l.take k = m.take k) ∧ Hid (Below w.heap.size w wr)) (fun i _ => l.length - (intOf i).toNat)
    case atStart => exact ⟨0, Nat.zero_le _, rfl, Lib.hid rfl, Lib.hid (Below.refl _ _)⟩
    case round =>
      obtain ⟨k, hk, rfl, HT, HW⟩ := hrel
      by_cases hlt : k < l.length
      · obtain ⟨x, hx⟩ := get_lt hlt
        obtain ⟨y, hy⟩ := get_lt (l := m) (k := k) (by have := HLEN.out; omega)
        obtain ⟨b1, o1, rfl, h1, g0, g1, g2, g3, g4, g5⟩ := prt_at (HA.out.below HW.out) hx
        obtain ⟨b2, o2, rfl, h2, k0, k1, k2, k3, k4, k5⟩ := prt_at (by have := HB.out.below HW.out; rw [HLEN.out] at this; exact this) hy
        have k0' : (0 : Int) ≤ (k : Int) := by omega
        have k1' : (k : Int) < (l.length : Int) := by omega
        have HX := Lib.hid hx
        have HY := Lib.hid hy
        clear hx hy
        rcases Decidable.em (x.id = y.id) with q0 | q0
        rotate_left
        · have HV := Lib.hid (show eqC l m = false from eqC_no (at_ne HX.out HY.out (fun e => q0 (by rw [e]))))
          skip
          go_wp2
          go_quiet (fail)
          go_wp2
          go_ret
          exact ⟨by rw [HV.out]; rfl, below_drewN HW.out _⟩
        rw [← q0] at k0
        rcases Decidable.em (x.part = y.part) with q1 | q1
        rotate_left
        · have HV := Lib.hid (show eqC l m = false from eqC_no (at_ne HX.out HY.out (fun e => q1 (by rw [e]))))
          skip
          go_wp2
          go_quiet (fail)
          go_wp2
          go_ret
          exact ⟨by rw [HV.out]; rfl, below_drewN HW.out _⟩
        rw [← q1] at k1
        rcases Decidable.em (x.name = y.name) with q2 | q2
        rotate_left
        · have HV := Lib.hid (show eqC l m = false from eqC_no (at_ne HX.out HY.out (fun e => q2 (by rw [e]))))
          have qb : ¬ x.name.toList = y.name.toList := names_ne q2
          go_wp2
          go_quiet (fail)
          go_wp2
          go_ret
          exact ⟨by rw [HV.out]; rfl, below_drewN HW.out _⟩
        rw [← q2] at k2
        rcases Decidable.em (x.output = y.output) with q3 | q3
        rotate_left
        · have HV := Lib.hid (show eqC l m = false from eqC_no (at_ne HX.out HY.out (fun e => q3 (by rw [e]))))
          skip
          go_wp2
          go_quiet (fail)
          go_wp2
          go_ret
          exact ⟨by rw [HV.out]; rfl, below_drewN HW.out _⟩
        rw [← q3] at k3
        rcases Decidable.em (x.queuing = y.queuing) with q4 | q4
        rotate_left
        · have HV := Lib.hid (show eqC l m = false from eqC_no (at_ne HX.out HY.out (fun e => q4 (by rw [e]))))
          skip
          go_wp2
          go_quiet (fail)
          go_wp2
          go_ret
          exact ⟨by rw [HV.out]; rfl, below_drewN HW.out _⟩
        rw [← q4] at k4
        rcases Decidable.em (x.size = y.size) with q5 | q5
        rotate_left
        · have HV := Lib.hid (show eqC l m = false from eqC_no (at_ne HX.out HY.out (fun e => q5 (by rw [e]))))
          skip
          go_wp2
          go_quiet (fail)
          go_wp2
          go_ret
          exact ⟨by rw [HV.out]; rfl, below_drewN HW.out _⟩
        rw [← q5] at k5
        have HE := Lib.hid (show x = y by cases x; cases y; simp_all)
        clear q0 q1 q2 q3 q4 q5
        go_wp2
        go_quiet (fail)
        go_wp2
        go_roundw
        case rel => exact ⟨k + 1, by omega, by go_num, Lib.hid (by rw [take_next HX.out, take_next HY.out, HT.out, HE.out]), Lib.hid (below_drewN HW.out _)⟩
        case measure => simp [intOf]; omega
      · obtain rfl : k = l.length := by omega
        have HV := Lib.hid (show eqC l m = true from eqC_yes (by have := HT.out; rw [List.take_length, HLEN.out, List.take_length] at this; exact this))
        go_wp2
        go_ret
        exact ⟨by rw [HV.out]; rfl, HW.out⟩
  · have HV := Lib.hid (show eqC l m = false from eqC_no fun e => hlen (by rw [e]))
    have hne : ((l.length : Int) == (m.length : Int)) = false := by rw [beq_eq_false_iff_ne]; omega
    have hne2 : ¬ (l.length : Int) = (m.length : Int) := by omega
    clear hA hB hlen
    go_enter Tryz.func60, Tryz.ntmps60
    go_wp2
    go_ret
    exact ⟨by rw [HV.out]; rfl, Below.refl _ _⟩
theorem sameFn_ok (x y : Chn) (A B : Option Addr) (a b : Nat) (w : World) (v : Bool) (hv : Hid (eqC x y = v)) (hlx : x.dests.length ≤ 4194304) (hly : y.dests.length ≤ 4194304) (hA : Rd w w.heap.size 1 A x.dests.length (x.dests.map (Value.int .u16))) (hB : Rd w w.heap.size 1 B y.dests.length (y.dests.map (Value.int .u16))) :
    Calls Tryz.prog 62 #[.agg #[.int .u16 x.id, .int .u16 x.source, .slice A x.dests.length a], .agg #[.int .u16 y.id, .int .u16 y.source, .slice B y.dests.length b]] w fun e w' => e = .returned (.bool v) ∧ Below w.heap.size w w' := by
  have hb1 := below_one w (.cells #[.int .u16 x.id, .int .u16 x.source, .slice A x.dests.length a] 46)
  have hb2 := below_one (w.alloc (.cells #[.int .u16 x.id, .int .u16 x.source, .slice A x.dests.length a] 46)) (.cells #[.int .u16 y.id, .int .u16 y.source, .slice B y.dests.length b] 46)
  have HB0 := Lib.hid (Below.then_ hb1 hb2)
  have HA := Lib.hid (hA.up HB0.out)
  have HB := Lib.hid (hB.up HB0.out)
  clear hA hB hb1 hb2
  obtain ⟨z, hz⟩ : ∃ z, cmpChn x y = z := ⟨_, rfl⟩
  have HC := Lib.hid (show ∀ W, Rd W W.heap.size 1 A x.dests.length (x.dests.map (Value.int .u16)) → Rd W W.heap.size 1 B y.dests.length (y.dests.map (Value.int .u16)) → Calls Tryz.prog 52 #[.agg #[.int .u16 x.id, .int .u16 x.source, .slice A x.dests.length a], .agg #[.int .u16 y.id, .int .u16 y.source, .slice B y.dests.length b]] W fun e w' => e = .returned (.int .i64 z) ∧ Grown W w' from fun W h1 h2 => by rw [← hz]; exact methChn_ok x y A B a b W hlx hly h1 h2)
  rcases Decidable.em (z = 0) with h0 | h0
  · have he : x = y := keyChn_inj (cmpL_zero (by rw [← cmpChn_key, hz, h0]))
    have HV := Lib.hid (show v = true by rw [← hv.out]; exact eqC_yes he)
    subst h0
    clear he hz hv
    go_enter Tryz.func62, Tryz.ntmps62
    go_wp2_with fail
    refine (HC.out _ HA.out HB.out).mono ?_
    rintro e w1 ⟨rfl, hg⟩
    have HZ := Lib.hid (Below.then_ HB0.out hg.below)
    clear hg
    go_wp2
    go_ret
    exact ⟨by rw [HV.out]; rfl, HZ.out⟩
  · have hne : ¬ x = y := fun e => h0 (by rw [← hz, e, cmpChn_key, cmpL_refl])
    have HV := Lib.hid (show v = false by rw [← hv.out]; exact eqC_no hne)
    have h02 : (z == 0) = false := by rw [beq_eq_false_iff_ne]; exact h0
    clear hne hz hv
    go_enter Tryz.func62, Tryz.ntmps62
    go_wp2_with fail
    refine (HC.out _ HA.out HB.out).mono ?_
    rintro e w1 ⟨rfl, hg⟩
    have HZ := Lib.hid (Below.then_ HB0.out hg.below)
    clear hg
    go_wp2
    go_ret
    exact ⟨by rw [HV.out]; rfl, HZ.out⟩
set_option maxRecDepth 100000 in
set_option maxHeartbeats 4000000 in
theorem eqChn_ok (l m : List Chn) (A B : Option Addr) (a b : Nat) (w : World) (hl : l.length ≤ 4194304) (_hm : m.length ≤ 4194304) (hdl : ∀ x ∈ l, x.dests.length ≤ 4194304) (hdm : ∀ x ∈ m, x.dests.length ≤ 4194304) (cs ds : List Value) (hC : ChnsC w w.heap.size l cs) (hD : ChnsC w w.heap.size m ds) (hA : Rd w w.heap.size 3 A l.length cs) (hB : Rd w w.heap.size 3 B m.length ds) :
    Calls Tryz.prog 61 #[.slice A l.length a, .slice B m.length b, .func (.func 62) #[] #[]] w fun e w' => e = .returned (.bool (eqC l m)) ∧ Below w.heap.size w w' := by
  have hent : ∀ a w, (callFunc 62 a).run Tryz.prog w = .ok (.enter 62 a) w := enters_of Tryz.func62 (by kernel_rfl) rfl
  have HA := Lib.hid hA
  have HB := Lib.hid hB
  have HC := Lib.hid hC
  have HD := Lib.hid hD
  have HDL := Lib.hid hdl
  have HDM := Lib.hid hdm
  clear hA hB hC hD hdl hdm
  by_cases hlen : l.length = m.length
  · have HLEN := Lib.hid hlen
    rw [← hlen]
    clear hlen
    go_enter Tryz.func61, Tryz.ntmps61
    go_wp2
    go_loopw [17] (fun i wr => ∃ k : Nat, k ≤ l.length ∧ i = .int .i64 k ∧ Hid (l.take k = m.take k) ∧ Hid (Below w.heap.size w wr)) (fun i _ => l.length - (intOf i).toNat)
    case atStart => exact ⟨0, Nat.zero_le _, rfl, Lib.hid rfl, Lib.hid (Below.refl _ _)⟩
    case round =>
      obtain ⟨k, hk, rfl, HT, HW⟩ := hrel
      by_cases hlt : k < l.length
      · obtain ⟨x, hx⟩ := get_lt hlt
        obtain ⟨y, hy⟩ := get_lt (l := m) (k := k) (by have := HLEN.out; omega)
        obtain ⟨b1, o1, rfl, h1, x0, x1, D1, d1, x2, _, _, hD1⟩ := chn_at HC.out HA.out hx
        obtain ⟨b2, o2, rfl, h2, y0, y1, D2, d2, y2, _, _, hD2⟩ := chn_at HD.out HB.out hy
        have hlx := HDL.out x (List.mem_of_getElem? hx)
        have hly := HDM.out y (List.mem_of_getElem? hy)
        have z0 := (HW.out.cell (p := ⟨b1, o1 + k * 3, none⟩) h1).trans x0
        have z1 := (HW.out.cell (p := ⟨b1, o1 + k * 3 + 1, none⟩) h1).trans x1
        have z2 := (HW.out.cell (p := ⟨b1, o1 + k * 3 + 2, none⟩) h1).trans x2
        have t0 := (HW.out.cell (p := ⟨b2, o2 + k * 3, none⟩) h2).trans y0
        have t1 := (HW.out.cell (p := ⟨b2, o2 + k * 3 + 1, none⟩) h2).trans y1
        have t2 := (HW.out.cell (p := ⟨b2, o2 + k * 3 + 2, none⟩) h2).trans y2
        have k0' : (0 : Int) ≤ (k : Int) := by omega
        have k1' : (k : Int) < (l.length : Int) := by omega
        have hbw1 := below_one wr (.cells #[.int .u16 x.id, .int .u16 x.source, .slice D1 x.dests.length d1] 46)
        have hbw2 := below_one (wr.alloc (.cells #[.int .u16 x.id, .int .u16 x.source, .slice D1 x.dests.length d1] 46)) (.cells #[.int .u16 y.id, .int .u16 y.source, .slice D2 y.dests.length d2] 46)
        have HBW := Lib.hid (Below.then_ (Below.then_ HW.out hbw1) hbw2)
        have HD1 := Lib.hid (hD1.up HBW.out)
        have HD2 := Lib.hid (hD2.up HBW.out)
        have l1' := Nat.lt_of_lt_of_le h1 HW.out.size
        have l2' := Nat.lt_of_lt_of_le h2 HW.out.size
        have HX := Lib.hid hx
        have HY := Lib.hid hy
        obtain ⟨v, hv⟩ : ∃ v, eqC x y = v := ⟨_, rfl⟩
        have HV := Lib.hid hv
        clear hx hy x0 x1 x2 y0 y1 y2 hD1 hD2 hbw1 hbw2 hv
        go_wp2_with fail
        refine (sameFn_ok x y D1 D2 d1 d2 _ v HV hlx hly HD1.out HD2.out).mono ?_
        rintro e w3 ⟨rfl, hb3⟩
        have HB3 := Lib.hid (Below.then_ HBW.out hb3)
        clear hb3 z0 z1 z2 t0 t1 t2
        cases v
        · have HF := Lib.hid (show eqC l m = false from eqC_no (at_ne HX.out HY.out (fun e => by have := HV.out; rw [eqC_yes e] at this; cases this)))
          go_wp2
          go_ret
          exact ⟨by rw [HF.out]; rfl, HB3.out⟩
        · have HE := Lib.hid (show x = y from eqC_iff.1 HV.out)
          go_wp2
          go_roundw
          case rel => exact ⟨k + 1, by omega, by go_num, Lib.hid (by rw [take_next HX.out, take_next HY.out, HT.out, HE.out]), HB3⟩
          case measure => simp [intOf]; omega
      · obtain rfl : k = l.length := by omega
        have HV := Lib.hid (show eqC l m = true from eqC_yes (by have := HT.out; rw [List.take_length, HLEN.out, List.take_length] at this; exact this))
        go_wp2
        go_ret
        exact ⟨by rw [HV.out]; rfl, HW.out⟩
  · have HV := Lib.hid (show eqC l m = false from eqC_no fun e => hlen (by rw [e]))
    have hne : ((l.length : Int) == (m.length : Int)) = false := by rw [beq_eq_false_iff_ne]; omega
    have hne2 : ¬ (l.length : Int) = (m.length : Int) := by omega
    clear hlen
    go_enter Tryz.func61, Tryz.ntmps61
    go_wp2
    go_ret
    exact ⟨by rw [HV.out]; rfl, Below.refl _ _⟩
end Go.Proofs.YtldchpmilknlmaaGreat
