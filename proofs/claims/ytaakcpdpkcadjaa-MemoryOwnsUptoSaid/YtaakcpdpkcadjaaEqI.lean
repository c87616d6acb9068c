/-
  slices.Equal of two slices that read as one list of numbers: true. Condition: each holds at most 4194304 numbers.
-/
import Derived.Test.YtaakcpdpkcadjaaRef13b
namespace Go.Proofs.Ytaakcpdpkcadjaa
open Go.RowKit
theorem eqInt_same (l : List Int) (A B : Option Addr) (a b : Nat) (w : World) (hl : l.length ≤ 4194304) (hA : Rd w w.heap.size 1 A l.length (l.map (Value.int .i64))) (hB : Rd w w.heap.size 1 B l.length (l.map (Value.int .i64))) :
    Calls Try.prog 14 #[.slice A l.length a, .slice B l.length b] w fun e w' => e = .returned (.bool true) ∧ Below w.heap.size w w' := by
  have HA := Lib.hid hA
  have HB := Lib.hid hB
  clear hA hB
  go_enter Try.func14, Try.ntmps14
  go_wp2
  go_loopw [13] (fun i wr => ∃ k : Nat, k ≤ l.length ∧ i = .int .i64 k ∧ Hid (Below w.heap.size w wr)) (fun i _ => l.length - (intOf i).toNat)
  case atStart => exact ⟨0, Nat.zero_le _, rfl, Lib.hid (Below.refl _ _)⟩
  case round =>
    obtain ⟨k, hk, rfl, HW⟩ := hrel
    by_cases hlt : k < l.length
    · obtain ⟨x, hx⟩ := get_lt hlt
      obtain ⟨b1, o1, rfl, h1, g1⟩ := int_at (HA.out.below HW.out) hx
      obtain ⟨b2, o2, rfl, h2, g2⟩ := int_at (HB.out.below HW.out) hx
      have k0 : (0 : Int) ≤ (k : Int) := by omega
      have k1 : (k : Int) < (l.length : Int) := by omega
      clear hx
      go_wp2
      go_quiet (fail)
      go_wp2
      go_roundw
      case rel => exact ⟨k + 1, by omega, by go_num, Lib.hid (below_drewN HW.out _)⟩
      case measure => simp [intOf]; omega
    · obtain rfl : k = l.length := by omega
      go_wp2
      go_ret
      exact ⟨rfl, HW.out⟩
end Go.Proofs.Ytaakcpdpkcadjaa
