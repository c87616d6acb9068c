/-
  What package uniq computes, walked once: the checks, the index and its methods.
-/
import Derived.Test.YtgkodbejnbfakaaCollect
import Derived.Test.YtgkodbejnbfakaaCollectB
import Derived.Deep.RegionWith
import Derived.Deep.RegionHeld3
namespace Go.Proofs.Ytgkodbejnbfakaa
open Go.RowKit
structure Flt where
  code : Int
  part : Int
  at_ : Int
@[reducible] def Flt.cells (f : Flt) : Array Value := #[.int .i64 f.code, .int .i64 f.part, .int .i64 f.at_]
@[reducible] def fltV (f : Flt) : Value := .agg f.cells
def noFlt : Flt := ⟨0, 0, 0⟩
def firstOf (s : Int) : List Int → Flt
  | [] => noFlt
  | i :: r => if 0 ≤ i then ⟨18, s, i⟩ else firstOf s r
theorem Rd.up {w w' : World} {sz n : Nat} {A : Option Addr} {xs : List Value} (h : Rd w w.heap.size sz A n xs) (hb : Below w.heap.size w w') : Rd w' w'.heap.size sz A n xs := (h.below hb).more hb.size
theorem ret_flt {f g : Flt} (h : f = g) : Ending.returned (fltV f) = .returned (fltV g) := by rw [h]
set_option maxRecDepth 100000 in
set_option maxHeartbeats 1000000 in
theorem first_ok (s : Int) (l : List Int) (A : Option Addr) (cp : Nat) (w : World) (hl : l.length ≤ 1048576) (hP : Rd w w.heap.size 1 A l.length (l.map (Value.int .i64))) :
    Calls Try.prog 48 #[.int .i64 s, .slice A l.length cp] w fun e w' => e = .returned (fltV (firstOf s l)) ∧ Below w.heap.size w w' := by
  go_enter Try.func48, Try.ntmps48
  go_wp2
  go_loop [9] (fun i => ∃ k : Nat, k ≤ l.length ∧ i = .int .i64 k ∧ Hid (firstOf s l = firstOf s (l.drop k))) (fun i => l.length - (intOf i).toNat)
  case atStart => exact ⟨0, Nat.zero_le _, rfl, Lib.hid rfl⟩
  case round =>
    obtain ⟨k, hk, rfl, hrest⟩ := hrel
    by_cases hlt : k < l.length
    · obtain ⟨x, hx⟩ := get_lt hlt
      obtain ⟨b, o, rfl, hb, g0⟩ := int_at hP hx
      have HX := Lib.hid (drop_cons hx)
      clear hx hP
      by_cases h0 : 0 ≤ x
      · have HF := Lib.hid (show firstOf s l = ⟨18, s, x⟩ by rw [hrest.out, HX.out, firstOf, if_pos h0])
        go_wp2
        refine bodyPost_ret (v := fltV ⟨18, s, x⟩) (by simp [results, Try.results48, go_sem]) rfl ⟨ret_flt HF.out.symm, ?_⟩
        exact (Below.refl _ _).alloc (Nat.le_refl _) _
      · have HF := Lib.hid (show firstOf s l = firstOf s (l.drop (k + 1)) by rw [hrest.out, HX.out, firstOf, if_neg h0])
        go_wp2
        go_round
        case rel => exact ⟨k + 1, by omega, by go_num, HF⟩
        case measure => simp [intOf]; omega
    · obtain rfl : k = l.length := by omega
      have HF := Lib.hid (show firstOf s l = noFlt by rw [hrest.out, List.drop_length, firstOf])
      go_wp2
      refine bodyPost_ret (v := fltV noFlt) (by simp [results, Try.results48, go_sem, noFlt]) rfl ⟨ret_flt HF.out.symm, ?_⟩
      exact (Below.refl _ _).alloc (Nat.le_refl _) _
end Go.Proofs.Ytgkodbejnbfakaa
