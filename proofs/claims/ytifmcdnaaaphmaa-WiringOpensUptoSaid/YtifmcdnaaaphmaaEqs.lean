/-
  slices.Equal of two slices that read as one list of numbers: true; a row of rows that reads as a list of lists.
-/
import Derived.Test.YtifmcdnaaaphmaaRef18e
namespace Go.Proofs.Ytifmcdnaaaphmaa
open Go.RowKit
theorem eqI_same (l : List Int) (A B : Option Addr) (a b : Nat) (w : World) (hl : l.length ≤ 4194304) (hA : Rd w w.heap.size 1 A l.length (l.map (Value.int .i64))) (hB : Rd w w.heap.size 1 B l.length (l.map (Value.int .i64))) :
    Calls Try.prog 24 #[.slice A l.length a, .slice B l.length b] w fun e w' => e = .returned (.bool true) ∧ Below w.heap.size w w' := by
  have HA := Lib.hid hA
  have HB := Lib.hid hB
  clear hA hB
  go_enter Try.func24, Try.ntmps24
  go_wp2
  go_loopw [13] (fun i wr => ∃ k : Nat, k ≤ l.length ∧ i = .int .i64 k ∧ Hid (Below w.heap.size w wr)) (fun i _ => l.length - (intOf i).toNat)
  case atStart => exact ⟨0, Nat.zero_le _, rfl, Lib.hid (Below.refl _ _)⟩
  case round =>
    obtain ⟨k, hk, rfl, HW⟩ := hrel
    by_cases hlt : k < l.length
    · obtain ⟨x, hx⟩ := get_lt hlt
      obtain ⟨b1, o1, rfl, h1, g1⟩ := int_at (HA.out.below HW.out) hx
      obtain ⟨b2, o2, rfl, h2, g2⟩ := int_at (HB.out.below HW.out) hx
      have k0 : (0 : Int) ≤ (k : Int) := by omega
      have k1 : (k : Int) < (l.length : Int) := by omega
      clear hx
      go_wp2
      go_quiet (fail)
      go_wp2
      go_roundw
      case rel => exact ⟨k + 1, by omega, by go_num, Lib.hid (below_drewN HW.out _)⟩
      case measure => simp [intOf]; omega
    · obtain rfl : k = l.length := by omega
      go_wp2
      go_ret
      exact ⟨rfl, HW.out⟩
theorem eqU_same (l : List Int) (A B : Option Addr) (a b : Nat) (w : World) (hl : l.length ≤ 4194304) (hA : Rd w w.heap.size 1 A l.length (l.map (Value.int .u16))) (hB : Rd w w.heap.size 1 B l.length (l.map (Value.int .u16))) :
    Calls Try.prog 27 #[.slice A l.length a, .slice B l.length b] w fun e w' => e = .returned (.bool true) ∧ Below w.heap.size w w' := by
  have HA := Lib.hid hA
  have HB := Lib.hid hB
  clear hA hB
  go_enter Try.func27, Try.ntmps27
  go_wp2
  go_loopw [13] (fun i wr => ∃ k : Nat, k ≤ l.length ∧ i = .int .i64 k ∧ Hid (Below w.heap.size w wr)) (fun i _ => l.length - (intOf i).toNat)
  case atStart => exact ⟨0, Nat.zero_le _, rfl, Lib.hid (Below.refl _ _)⟩
  case round =>
    obtain ⟨k, hk, rfl, HW⟩ := hrel
    by_cases hlt : k < l.length
    · obtain ⟨x, hx⟩ := get_lt hlt
      obtain ⟨b1, o1, rfl, h1, g1⟩ := int_at (HA.out.below HW.out) hx
      obtain ⟨b2, o2, rfl, h2, g2⟩ := int_at (HB.out.below HW.out) hx
      have k0 : (0 : Int) ≤ (k : Int) := by omega
      have k1 : (k : Int) < (l.length : Int) := by omega
      clear hx
      go_wp2
      go_quiet (fail)
      go_wp2
      go_roundw
      case rel => exact ⟨k + 1, by omega, by go_num, Lib.hid (below_drewN HW.out _)⟩
      case measure => simp [intOf]; omega
    · obtain rfl : k = l.length := by omega
      go_wp2
      go_ret
      exact ⟨rfl, HW.out⟩
/-- a slice of slices reads as rows -/
def RowsR (w : World) (A : Option Addr) (rows : List (List Int)) : Prop := ∃ vs, Rd w w.heap.size 1 A rows.length vs ∧ ∀ (i : Nat) (l : List Int) (v : Value), rows[i]? = some l → vs[i]? = some v → ∃ A' c', v = .slice A' l.length c' ∧ Rd w w.heap.size 1 A' l.length (l.map (Value.int .i64))
theorem RowsR.up {w w' : World} {A : Option Addr} {rows : List (List Int)} (h : RowsR w A rows) (hb : Below w.heap.size w w') : RowsR w' A rows := by
  obtain ⟨vs, h1, h2⟩ := h
  refine ⟨vs, h1.up hb, fun i l v e1 e2 => ?_⟩
  obtain ⟨A', c', e, hr⟩ := h2 i l v e1 e2
  exact ⟨A', c', e, hr.up hb⟩
theorem MatO.reads {w : World} {b : Nat} {v : Value} {rows : List (List Int)} (h : MatO w b v rows) : ∃ A c, v = .slice A rows.length c ∧ RowsR w A rows := by
  obtain ⟨vs, h1, h2⟩ := h
  obtain ⟨A, c, e, _, _, hr⟩ := own_form h1
  refine ⟨A, c, e, vs, hr, fun i l v e1 e2 => ?_⟩
  obtain ⟨A', c', e', _, _, hr'⟩ := own_form (h2.2 i l v e1 e2)
  exact ⟨A', c', e', hr'⟩
theorem RowsR.row {w : World} {A : Option Addr} {rows : List (List Int)} (h : RowsR w A rows) {i : Nat} {l : List Int} (hi : rows[i]? = some l) :
    ∃ b o A' c', A = some ⟨b, o, none⟩ ∧ b < w.heap.size ∧ w.cell? ⟨b, o + i, none⟩ = some (.slice A' l.length c') ∧ Rd w w.heap.size 1 A' l.length (l.map (Value.int .i64)) := by
  obtain ⟨vs, h1, h2⟩ := h
  have hlt : i < rows.length := (List.getElem?_eq_some_iff.1 hi).1
  have hvl := h1.1
  obtain ⟨v, hv⟩ : ∃ v, vs[i]? = some v := ⟨_, List.getElem?_eq_getElem (by omega)⟩
  obtain ⟨A', c', rfl, hr⟩ := h2 i l v hi hv
  obtain ⟨b, o, rfl, hb, hc⟩ := h1.2 (by omega)
  exact ⟨b, o, A', c', rfl, hb, hc i _ hv, hr⟩
/-- the cells of a partition, boxed -/
def PaBox (w : World) (g : Nat) (x : Par) : Prop := w.cell? ⟨g, 0, none⟩ = some (.int .u16 x.id) ∧ w.cell? ⟨g, 1, none⟩ = some (.string x.name) ∧ w.cell? ⟨g, 2, none⟩ = some (.int .u64 x.period) ∧ w.cell? ⟨g, 3, none⟩ = some (.int .u64 x.duration) ∧ g < w.heap.size
theorem PaBox.up {w w' : World} {g : Nat} {x : Par} (h : PaBox w g x) (hb : Below w.heap.size w w') : PaBox w' g x := by
  obtain ⟨h0, h1, h2, h3, hg⟩ := h
  have q : ∀ j, w'.cell? ⟨g, j, none⟩ = w.cell? ⟨g, j, none⟩ := fun j => hb.cell (p := ⟨g, j, none⟩) hg
  exact ⟨(q 0).trans h0, (q 1).trans h1, (q 2).trans h2, (q 3).trans h3, Nat.lt_of_lt_of_le hg hb.size⟩
theorem PaBox.new (w : World) (x : Par) (t : TypeId) : ∃ W, w.alloc (.cells #[.int .u16 x.id, .string x.name, .int .u64 x.period, .int .u64 x.duration] t) = W ∧ PaBox W w.heap.size x ∧ Below w.heap.size w W :=
  ⟨_, rfl, ⟨by simp, by simp, by simp, by simp, by simp⟩, below_one _ _⟩
end Go.Proofs.Ytifmcdnaaaphmaa
