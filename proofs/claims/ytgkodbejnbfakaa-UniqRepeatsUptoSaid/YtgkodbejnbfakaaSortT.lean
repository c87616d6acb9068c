/-
  slices.Sort of numbers in memory of the call's own (nil too): the same memory, the numbers in order.
-/
import Derived.Test.YtgkodbejnbfakaaSortS
namespace Go.Proofs.Ytgkodbejnbfakaa
open Go.RowKit Go.Sort
def sortInts (l : List Int) : List Int := l.mergeSort fun x y => decide (x ≤ y)
theorem done_sort (l : List Int) (d' : Array Int) (h : Done l.toArray 0 l.length d') : d'.toList = sortInts l := by
  have := sorted_unique_holds (lt := ltInt) swo_int (fun x y h1 h2 => by simp [ltInt] at *; omega) l.toArray d' (by simpa using h.1) (by simpa using h.2)
  rw [this, sortInts]
  congr 1
  funext x y
  have hxy : (y < x) ↔ ¬ (x ≤ y) := by omega
  by_cases hc : x ≤ y <;> simp [ltInt, hxy, hc]
theorem sort_nil (c : Nat) (w : World) : Calls Try.prog 33 #[.slice none 0 c] w fun r w' => r = .returned (.tuple #[]) ∧ w' = w := by
  have hb := bitsLen_ok 0 w (by omega) (by omega)
  have hins : Calls Try.prog 57 #[.slice none 0 c, .int .i64 0, .int .i64 0] w fun r w' => r = .returned (.tuple #[]) ∧ w' = w := by
    go_enter Try.func57, Try.ntmps57
    go_wp2
    go_loopw [6] (fun v wr => v = .int .i64 1 ∧ wr = w) (fun _ _ => 0)
    case atStart => exact ⟨rfl, rfl⟩
    case round =>
      obtain ⟨rfl, rfl⟩ := hrel
      go_wp2
      go_end0
      exact ⟨rfl, rfl⟩
  have hpdq : Calls Try.prog 55 #[.slice none 0 c, .int .i64 0, .int .i64 0, .int .i64 0] w fun r w' => r = .returned (.tuple #[]) ∧ w' = w := by
    go_enter Try.func55, Try.ntmps55
    go_wp2
    go_loopw [1, 2, 3] (fun v1 v2 v3 wr => v1 = .int .i64 0 ∧ v2 = .int .i64 0 ∧ v3 = .int .i64 0 ∧ wr = w) (fun _ _ _ _ => 0)
    case atStart => exact ⟨rfl, rfl, rfl, rfl⟩
    case round =>
      obtain ⟨rfl, rfl, rfl, rfl⟩ := hrel
      go_wp2_with (go_at_call 57; refine hins.mono ?_; rintro r w1 ⟨rfl, rfl⟩)
      go_returns
      exact ⟨rfl, rfl⟩
  rw [show Lib.bitLen (0 : Int).toNat = 0 by decide] at hb
  go_enter Try.func33, Try.ntmps33
  go_wp2_with fail
  refine hb.mono ?_
  rintro r w1 ⟨rfl, rfl⟩
  go_wp2_with fail
  refine hpdq.mono ?_
  rintro r w2 ⟨rfl, rfl⟩
  go_wp2
  try go_end0
  exact ⟨rfl, rfl⟩
theorem sort_own {w : World} {base : Nat} {v : Value} {l : List Int} (h : w.ownsRow base 30 1 v l.length (l.map (Value.int .u16))) (hl : l.length ≤ 4194304) :
    Calls Try.prog 33 #[v] w fun r w' => r = .returned (.tuple #[]) ∧ w'.ownsRow base 30 1 v l.length ((sortInts l).map (Value.int .u16)) ∧ Off 30 w w' ∧ Below base w w' := by
  rcases h.2 with ⟨rfl, hn⟩ | ⟨g, cap, cur, rfl, hb, hh, hc1, hc2, hc3, hc4⟩
  · have hnil : l = [] := List.eq_nil_of_length_eq_zero hn
    subst hnil
    refine (sort_nil 0 w).mono ?_
    rintro r w' ⟨rfl, rfl⟩
    exact ⟨rfl, by simpa [sortInts] using h, ⟨rfl, rfl, rfl, Nat.le_refl _, fun _ _ _ => rfl⟩, ⟨rfl, rfl, rfl, Nat.le_refl _, fun _ _ => rfl⟩⟩
  · have hcur : ∀ t x, l[t]? = some x → cur[0 + t]? = some (.int .u16 x) := fun t x hx => by
      have hlt := (List.getElem?_eq_some_iff.1 hx).1
      have : (cur.toList.take (l.length * 1))[t]? = some (.int .u16 x) := by rw [hc4]; simp [hx]
      rw [List.getElem?_take_of_lt (by omega)] at this
      rw [Nat.zero_add]
      simpa using this
    have hA := Arr.self (off := 0) (xs := l) (show Blk w g 30 cur from hh) (by omega) hcur
    refine (sortA_ok 30 g 0 l.length cap hl w w _ hA).mono ?_
    rintro r w' ⟨d', rfl, hD, hS⟩
    have hd := done_sort l d' hD
    obtain ⟨os, tape, output, size, other, ⟨cur0, cur', r1, r2, r3, r4, r5, r6⟩, hz⟩ := hS
    rw [hh] at r1
    injection r1 with r1
    injection r1 with r1
    subst r1
    have hlen : (sortInts l).length = l.length := by rw [← hd]; simpa using hz
    refine ⟨rfl, ⟨by simp [hlen], .inr ⟨g, cap, cur', rfl, hb, r2, hc1, hc2, by omega, ?_⟩⟩, ⟨os, tape, output, size, fun k hk hno => other k hk ?_⟩, ⟨os, tape, output, size, fun k hk => ?_⟩⟩
    · refine List.ext_getElem? fun t => ?_
      by_cases ht : t < l.length
      · have q := r6 t ht
        rw [Nat.zero_add] at q
        rw [List.getElem?_take_of_lt (by omega), Array.getElem?_toList, q, List.getElem?_map, ← hd, Array.getElem?_toList, getElem!_pos d' t (by omega), Array.getElem?_eq_getElem (by omega)]
        rfl
      · rw [List.getElem?_eq_none (by rw [List.length_take]; omega), List.getElem?_eq_none (by simp [hlen]; omega)]
    · rintro rfl
      exact hno _ _ hh
    · have hgl : g < w.heap.size := (Array.getElem?_eq_some_iff.1 hh).1
      exact other k (by omega) (by omega)
end Go.Proofs.Ytgkodbejnbfakaa
