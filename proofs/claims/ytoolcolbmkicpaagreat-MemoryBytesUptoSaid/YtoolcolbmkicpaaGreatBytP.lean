/-
  How many addresses a partition has: what the program's gaps and the reference's rests come to, as plain laws. It speaks of no program.
-/
import Derived.Test.YtoolcolbmkicpaaGreatMeaP
namespace Go.Proofs.YtoolcolbmkicpaaGreat
open Go.RowKit
def big64 : Nat := 18446744073709551616
theorem big64_int : (big64 : Int) = 18446744073709551616 := rfl
/-- the number of addresses that regions have -/
def ownN (l : List Reg) : Nat := cntB (ownedB l) big64
def bytV (l : List Reg) : Int × Bool := if ownN l = big64 then (0, false) else ((ownN l : Int), true)
theorem ownN_le (l : List Reg) : ownN l ≤ big64 := cntB_le _ _
theorem cov_items {l : List Reg} {d : List Itm} (hd : d.Perm (itemsOf (l.map spnOf))) {a : Int} : (∀ y ∈ d, ¬ covI y a) ↔ (!ownedB l a) = true := by
  rw [owned_not]
  constructor
  · intro h r hr
    obtain ⟨k, hk⟩ := List.mem_iff_getElem?.1 hr
    have hm : (⟨r.base, r.size, (k : Int)⟩ : Itm) ∈ d := by
      refine hd.mem_iff.2 (List.mem_iff_getElem?.2 ⟨k, itemsOf_at.2 ⟨spnOf r, ?_, rfl⟩⟩)
      rw [List.getElem?_map, hk]; rfl
    have h1 := h _ hm
    rcases hb : ownsB r a with _ | _
    · rfl
    · rw [← ownsB_has] at hb
      have h2 := hasS_iff.1 hb
      exact absurd ⟨h2.1, h2.2⟩ h1
  · intro h y hy hc
    obtain ⟨k, hk⟩ := List.mem_iff_getElem?.1 (hd.mem_iff.1 hy)
    obtain ⟨s, hs, rfl⟩ := itemsOf_at.1 hk
    rw [List.getElem?_map] at hs
    obtain ⟨r, hr, rfl⟩ := Option.map_eq_some_iff.1 hs
    have h1 := h r (List.mem_of_getElem? hr)
    rw [← ownsB_has] at h1
    have : hasS (spnOf r) a = true := hasS_iff.2 ⟨hc.1, hc.2⟩
    rw [this] at h1
    cases h1
theorem gaps_sum {l : List Reg} {d : List Itm} {o : List Spn} {T : Nat} (hT : (T : Int) = 18446744073709551615) (hd : d.Perm (itemsOf (l.map spnOf)))
    (h : (∀ y ∈ o, okS y ∧ y.lo + y.len ≤ 18446744073709551615) ∧ Apart o ∧ o.length ≤ d.length + 1 ∧ ∀ a : Int, 0 ≤ a → a < 18446744073709551615 → (hasL o a ↔ ∀ y ∈ d, ¬ covI y a)) :
    (o.map (·.len)).sum = (T : Int) - (cntB (ownedB l) T : Int) := by
  have h1 := cntB_apart (l := o) (n := T) (fun x hx => ⟨(h.1 x hx).1, by have := (h.1 x hx).2; omega⟩) h.2.1
  have h2 : cntB (hasLB o) T = cntB (fun a => !ownedB l a) T := cntB_congr fun a ha => by
    rw [Bool.eq_iff_iff, hasLB_iff, h.2.2.2 a (by omega) (by omega), cov_items hd]
  have h3 := cntB_not (ownedB l) T
  rw [← h1, h2]
  omega
theorem own_last (l : List Reg) {T : Nat} (hT : T + 1 = big64) : ownN l = cntB (ownedB l) T + if ownedB l (T : Int) then 1 else 0 := by
  unfold ownN
  rw [← hT]
  rfl
theorem halves {l : List Reg} {o0 o1 : List Spn} (h0 : LeftOk ⟨0, 9223372036854775808⟩ l o0) (h1 : LeftOk ⟨9223372036854775808, 9223372036854775808⟩ l o1) :
    (o0.map (·.len)).sum + (o1.map (·.len)).sum = (big64 : Int) - (ownN l : Int) := by
  have hb := big64_int
  have e0 := h0.sum (n := big64) (by simp only; omega)
  have e1 := h1.sum (n := big64) (by simp only; omega)
  have h3 := cntB_not (ownedB l) big64
  have h4 : cntB (fun a => !ownedB l a) big64 = cntB (fun a => (hasS ⟨0, 9223372036854775808⟩ a && !ownedB l a) || (hasS ⟨9223372036854775808, 9223372036854775808⟩ a && !ownedB l a)) big64 := cntB_congr fun a ha => by
    have q : hasS ⟨0, 9223372036854775808⟩ (a : Int) = true ∨ hasS ⟨9223372036854775808, 9223372036854775808⟩ (a : Int) = true := by
      rw [hasS_iff, hasS_iff]; unfold lastS; simp only; omega
    rcases q with q | q <;> rw [q] <;> cases ownedB l (a : Int) <;> simp
  have h5 := cntB_or (p := fun a => hasS ⟨0, 9223372036854775808⟩ a && !ownedB l a) (q := fun a => hasS ⟨9223372036854775808, 9223372036854775808⟩ a && !ownedB l a) (n := big64) (fun a _ => by
    rintro ⟨q1, q2⟩
    rw [Bool.and_eq_true] at q1 q2
    have a1 := hasS_iff.1 q1.1
    have a2 := hasS_iff.1 q2.1
    unfold lastS at a1 a2
    simp only at a1 a2
    omega)
  rw [e0, e1]
  unfold ownN
  rw [h4, h5] at h3
  omega
theorem sum_nonneg {o : List Spn} (h : ∀ x ∈ o, okS x) : (o.length : Int) ≤ (o.map (·.len)).sum := by
  induction o with
  | nil => simp
  | cons x r ih =>
    have h1 := (h x (by simp)).2.1
    have := ih (fun y hy => h y (by simp [hy]))
    rw [List.map_cons, List.sum_cons, List.length_cons]
    push_cast
    omega
/-- the reference's answer -/
theorem halves_full {l : List Reg} {o0 o1 : List Spn} (h0 : LeftOk ⟨0, 9223372036854775808⟩ l o0) (h1 : LeftOk ⟨9223372036854775808, 9223372036854775808⟩ l o1) : ownN l = big64 ↔ (o0 = [] ∧ o1 = []) := by
  have h := halves h0 h1
  have q0 := sum_nonneg h0.ok
  have q1 := sum_nonneg h1.ok
  constructor
  · intro e
    rw [e] at h
    exact ⟨List.eq_nil_of_length_eq_zero (by omega), List.eq_nil_of_length_eq_zero (by omega)⟩
  · rintro ⟨rfl, rfl⟩
    simp at h
    omega
end Go.Proofs.YtoolcolbmkicpaaGreat
