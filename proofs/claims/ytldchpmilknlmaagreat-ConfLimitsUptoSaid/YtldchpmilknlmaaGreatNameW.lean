/-
  Valid of package name and of its reference, walked.
-/
import Derived.Shelf.Strings.FuncGrows
import Derived.Test.YtldchpmilknlmaaGreatLayNm
import Derived.Test.YtldchpmilknlmaaGreatNameP
import Derived.Test.YtldchpmilknlmaaGreatCore
namespace Go.Proofs.YtldchpmilknlmaaGreat
open Go.RowKit Go.Shelf
theorem validFn_ok (x : Nat) (w : World) : Calls Tryz.prog 109 #[.int .i32 x] w fun e w' => e = .returned (.bool (badR x)) ∧ w' = w := by
  by_cases h1 : x < 32
  · have hi : (x : Int) < 32 := by omega
    have HV := Lib.hid (show badR x = true by unfold badR; simp [h1])
    go_enter Tryz.func109, Tryz.ntmps109
    go_wp2
    go_ret
    exact ⟨by rw [HV.out]; rfl, rfl⟩
  · have hi : ¬ (x : Int) < 32 := by omega
    by_cases h2 : 126 < x
    · have hj : (126 : Int) < (x : Int) := by omega
      have HV := Lib.hid (show badR x = true by unfold badR; simp [h2])
      go_enter Tryz.func109, Tryz.ntmps109
      go_wp2
      go_ret
      exact ⟨by rw [HV.out]; first | rfl | simp [hj], rfl⟩
    · have hj : ¬ (126 : Int) < (x : Int) := by omega
      have HV := Lib.hid (show badR x = false by unfold badR; simp [h1, h2])
      go_enter Tryz.func109, Tryz.ntmps109
      go_wp2
      go_ret
      exact ⟨by rw [HV.out]; first | rfl | simp [hj], rfl⟩
theorem contains_ok (s : ByteArray) (w : World) : Calls Tryz.prog 108 #[.string s, .func (.func 109) #[] #[]] w fun e w' => e = .returned (.bool (nameBad s)) ∧ Below w.heap.size w w' :=
  Any.strings_ContainsFunc_grows Tryz.layCF 109 #[] (enters_of Tryz.func109 (by kernel_rfl) rfl) badR s w (fun W x _ _ => (validFn_ok x W).mono fun e w' ⟨h1, h2⟩ => ⟨h1, by rw [h2]; exact Below.refl _ _⟩)
theorem nameValid_ok (s : ByteArray) (w : World) : Calls Tryz.prog 73 #[.string s] w fun e w' => e = .returned (.bool (nameOk s)) ∧ Below w.heap.size w w' := by
  obtain ⟨v, hv⟩ : ∃ v, nameBad s = v := ⟨_, rfl⟩
  have hc : Calls Tryz.prog 108 #[.string s, .func (.func 109) #[] #[]] w fun e w' => e = .returned (.bool v) ∧ Below w.heap.size w w' := by rw [← hv]; exact contains_ok s w
  have HC := Lib.hid hc
  have HN := Lib.hid (show nameOk s = (!v && (decide (1 ≤ s.size) && decide (s.size ≤ 30))) by unfold nameOk; rw [hv])
  clear hv hc
  by_cases h0 : s.size = 0
  · have hs : s = ⟨#[]⟩ := by
      cases s with
      | mk d => congr; exact Array.eq_empty_of_size_eq_zero h0
    have HF := Lib.hid (show nameOk s = false by rw [HN.out, h0]; simp)
    subst hs
    go_enter Tryz.func73, Tryz.ntmps73
    go_wp2
    go_ret
    exact ⟨by rw [HF.out]; rfl, Below.refl _ _⟩
  · have hne : s.toList.isEmpty = false := by
      rw [ByteArray.toList_eq]
      rcases hd : s.data.toList with _ | ⟨x, r⟩
      · have h1 := congrArg List.length hd
        exact absurd (by simpa using h1) h0
      · rfl
    have hne2 : ¬ s.toList = [] := fun e => by rw [e] at hne; cases hne
    by_cases h1 : s.size ≤ 30
    · have hi : ((s.size : Nat) : Int) ≤ 30 := by omega
      have HF := Lib.hid (show nameOk s = !v by rw [HN.out, decide_eq_true (show 1 ≤ s.size by omega), decide_eq_true h1]; simp)
      go_enter Tryz.func73, Tryz.ntmps73
      go_wp2_with fail
      refine HC.out.mono ?_
      rintro e w1 ⟨rfl, hb⟩
      have HB := Lib.hid hb
      clear hb
      go_wp2
      go_ret
      exact ⟨by rw [HF.out]; rfl, HB.out⟩
    · have hi : ¬ ((s.size : Nat) : Int) ≤ 30 := by omega
      have HF := Lib.hid (show nameOk s = false by rw [HN.out, decide_eq_false h1]; simp)
      go_enter Tryz.func73, Tryz.ntmps73
      go_wp2
      go_ret
      exact ⟨by rw [HF.out]; rfl, Below.refl _ _⟩
set_option maxRecDepth 100000 in
set_option maxHeartbeats 1000000 in
theorem rNameValid_ok (s : ByteArray) (hs : s.size ≤ 4194304) (w : World) : Calls Tryz.prog 69 #[.string s] w fun e w' => e = .returned (.bool (nameOk s)) ∧ Below w.heap.size w w' := by
  go_enter Tryz.func69, Tryz.ntmps69
  go_wp2
  go_loopw [3] (fun i wr => ∃ k : Nat, k ≤ s.size ∧ i = .int .i64 k ∧ Hid (∀ j, j < k → badAt s j = false) ∧ wr = w) (fun i _ => s.size - (intOf i).toNat)
  case atStart => exact ⟨0, Nat.zero_le _, rfl, Lib.hid (fun j hj => by omega), by first | rfl | trivial⟩
  case round =>
    obtain ⟨k, hk, rfl, HG, rfl⟩ := hrel
    by_cases hlt : k < s.size
    · have k0 : (0 : Int) ≤ (k : Int) := by omega
      have k1 : (k : Int) < (s.size : Int) := by omega
      have HB := Lib.hid (show s.get! k = s[k] from getElem!_pos s.data k hlt)
      by_cases h1 : s[k].toNat < 32
      · have hi : ((s[k].toNat : Nat) : Int) < 32 := by omega
        have HF := Lib.hid (show nameOk s = false by
          unfold nameOk; rw [nameBad_iff.2 ⟨k, hlt, by unfold badAt badR; rw [HB.out]; simp [h1]⟩]; rfl)
        go_wp2
        go_ret
        exact ⟨by rw [HF.out]; rfl, Below.refl _ _⟩
      · have hi : ¬ ((s[k].toNat : Nat) : Int) < 32 := by omega
        by_cases h2 : 126 < s[k].toNat
        · have hj : (126 : Int) < ((s[k].toNat : Nat) : Int) := by omega
          have HF := Lib.hid (show nameOk s = false by
            unfold nameOk; rw [nameBad_iff.2 ⟨k, hlt, by unfold badAt badR; rw [HB.out]; simp [h2]⟩]; rfl)
          go_wp2
          go_ret
          exact ⟨by rw [HF.out]; rfl, Below.refl _ _⟩
        · have hj : ¬ (126 : Int) < ((s[k].toNat : Nat) : Int) := by omega
          go_wp2
          go_roundw
          case rel => exact ⟨k + 1, by omega, by go_num, Lib.hid (fun j hj2 => by rcases Nat.lt_succ_iff_lt_or_eq.1 hj2 with h | rfl; exact HG.out j h; unfold badAt badR; rw [HB.out]; simp [h1, h2]), by first | rfl | trivial⟩
          case measure => simp [intOf]; omega
    · obtain rfl : k = s.size := by omega
      have hnb : nameBad s = false := by
        rcases hb : nameBad s with _ | _
        · rfl
        · obtain ⟨j, h1, h2⟩ := nameBad_iff.1 hb
          rw [HG.out j h1] at h2; cases h2
      have HN := Lib.hid (show nameOk s = (decide (1 ≤ s.size) && decide (s.size ≤ 30)) by unfold nameOk; rw [hnb]; simp)
      clear hnb
      by_cases h0 : 1 ≤ s.size
      · have hi0 : (1 : Int) ≤ ((s.size : Nat) : Int) := by omega
        by_cases h1 : s.size ≤ 30
        · have hi : ((s.size : Nat) : Int) ≤ 30 := by omega
          have HF := Lib.hid (show nameOk s = true by rw [HN.out, decide_eq_true h0, decide_eq_true h1]; rfl)
          go_wp2
          go_ret
          exact ⟨by rw [HF.out]; rfl, Below.refl _ _⟩
        · have hi : ¬ ((s.size : Nat) : Int) ≤ 30 := by omega
          have HF := Lib.hid (show nameOk s = false by rw [HN.out, decide_eq_false h1]; simp)
          go_wp2
          go_ret
          exact ⟨by rw [HF.out]; rfl, Below.refl _ _⟩
      · have hi0 : ¬ (1 : Int) ≤ ((s.size : Nat) : Int) := by omega
        have HF := Lib.hid (show nameOk s = false by rw [HN.out, decide_eq_false h0]; rfl)
        go_wp2
        go_ret
        exact ⟨by rw [HF.out]; rfl, Below.refl _ _⟩
end Go.Proofs.YtldchpmilknlmaaGreat
