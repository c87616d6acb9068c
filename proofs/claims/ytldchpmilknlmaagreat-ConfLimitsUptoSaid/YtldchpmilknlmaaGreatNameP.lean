/-
  What a name is, as a plain law: its runes are plain letters exactly if its bytes are. It speaks of no program.
-/
import Derived.Lib.DecodeN
import Derived.Shelf.GgClosure.StringsIndexFunc
import Derived.Test.YtldchpmilknlmaaGreatCore
namespace Go.Proofs.YtldchpmilknlmaaGreat
open Go.RowKit
def badR (x : Nat) : Bool := decide (x < 32) || decide (126 < x)
def badAt (s : ByteArray) (i : Nat) : Bool := badR (s.get! i).toNat
theorem dec_lo {s : ByteArray} {i : Nat} (h : (s.get! i).toNat < 128) : Utf8.decode s i = ((s.get! i).toNat, 1) := by
  rw [Lib.decode_at]; unfold Lib.decodeN; rw [if_pos h]
theorem dec_hi {s : ByteArray} {i : Nat} (h : ¬ (s.get! i).toNat < 128) : 128 ≤ (Utf8.decode s i).1 := by
  rw [Lib.decode_at]
  generalize (s.get! i).toNat = b0 at *
  generalize (s.get! (i + 1)).toNat = b1
  generalize (s.get! (i + 2)).toNat = b2
  generalize (s.get! (i + 3)).toNat = b3
  unfold Lib.decodeN
  rw [if_neg h]
  repeat' split
  all_goals first | (simp only; omega) | omega
theorem badR_hi {x : Nat} (h : 127 ≤ x) : badR x = true := by unfold badR; simp; omega
theorem idx_bad (s : ByteArray) : ∀ (f pos : Nat), s.size ≤ pos + f → (0 ≤ Lib.idxFuncFrom badR true s f pos ↔ ∃ j, pos ≤ j ∧ j < s.size ∧ badAt s j = true)
  | 0, pos, hf => by
    unfold Lib.idxFuncFrom
    exact ⟨fun h => by omega, fun ⟨j, h1, h2, _⟩ => by omega⟩
  | f + 1, pos, hf => by
    unfold Lib.idxFuncFrom
    by_cases hp : pos < s.size
    · rw [if_pos hp]
      by_cases hb : (s.get! pos).toNat < 128
      · rw [dec_lo hb]
        by_cases hr : badR (s.get! pos).toNat = true
        · rw [if_pos hr]
          exact ⟨fun _ => ⟨pos, Nat.le_refl _, hp, hr⟩, fun _ => by omega⟩
        · rw [if_neg hr, idx_bad s f (pos + 1) (by omega)]
          constructor
          · rintro ⟨j, h1, h2, h3⟩
            exact ⟨j, by omega, h2, h3⟩
          · rintro ⟨j, h1, h2, h3⟩
            refine ⟨j, ?_, h2, h3⟩
            rcases Nat.lt_or_eq_of_le h1 with h | h
            · omega
            · subst h; exact absurd h3 hr
      · have hd := dec_hi hb
        rw [if_pos (badR_hi (by omega))]
        exact ⟨fun _ => ⟨pos, Nat.le_refl _, hp, badR_hi (by omega)⟩, fun _ => by omega⟩
    · rw [if_neg hp]
      exact ⟨fun h => by omega, fun ⟨j, h1, h2, _⟩ => by omega⟩
def nameBad (s : ByteArray) : Bool := decide (0 ≤ Lib.idxFunc badR true s)
theorem nameBad_iff {s : ByteArray} : nameBad s = true ↔ ∃ j, j < s.size ∧ badAt s j = true := by
  unfold nameBad Lib.idxFunc
  rw [decide_eq_true_eq, idx_bad s s.size 0 (by omega)]
  exact ⟨fun ⟨j, _, h2, h3⟩ => ⟨j, h2, h3⟩, fun ⟨j, h2, h3⟩ => ⟨j, Nat.zero_le _, h2, h3⟩⟩
def nameOk (s : ByteArray) : Bool := !nameBad s && (decide (1 ≤ s.size) && decide (s.size ≤ 30))
end Go.Proofs.YtldchpmilknlmaaGreat
