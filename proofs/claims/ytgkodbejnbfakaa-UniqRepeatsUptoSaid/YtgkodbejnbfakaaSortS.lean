/-
  slices.Sort of numbers: a sorted permutation, in place. No condition but on the size.
-/
import Derived.Test.YtgkodbejnbfakaaSortZ
namespace Go.Proofs.Ytgkodbejnbfakaa
open Go.RowKit Go.Sort
theorem bitLen_small (n : Nat) (hn : n ≤ 4194304) : Lib.bitLen n ≤ 1000 := by
  rw [bitLen_eq n (by omega)]
  exact Nat.le_trans ((bitsLen_le_iff n 23).2 (by omega)) (by omega)
set_option maxHeartbeats 1000000 in
theorem sortA_ok (e : TypeId) (blk off n cap : Nat) (hn : n ≤ 4194304) (W0 w : World) (d : Array Int) (hA : Arr W0 w e blk off n d) :
    Calls Try.prog 33 #[.slice (some ⟨blk, off, none⟩) n cap] w fun r w' => ∃ d', r = .returned (.tuple #[]) ∧ Done d 0 n d' ∧ Arr W0 w' e blk off n d' := by
  have H0 := Lib.hid hA
  have hL := bitLen_small n hn
  obtain ⟨L, hLL⟩ : ∃ L, L = Lib.bitLen n := ⟨_, rfl⟩
  have hb := bitsLen_ok (n : Int) w (by omega) (by omega)
  rw [Int.toNat_natCast, ← hLL] at hb
  rw [← hLL] at hL
  clear hA hLL
  go_enter Try.func33, Try.ntmps33
  go_wp2_with fail
  refine hb.mono ?_
  rintro r w1 ⟨rfl, rfl⟩
  clear hb
  go_wp2_with fail
  refine (pdq_ok e blk off n cap hn n W0 w1 0 n L d (by omega) H0.out (by omega) (Nat.le_refl _) (Or.inl rfl) (by omega) (by omega)).mono ?_
  rintro r w2 ⟨d', rfl, hD, hS⟩
  have HD := Lib.hid hD
  have HS := Lib.hid hS
  clear hD hS
  go_wp2
  try go_end0
  exact ⟨d', rfl, HD.out, HS.out⟩
end Go.Proofs.Ytgkodbejnbfakaa
