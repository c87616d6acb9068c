/-
  Configurations that are full: the check of their limits finds nothing, and with one record more it finds the limit. It speaks of no program.
-/
import Derived.Test.YtldchpmilknlmaaGreatChkP
import Derived.Test.YtldchpmilknlmaaGreatCore
namespace Go.Proofs.YtldchpmilknlmaaGreat
open Go.RowKit
def parX : Par := ⟨0, ⟨#[120]⟩, 0, 0⟩
def par0 : Par := ⟨0, ⟨#[]⟩, 0, 0⟩
def prtX : Prt := ⟨0, 0, ⟨#[120]⟩, false, false, 0⟩
def prt0 : Prt := ⟨0, 0, ⟨#[]⟩, false, false, 0⟩
def win0 : Win := ⟨0, 0, 0⟩
def reg0 : Reg := ⟨0, 0, 0, 0, false⟩
def chn0 : Chn := ⟨0, 0, []⟩
def flatC (a b r t : Nat) (X : List Chn) : Cfg := ⟨0, List.replicate a parX, List.replicate b win0, List.replicate r reg0, List.replicate t prtX, X⟩
theorem idx_rep {α : Type} {p : α → Bool} {x : α} (h : p x = false) (n : Nat) : idx p (List.replicate n x) = -1 := by
  rcases idx_cases p (List.replicate n x) with ⟨h1, _⟩ | ⟨k, y, _, _, h3, _, h5⟩
  · exact h1
  · have := List.eq_of_mem_replicate (List.mem_of_getElem? h3)
    rw [this, h] at h5
    cases h5
theorem flat_names (a b r t : Nat) (X : List Chn) : nameBads (flatC a b r t X) = (0, 0, 0) := by
  have h1 : idx badPar (flatC a b r t X).parts = -1 := idx_rep (by decide) a
  have h2 : idx badPrt (flatC a b r t X).ports = -1 := idx_rep (by decide) t
  have h3 : idx badReg (flatC a b r t X).regs = -1 := idx_rep (by decide) r
  unfold nameBads
  rw [h1, h2, h3]
  rfl
theorem flat_cnt (a b r t : Nat) (X : List Chn) : cntOf (flatC a b r t X) 1 = a ∧ cntOf (flatC a b r t X) 2 = b ∧ cntOf (flatC a b r t X) 3 = r ∧ cntOf (flatC a b r t X) 4 = t ∧ cntOf (flatC a b r t X) 5 = X.length ∧ cntOf (flatC a b r t X) 6 = sumDests X := by
  refine ⟨?_, ?_, ?_, ?_, rfl, rfl⟩ <;> simp [cntOf, flatC]
theorem flat_over (a b r t : Nat) (X : List Chn) (k : Nat) (h1 : 1 ≤ k) (h6 : k ≤ 6) : overC (flatC a b r t X) k = decide (limOf k < [0, a, b, r, t, X.length, sumDests X].getD k 0) := by
  obtain ⟨q1, q2, q3, q4, q5, q6⟩ := flat_cnt a b r t X
  unfold overC
  rcases (show k = 1 ∨ k = 2 ∨ k = 3 ∨ k = 4 ∨ k = 5 ∨ k = 6 by omega) with rfl | rfl | rfl | rfl | rfl | rfl
  · rw [q1]; rfl
  · rw [q2]; rfl
  · rw [q3]; rfl
  · rw [q4]; rfl
  · rw [q5]; rfl
  · rw [q6]; rfl
theorem flat_ok {a b r t : Nat} {X : List Chn} (ha : a ≤ 64) (hb : b ≤ 1024) (hr : r ≤ 1024) (ht : t ≤ 1024) (hX : X.length ≤ 512) (hs : sumDests X ≤ 1024) : chkBad (flatC a b r t X) = (0, 0, 0) := by
  rw [limBad_none, flat_names]
  intro j h1 h7
  rw [flat_over _ _ _ _ _ _ h1 (by omega)]
  refine decide_eq_false ?_
  rcases (show j = 1 ∨ j = 2 ∨ j = 3 ∨ j = 4 ∨ j = 5 ∨ j = 6 by omega) with rfl | rfl | rfl | rfl | rfl | rfl
  · show ¬ 64 < a; omega
  · show ¬ 1024 < b; omega
  · show ¬ 1024 < r; omega
  · show ¬ 1024 < t; omega
  · show ¬ 512 < X.length; omega
  · show ¬ 1024 < sumDests X; omega
theorem flat_bad {a b r t : Nat} {X : List Chn} (k : Nat) (h1 : 1 ≤ k) (h6 : k ≤ 6) (hl : ∀ j, 1 ≤ j → j < k → [0, a, b, r, t, X.length, sumDests X].getD j 0 ≤ limOf j) (hk : limOf k < [0, a, b, r, t, X.length, sumDests X].getD k 0) : chkBad (flatC a b r t X) = (7, (k : Int), (limOf k : Int)) := by
  refine limBad_hit h1 h6 (fun j j1 jk => ?_) ?_
  · rw [flat_over _ _ _ _ _ _ j1 (by omega)]
    exact decide_eq_false (by have := hl j j1 jk; omega)
  · rw [flat_over _ _ _ _ _ _ h1 h6]
    exact decide_eq_true hk
theorem sum_empty (n : Nat) : sumDests (List.replicate n chn0) = 0 := by
  unfold sumDests
  induction n with
  | zero => rfl
  | succ n ih => rw [List.replicate_succ, List.map_cons, List.sum_cons, ih]; rfl
/-- a row of like records of which the first k are turned -/
def halfR {α : Type} (n k : Nat) (x y : α) : List α := List.replicate k x ++ List.replicate (n - k) y
theorem halfR_zero {α : Type} (n : Nat) (x y : α) : halfR n 0 x y = List.replicate n y := by unfold halfR; simp
theorem halfR_end {α : Type} (n : Nat) (x y : α) : halfR n n x y = List.replicate n x := by unfold halfR; simp
theorem halfR_len {α : Type} {n k : Nat} (h : k ≤ n) (x y : α) : (halfR n k x y).length = n := by unfold halfR; simp; omega
theorem halfR_at {α : Type} {n k : Nat} (h : k < n) (x y : α) : (halfR n k x y)[k]? = some y := by
  unfold halfR
  rw [List.getElem?_append_right (by simp), List.length_replicate, Nat.sub_self, List.getElem?_replicate, if_pos (by omega)]
theorem halfR_next {α : Type} {n k : Nat} (h : k < n) (x y : α) : (halfR n k x y).set k x = halfR n (k + 1) x y := by
  unfold halfR
  rw [List.set_append_right _ _ (by simp)]
  obtain ⟨m, hm⟩ : ∃ m, n - k = m + 1 := ⟨n - k - 1, by omega⟩
  rw [hm, show n - (k + 1) = m by omega, List.length_replicate, Nat.sub_self, List.replicate_succ, List.set_cons_zero, List.replicate_succ']
  simp
/-- what the switch leaves at section s whose limit is m -/
def FullS (s m a b r t : Nat) (X : List Chn) : Prop :=
  (s = 1 ∧ a = m ∧ b = 0 ∧ r = 0 ∧ t = 1 ∧ X = []) ∨ (s = 2 ∧ a = 1 ∧ b = m ∧ r = 0 ∧ t = 1 ∧ X = []) ∨ (s = 3 ∧ a = 1 ∧ b = 0 ∧ r = m ∧ t = 1 ∧ X = []) ∨ (s = 4 ∧ a = 1 ∧ b = 0 ∧ r = 0 ∧ t = m ∧ X = []) ∨ (s = 5 ∧ a = 1 ∧ b = 0 ∧ r = 0 ∧ t = 1 ∧ X = List.replicate m chn0) ∨ (s = 6 ∧ a = 1 ∧ b = 0 ∧ r = 0 ∧ t = 1 ∧ X = [⟨0, 0, List.replicate m 0⟩])
def MoreS (s m a b r t : Nat) (X : List Chn) : Prop :=
  (s = 1 ∧ a = m + 1 ∧ b = 0 ∧ r = 0 ∧ t = 1 ∧ X = []) ∨ (s = 2 ∧ a = 1 ∧ b = m + 1 ∧ r = 0 ∧ t = 1 ∧ X = []) ∨ (s = 3 ∧ a = 1 ∧ b = 0 ∧ r = m + 1 ∧ t = 1 ∧ X = []) ∨ (s = 4 ∧ a = 1 ∧ b = 0 ∧ r = 0 ∧ t = m + 1 ∧ X = []) ∨ (s = 5 ∧ a = 1 ∧ b = 0 ∧ r = 0 ∧ t = 1 ∧ X = List.replicate m chn0 ++ [chn0]) ∨ (s = 6 ∧ a = 1 ∧ b = 0 ∧ r = 0 ∧ t = 1 ∧ X = [⟨0, 0, List.replicate m 0⟩] ++ [⟨0, 0, List.replicate 1 0⟩])
theorem sum_append1 (l : List Chn) (x : Chn) : sumDests (l ++ [x]) = sumDests l + x.dests.length := by unfold sumDests; simp
theorem sum_one (l : List Int) : sumDests [⟨0, 0, l⟩] = l.length := by unfold sumDests; simp
theorem full_ok {s m a b r t : Nat} {X : List Chn} (hf : FullS s m a b r t X) (hl : limOf s = m) : chkBad (flatC a b r t X) = (0, 0, 0) := by
  subst hl
  rcases hf with ⟨rfl, rfl, rfl, rfl, rfl, rfl⟩ | ⟨rfl, rfl, rfl, rfl, rfl, rfl⟩ | ⟨rfl, rfl, rfl, rfl, rfl, rfl⟩ | ⟨rfl, rfl, rfl, rfl, rfl, rfl⟩ | ⟨rfl, rfl, rfl, rfl, rfl, rfl⟩ | ⟨rfl, rfl, rfl, rfl, rfl, rfl⟩
  · exact flat_ok (by decide) (by decide) (by decide) (by decide) (by decide) (by decide)
  · exact flat_ok (by decide) (by decide) (by decide) (by decide) (by decide) (by decide)
  · exact flat_ok (by decide) (by decide) (by decide) (by decide) (by decide) (by decide)
  · exact flat_ok (by decide) (by decide) (by decide) (by decide) (by decide) (by decide)
  · exact flat_ok (by decide) (by decide) (by decide) (by decide) (by rw [List.length_replicate]; decide) (by rw [sum_empty]; decide)
  · exact flat_ok (by decide) (by decide) (by decide) (by decide) (by decide) (by rw [sum_one, List.length_replicate]; decide)
theorem more_bad {s m a b r t : Nat} {X : List Chn} (hf : MoreS s m a b r t X) (hl : limOf s = m) : chkBad (flatC a b r t X) = (7, (s : Int), (m : Int)) := by
  subst hl
  rcases hf with ⟨rfl, rfl, rfl, rfl, rfl, rfl⟩ | ⟨rfl, rfl, rfl, rfl, rfl, rfl⟩ | ⟨rfl, rfl, rfl, rfl, rfl, rfl⟩ | ⟨rfl, rfl, rfl, rfl, rfl, rfl⟩ | ⟨rfl, rfl, rfl, rfl, rfl, rfl⟩ | ⟨rfl, rfl, rfl, rfl, rfl, rfl⟩
  · exact flat_bad 1 (by decide) (by decide) (fun j h1 h2 => by omega) (by decide)
  · exact flat_bad 2 (by decide) (by decide) (fun j h1 h2 => by obtain rfl : j = 1 := (by omega); decide) (by decide)
  · exact flat_bad 3 (by decide) (by decide) (fun j h1 h2 => by rcases (show j = 1 ∨ j = 2 by omega) with rfl | rfl <;> decide) (by decide)
  · exact flat_bad 4 (by decide) (by decide) (fun j h1 h2 => by rcases (show j = 1 ∨ j = 2 ∨ j = 3 by omega) with rfl | rfl | rfl <;> decide) (by decide)
  · refine flat_bad 5 (by decide) (by decide) (fun j h1 h2 => ?_) ?_
    · rcases (show j = 1 ∨ j = 2 ∨ j = 3 ∨ j = 4 by omega) with rfl | rfl | rfl | rfl
      · show (1 : Nat) ≤ 64; decide
      · show (0 : Nat) ≤ 1024; decide
      · show (0 : Nat) ≤ 1024; decide
      · show (1 : Nat) ≤ 1024; decide
    · show 512 < (List.replicate (limOf 5) chn0 ++ [chn0]).length
      rw [List.length_append, List.length_replicate]; decide
  · refine flat_bad 6 (by decide) (by decide) (fun j h1 h2 => ?_) ?_
    · rcases (show j = 1 ∨ j = 2 ∨ j = 3 ∨ j = 4 ∨ j = 5 by omega) with rfl | rfl | rfl | rfl | rfl
      · show (1 : Nat) ≤ 64; decide
      · show (0 : Nat) ≤ 1024; decide
      · show (0 : Nat) ≤ 1024; decide
      · show (1 : Nat) ≤ 1024; decide
      · show (2 : Nat) ≤ 512; decide
    · show 1024 < sumDests ([⟨0, 0, List.replicate (limOf 6) 0⟩] ++ [⟨0, 0, List.replicate 1 0⟩])
      rw [sum_append1, sum_one, List.length_replicate]; decide
theorem flat_total (a b r t : Nat) (X : List Chn) : (flatC a b r t X).total = a + b + r + t + X.length + sumDests X := by
  unfold Cfg.total flatC; simp
theorem lim_le (s : Nat) : limOf s ≤ 1024 := by unfold limOf; split <;> omega
theorem full_tot {s m a b r t : Nat} {X : List Chn} (hf : FullS s m a b r t X) (hm : m ≤ 1024) : (flatC a b r t X).total ≤ 4194304 := by
  rw [flat_total]
  rcases hf with ⟨rfl, rfl, rfl, rfl, rfl, rfl⟩ | ⟨rfl, rfl, rfl, rfl, rfl, rfl⟩ | ⟨rfl, rfl, rfl, rfl, rfl, rfl⟩ | ⟨rfl, rfl, rfl, rfl, rfl, rfl⟩ | ⟨rfl, rfl, rfl, rfl, rfl, rfl⟩ | ⟨rfl, rfl, rfl, rfl, rfl, rfl⟩
  · simp [sumDests]; omega
  · simp [sumDests]; omega
  · simp [sumDests]; omega
  · simp [sumDests]; omega
  · rw [sum_empty]; simp; omega
  · simp [sumDests]; omega
theorem more_tot {s m a b r t : Nat} {X : List Chn} (hf : MoreS s m a b r t X) (hm : m ≤ 1024) : (flatC a b r t X).total ≤ 4194304 := by
  rw [flat_total]
  rcases hf with ⟨rfl, rfl, rfl, rfl, rfl, rfl⟩ | ⟨rfl, rfl, rfl, rfl, rfl, rfl⟩ | ⟨rfl, rfl, rfl, rfl, rfl, rfl⟩ | ⟨rfl, rfl, rfl, rfl, rfl, rfl⟩ | ⟨rfl, rfl, rfl, rfl, rfl, rfl⟩ | ⟨rfl, rfl, rfl, rfl, rfl, rfl⟩
  · simp [sumDests]; omega
  · simp [sumDests]; omega
  · simp [sumDests]; omega
  · simp [sumDests]; omega
  · rw [sum_append1, sum_empty]; simp [chn0]; omega
  · rw [sum_append1, sum_one, List.length_replicate]; simp; omega
end Go.Proofs.YtldchpmilknlmaaGreat
