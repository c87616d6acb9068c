/-
  What Pack answers does not depend on the order of records: plain. It speaks of no program.
-/
import Derived.Test.YtcfoolooemhbeaaGreatPckP
import Derived.Test.YtcfoolooemhbeaaGreatShufQ
namespace Go.Proofs.YtcfoolooemhbeaaGreat
open Go.RowKit
theorem idxO_neg {α : Type} {p : α → Bool} : ∀ (l : List α) (i : Nat), ¬ (0 : Int) ≤ idxFrom p i l ↔ ∀ x ∈ l, p x = false
  | [], i => by simp [idxFrom]
  | x :: r, i => by
    have ih := idxO_neg (p := p) r (i + 1)
    unfold idxFrom
    by_cases h : p x = true
    · rw [if_pos h]
      constructor
      · intro h2; exact absurd (by omega) h2
      · intro h2; have := h2 x (by simp); rw [h] at this; cases this
    · rw [if_neg h, ih]
      constructor
      · intro h2 y hy
        rcases List.mem_cons.1 hy with rfl | hy
        · simpa using h
        · exact h2 y hy
      · intro h2 y hy; exact h2 y (List.mem_cons_of_mem _ hy)
theorem idxO_perm {α : Type} {p : α → Bool} {l m : List α} (h : l.Perm m) : (0 : Int) ≤ idx p l ↔ (0 : Int) ≤ idx p m := by
  have key : ∀ l : List α, ¬ (0 : Int) ≤ idx p l ↔ ∀ y ∈ l, p y = false := fun l => idxO_neg l 0
  have h2 : (∀ y ∈ l, p y = false) ↔ ∀ y ∈ m, p y = false := ⟨fun g y hy => g y (h.mem_iff.2 hy), fun g y hy => g y (h.mem_iff.1 hy)⟩
  rw [← Decidable.not_iff_not, key, key, h2]
theorem normK_permO {α : Type} (key : α → List Int) (hinj : ∀ x y, key x = key y → x = y) {l m : List α} (h : l.Perm m) : normK key l = normK key m :=
  normK_unique key hinj ((normK_perm key l).trans h) (normK_asc key l)
section
variable {x c : Cfg}
theorem Shuf.normO (h : Shuf x c) : x.norm = c.norm := by
  unfold Cfg.norm
  rw [h.frame, normK_permO keyPar (fun _ _ => keyPar_inj) h.parts, normK_permO keyWin (fun _ _ => keyWin_inj) h.wins, normK_permO keyReg (fun _ _ => keyReg_inj) h.regs, normK_permO keyPrt (fun _ _ => keyPrt_inj) h.ports, normK_permO keyChn (fun _ _ => keyChn_inj) h.chans]
theorem Shuf.cntO (h : Shuf x c) (k : Nat) : cntOf x k = cntOf c k := by
  unfold cntOf
  rw [h.parts.length_eq, h.wins.length_eq, h.regs.length_eq, h.ports.length_eq, h.len, h.sum]
theorem Shuf.limO (h : Shuf x c) : (limF x).code = (limF c).code := by
  have e : limBad x = limBad c := by
    have : overC x = overC c := by funext k; unfold overC; rw [h.cntO]
    unfold limBad; rw [this]
  show (chkBad x).1 = (chkBad c).1
  unfold chkBad
  rw [e]
  cases limBad c with
  | some k => rfl
  | none =>
    unfold nameBads
    have h1 := idxO_perm (p := badPar) h.parts
    have h2 := idxO_perm (p := badPrt) h.ports
    have h3 := idxO_perm (p := badReg) h.regs
    by_cases a1 : (0 : Int) ≤ idx badPar c.parts
    · rw [if_pos a1, if_pos (h1.2 a1)]
    rw [if_neg a1, if_neg (fun g => a1 (h1.1 g))]
    by_cases a2 : (0 : Int) ≤ idx badPrt c.ports
    · rw [if_pos a2, if_pos (h2.2 a2)]
    rw [if_neg a2, if_neg (fun g => a2 (h2.1 g))]
    by_cases a3 : (0 : Int) ≤ idx badReg c.regs
    · rw [if_pos a3, if_pos (h3.2 a3)]
    rw [if_neg a3, if_neg (fun g => a3 (h3.1 g))]
theorem Shuf.pckO (h : Shuf x c) : (packF x).code = (packF c).code := by
  unfold packF
  rw [h.limO]
  by_cases a : (limF c).code = 0
  · rw [if_pos a, if_pos a]; unfold twcF; rw [h.normO]
  · rw [if_neg a, if_neg a, h.limO]
theorem Shuf.bytO (h : Shuf x c) : packB x = packB c := by
  unfold packB
  rw [h.pckO, h.normO]
end
end Go.Proofs.YtcfoolooemhbeaaGreat
