/-
  What the check of a configuration's limits finds, as a plain function. It speaks of no program.
-/
import Derived.Test.YtldchpmilknlmaaGreatNameP
import Derived.Test.YtldchpmilknlmaaGreatCore
namespace Go.Proofs.YtldchpmilknlmaaGreat
open Go.RowKit
def cntOf (c : Cfg) : Nat → Nat
  | 1 => c.parts.length
  | 2 => c.wins.length
  | 3 => c.regs.length
  | 4 => c.ports.length
  | 5 => c.chans.length
  | 6 => sumDests c.chans
  | _ => 0
def limOf : Nat → Nat
  | 1 => 64
  | 2 => 1024
  | 3 => 1024
  | 4 => 1024
  | 5 => 512
  | 6 => 1024
  | _ => 0
def overC (c : Cfg) (k : Nat) : Bool := decide (limOf k < cntOf c k)
def limBad (c : Cfg) : Option Nat := [1, 2, 3, 4, 5, 6].find? (overC c)
def badPar (p : Par) : Bool := !nameOk p.name
def badPrt (p : Prt) : Bool := !nameOk p.name
def badReg (r : Reg) : Bool := decide (7 < r.rights)
def nameBads (c : Cfg) : Int × Int × Int :=
  if 0 ≤ idx badPar c.parts then (6, 1, idx badPar c.parts) else if 0 ≤ idx badPrt c.ports then (6, 4, idx badPrt c.ports) else if 0 ≤ idx badReg c.regs then (15, 3, idx badReg c.regs) else (0, 0, 0)
def chkBad (c : Cfg) : Int × Int × Int := match limBad c with | some k => (7, (k : Int), (limOf k : Int)) | none => nameBads c
theorem limBad_hit {c : Cfg} {k : Nat} (h1 : 1 ≤ k) (h6 : k ≤ 6) (hl : ∀ j, 1 ≤ j → j < k → overC c j = false) (hk : overC c k = true) : chkBad c = (7, (k : Int), (limOf k : Int)) := by
  have : limBad c = some k := by
    unfold limBad
    rcases (show k = 1 ∨ k = 2 ∨ k = 3 ∨ k = 4 ∨ k = 5 ∨ k = 6 by omega) with rfl | rfl | rfl | rfl | rfl | rfl
    · simp [List.find?, hk]
    · simp [List.find?, hk, hl 1 (by omega) (by omega)]
    · simp [List.find?, hk, hl 1 (by omega) (by omega), hl 2 (by omega) (by omega)]
    · simp [List.find?, hk, hl 1 (by omega) (by omega), hl 2 (by omega) (by omega), hl 3 (by omega) (by omega)]
    · simp [List.find?, hk, hl 1 (by omega) (by omega), hl 2 (by omega) (by omega), hl 3 (by omega) (by omega), hl 4 (by omega) (by omega)]
    · simp [List.find?, hk, hl 1 (by omega) (by omega), hl 2 (by omega) (by omega), hl 3 (by omega) (by omega), hl 4 (by omega) (by omega), hl 5 (by omega) (by omega)]
  unfold chkBad; rw [this]
theorem limBad_none {c : Cfg} (hl : ∀ j, 1 ≤ j → j < 7 → overC c j = false) : chkBad c = nameBads c := by
  have : limBad c = none := by
    unfold limBad
    simp [List.find?, hl 1 (by omega) (by omega), hl 2 (by omega) (by omega), hl 3 (by omega) (by omega), hl 4 (by omega) (by omega), hl 5 (by omega) (by omega), hl 6 (by omega) (by omega)]
  unfold chkBad; rw [this]
end Go.Proofs.YtldchpmilknlmaaGreat
