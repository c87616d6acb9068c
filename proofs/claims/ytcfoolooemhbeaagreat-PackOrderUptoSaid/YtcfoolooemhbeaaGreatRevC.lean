/-
  slices.Reverse of partitions and of channels in memory of the call's own.
-/
import Derived.Test.YtcfoolooemhbeaaGreatRevG
import Derived.Test.YtcfoolooemhbeaaGreatCore
namespace Go.Proofs.YtcfoolooemhbeaaGreat
open Go.RowKit Go.Shelf Go.Lib Go.Sort
instance revInhCE : Inhabited CE := ⟨⟨⟨0, 0, []⟩, none, 0⟩⟩
theorem revPar_own {w : World} {base : Nat} {v : Value} {l : List Par} (h : w.ownsRow base 75 4 v l.length (l.flatMap Par.cells)) (hl : l.length ≤ 4194304) :
    Calls Tryz.prog 26 #[v] w fun r w' => r = .returned (.tuple #[]) ∧ w'.ownsRow base 75 4 v l.length (l.reverse.flatMap Par.cells) ∧ Off 75 w w' ∧ Below base w w' := by
  have h1 : ∀ x, ∀ v ∈ Par.cells x, v.oneCell' = true := fun x v hv => by simp [Par.cells] at hv; rcases hv with rfl | rfl | rfl | rfl <;> rfl
  exact rev_own (enc := Par.cells) (fun _ => rfl) (fun blk off cap d w => AnyQ.slices_Reverse Tryz.reversePar 4 Tryz.isAgg75 Tryz.sizeOf75 Par.cells (fun _ => rfl) h1 blk off cap d w) (fun a cap w => AnyQ.slices_Reverse_empty Tryz.reversePar a cap w) h hl
theorem revChn_own {w : World} {base : Nat} {v : Value} {l : List CE} (h : w.ownsRow base 89 3 v l.length (l.flatMap CE.cells)) (hl : l.length ≤ 4194304) :
    Calls Tryz.prog 30 #[v] w fun r w' => r = .returned (.tuple #[]) ∧ w'.ownsRow base 89 3 v l.length (l.reverse.flatMap CE.cells) ∧ Off 89 w w' ∧ Below base w w' := by
  have h1 : ∀ x, ∀ v ∈ CE.cells x, v.oneCell' = true := fun x v hv => by simp [CE.cells] at hv; rcases hv with rfl | rfl | rfl <;> rfl
  exact rev_own (enc := CE.cells) (fun _ => rfl) (fun blk off cap d w => AnyQ.slices_Reverse Tryz.reverseChn 3 Tryz.isAgg89 Tryz.sizeOf89 CE.cells (fun _ => rfl) h1 blk off cap d w) (fun a cap w => AnyQ.slices_Reverse_empty Tryz.reverseChn a cap w) h hl
end Go.Proofs.YtcfoolooemhbeaaGreat
