/-
  A region in a fixed order whose callees answer with one value, whatever has grown: one walk. It speaks of no program; no condition.
-/
import Derived.Test.YtgkodbejnbfakaaBase
namespace Go.Proofs.Ytgkodbejnbfakaa
open Go.RowKit
theorem wpList_of_quiet {P : Program} {ops : Array Oper} {C : World → Prop} {Q : Act → Prop} {Q' : Exit → Act → World → Prop} (hQ : ∀ a w, C w → Q a → Q' .normal a w) :
    ∀ (l : List Oper) (a : Act) (w : World), C w → wpQuiet P ops C Q l a → wpList P ops Q' l a w
  | [], a, w, hw, h => hQ a w hw h
  | o :: rest, a, w, hw, h => by
    unfold wpQuiet at h
    unfold wpList
    split at h
    · rename_i hwt
      rw [if_pos hwt]
      exact .inl (Oper.wp_of_quiet hw (fun a' w' hw' hk => wpList_of_quiet hQ rest a' w' hw' hk) h)
    · rename_i hwt
      rw [if_neg hwt]
      exact wpList_of_quiet hQ rest _ w hw h
theorem wp_region_extn {P : Program} {id : Nat} {Q : Exit → Act → World → Prop} {a : Act} {w : World} {l : List Oper}
    (h : wpQuiet P l.toArray (fun w' => ∃ x : Ext w, w' = ext w x) (fun a' => ∀ x : Ext w, Q .normal a' (ext w x)) l a) : (Code.region id l.toArray false).wp P Q a w :=
  wp_region_lit (wpList_of_quiet (C := fun w' => ∃ x : Ext w, w' = ext w x) (Q := fun a' => ∀ x : Ext w, Q .normal a' (ext w x)) (fun _ _ ⟨x, hx⟩ h => hx ▸ h x) l a w ⟨⟨w, Below.refl _ _⟩, rfl⟩ h)
end Go.Proofs.Ytgkodbejnbfakaa
