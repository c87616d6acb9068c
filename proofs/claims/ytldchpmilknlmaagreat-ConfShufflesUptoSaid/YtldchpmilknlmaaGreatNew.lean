/-
  What uniq.New makes, and what the methods of an index return, walked once.
-/
import Derived.Test.YtldchpmilknlmaaGreatUniq2
namespace Go.Proofs.YtldchpmilknlmaaGreat
open Go.RowKit
theorem MapIs.grown {α β : Type} {w w' : World} {P : Program} {K : TypeId} {key : α → Value} {val : β → Value} {b g : Nat} {es : List (α × β)} (h : MapIs w P K key val b es) (hg : w.grownBy w' (some g)) (hne : b ≠ g) : MapIs w' P K key val b es :=
  h.block (hg.block b h.lt (fun e => hne (by injection e)))
section
variable {w wr w' : World} {c : Cfg} {A1 A4 A5 : Option Addr} {c1 c4 c5 : Nat} {e1 e2 e3 : List (Int × Int)} {e4 : List ((Int × ByteArray) × Int)}
theorem below_grown {B : Nat} {a w w' : World} {g : Nat} (h : Below B a w) (hg : w.grownBy w' (some g)) (hB : B ≤ w.heap.size) (hgB : B ≤ g) : Below B a w' := h.grown hg hB fun k hk => by injection hk with hk; omega
end
end Go.Proofs.YtldchpmilknlmaaGreat
