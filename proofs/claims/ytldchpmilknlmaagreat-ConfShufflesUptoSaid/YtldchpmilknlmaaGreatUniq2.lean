/-
  What package uniq computes, walked once: the checks, the index and its methods.
-/
import Derived.Test.YtldchpmilknlmaaGreatCollect
import Derived.Test.YtldchpmilknlmaaGreatCollectB
import Derived.Deep.RegionWith
import Derived.Deep.RegionHeld3
namespace Go.Proofs.YtldchpmilknlmaaGreat
open Go.RowKit
structure Flt where
  code : Int
  part : Int
  at_ : Int
@[reducible] def Flt.cells (f : Flt) : Array Value := #[.int .i64 f.code, .int .i64 f.part, .int .i64 f.at_]
@[reducible] def fltV (f : Flt) : Value := .agg f.cells
def noFlt : Flt := ⟨0, 0, 0⟩
def firstOf (s : Int) : List Int → Flt
  | [] => noFlt
  | i :: r => if 0 ≤ i then ⟨18, s, i⟩ else firstOf s r
theorem Rd.up {w w' : World} {sz n : Nat} {A : Option Addr} {xs : List Value} (h : Rd w w.heap.size sz A n xs) (hb : Below w.heap.size w w') : Rd w' w'.heap.size sz A n xs := (h.below hb).more hb.size
theorem ret_flt {f g : Flt} (h : f = g) : Ending.returned (fltV f) = .returned (fltV g) := by rw [h]
end Go.Proofs.YtldchpmilknlmaaGreat
