/-
  What the check of regions comes to, as plain functions of the records. It speaks of no program.
-/
import Derived.Test.YtaakcpdpkcadjaaRef17
namespace Go.Proofs.Ytaakcpdpkcadjaa
open Go.RowKit
def regBad (c : Cfg) : Int × Int := bad 0 (c.regs.map (regCode c))
/-- two regions that must not overlap, and do -/
def overR (x y : Reg) : Bool := meetS (spnOf x) (spnOf y) && !regAl x y
def clashAt (l : List Reg) (j : Nat) : Int := match l[j]? with | some y => if (l.take j).any (fun x => overR x y) then 21 else 0 | none => 0
def clashBad (l : List Reg) : Int × Int := bad 0 ((List.range l.length).map (clashAt l))
def memBad (c : Cfg) : Int × Int := if (regBad c).1 = 0 then clashBad c.regs else regBad c
theorem clash_at {l : List Reg} {j : Nat} {y : Reg} (h : l[j]? = some y) : clashAt l j = if (l.take j).any (fun x => overR x y) then 21 else 0 := by unfold clashAt; rw [h]
theorem clash_list {l : List Reg} {j : Nat} (h : j < l.length) : ((List.range l.length).map (clashAt l))[j]? = some (clashAt l j) := by
  rw [List.getElem?_map, List.getElem?_range h]; rfl
theorem over_hit {l : List Reg} {i j : Nat} {x y : Reg} (hj : l[j]? = some y) (hi : l[i]? = some x) (hij : i < j) (h : overR x y = true) : clashAt l j = 21 := by
  rw [clash_at hj, if_pos]
  rw [List.any_eq_true]
  exact ⟨x, List.mem_of_getElem? (show (l.take j)[i]? = some x by rw [List.getElem?_take, if_pos hij]; exact hi), h⟩
theorem over_miss {l : List Reg} {i : Nat} {x y : Reg} (hi : l[i]? = some x) (h0 : (l.take i).any (fun x => overR x y) = false) (h : overR x y = false) : (l.take (i + 1)).any (fun x => overR x y) = false := by
  rw [take_next hi, List.any_append, h0]; simp [h]
theorem over_end {l : List Reg} {j : Nat} {y : Reg} (hj : l[j]? = some y) (h0 : (l.take j).any (fun x => overR x y) = false) : clashAt l j = 0 := by rw [clash_at hj, h0]; rfl
theorem regBad_ok {c : Cfg} (hok : c.ok) (h : (regBad c).1 = 0) : ∀ x ∈ c.regs, okSp x.base x.size := by
  intro x hx
  have h1 := (bad_zero _ _).1 h (regCode c x) (List.mem_map.2 ⟨x, hx, rfl⟩)
  have hb := Go.bounds_u64 (hok.regs x hx).base
  unfold regCode at h1
  split at h1
  · cases h1
  · split at h1
    · rename_i hv; exact validB_ok hb.1 hv
    · cases h1
end Go.Proofs.Ytaakcpdpkcadjaa
