/-
  A map of owners is kept by stores ahead of it; a nil map answers nothing.
-/
import Derived.Test.YtdmgpdanlfmadaaGreatOwnI
namespace Go.Proofs.YtdmgpdanlfmadaaGreat
open Go.RowKit
theorem MapO.low {W : World} {lo mb : Nat} {L : List SE} (h : MapO W lo mb L) {p : Addr} (hp : p.block < lo) (u : Value) : MapO (W.setCell p u) lo mb L := by
  obtain ⟨sv, h1, h2⟩ := h.mp
  have := h.lb
  exact ⟨h.lb, ⟨sv, h1.far (by omega) u, own_set h2 hp u⟩, fun e he => own_set (h.rs e he) hp u⟩
theorem MapC.low {W : World} {lo mb : Nat} {l : List Reg} (h : MapC W lo mb l) {p : Addr} (hp : p.block < lo) (u : Value) : MapC (W.setCell p u) lo mb l := by
  obtain ⟨L, h1, h2⟩ := h.ex
  exact ⟨⟨L, h1.low hp u, h2⟩, h.ok, h.len⟩
theorem zLen_ok (W : World) : Calls Tryz.prog 16 #[.pointer none] W fun r w' => r = .returned (.int .i64 0) ∧ Below W.heap.size W w' := by
  go_enter Tryz.func16, Tryz.ntmps16
  go_wp2
  go_ret
  exact ⟨rfl, Below.refl _ _⟩
theorem zSegment_ok (x : Int) (W : World) : Calls Tryz.prog 13 #[.pointer none, .int .u64 x] W fun r w' => r = .returned (.tuple #[.int .u64 0, .int .u64 0]) ∧ Below W.heap.size W w' := by
  go_enter Tryz.func13, Tryz.ntmps13
  go_wp2
  go_ret2
  exact ⟨rfl, Below.refl _ _⟩
theorem zFree_ok (x y : Int) (W : World) : Calls Tryz.prog 8 #[.pointer none, .int .u64 x, .int .u64 y] W fun r w' => r = .returned (.tuple #[.int .u64 0, .bool false]) ∧ Below W.heap.size W w' := by
  go_enter Tryz.func8, Tryz.ntmps8
  go_wp2
  go_ret2
  exact ⟨rfl, Below.refl _ _⟩
end Go.Proofs.YtdmgpdanlfmadaaGreat
