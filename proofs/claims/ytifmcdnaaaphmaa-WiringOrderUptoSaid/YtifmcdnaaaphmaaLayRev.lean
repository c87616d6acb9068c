/-
  Contracts of the library's functions, laid at this program's numbers: tables of numbers, each body compared by the kernel. No condition.
-/
import Derived.Shelf.SlicesQ.Reverse
import Derived.Shelf.SlicesE.Reverse
import Derived.Ground.SlgnProg
import Derived.Test.YtifmcdnaaaphmaaProg
namespace Go.Proofs
open Go.Shelf
def Try.reversePrt_ren : Go.Shelf.Ren := ⟨fun | 35 => 21 | n => n, fun | 22 => 26 | 23 => 43 | 3 => 3 | 4 => 4 | 0 => 0 | n => n, fun | n => n⟩
theorem Try.reversePrt : Go.Proofs.SlLaysE0.n35 Try.prog Try.reversePrt_ren := {
  mixed := by kernel_rfl
  f35 := ⟨Try.f21.name, by decide, Try.func21.trans (congrArg some (by kernel_rfl))⟩
  t0 := Try.underlying0
  a0 := Try.isAgg0
  z0 := Try.sizeOf0
  v0 := Try.zeroValue0
  t3 := Try.underlying3
  a3 := Try.isAgg3
  z3 := Try.sizeOf3
  v3 := Try.zeroValue3
  t4 := Try.underlying4
  a4 := Try.isAgg4
  z4 := Try.sizeOf4
  v4 := Try.zeroValue4
  t22 := Try.underlying26
  a22 := Try.isAgg26
  z22 := Try.sizeOf26
  v22 := Try.zeroValue26 }
def Try.reverse16_ren : Go.Shelf.Ren := ⟨fun | 35 => 22 | n => n, fun | 22 => 53 | 23 => 38 | 3 => 3 | 4 => 4 | 0 => 0 | n => n, fun | n => n⟩
theorem Try.reverse16 : Go.Proofs.SlLaysE.n35 Try.prog Try.reverse16_ren := {
  mixed := by kernel_rfl
  f35 := ⟨Try.f22.name, by decide, Try.func22.trans (congrArg some (by kernel_rfl))⟩
  t0 := Try.underlying0
  a0 := Try.isAgg0
  z0 := Try.sizeOf0
  v0 := Try.zeroValue0
  t3 := Try.underlying3
  a3 := Try.isAgg3
  z3 := Try.sizeOf3
  v3 := Try.zeroValue3
  t4 := Try.underlying4
  a4 := Try.isAgg4
  z4 := Try.sizeOf4
  v4 := Try.zeroValue4
  t22 := Try.underlying53
  a22 := Try.isAgg53
  z22 := Try.sizeOf53
  v22 := Try.zeroValue53
  a23 := Try.isAgg38
  z23 := Try.sizeOf38 }
end Go.Proofs
