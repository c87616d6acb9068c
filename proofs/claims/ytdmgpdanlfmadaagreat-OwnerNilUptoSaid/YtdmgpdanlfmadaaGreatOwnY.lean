/-
  A nil map: Owner and Access.
-/
import Derived.Test.YtdmgpdanlfmadaaGreatOwnZ
namespace Go.Proofs.YtdmgpdanlfmadaaGreat
open Go.RowKit
set_option maxRecDepth 100000 in
set_option maxHeartbeats 4000000 in
theorem zOwner_ok (x : Int) (W : World) : Calls Tryz.prog 12 #[.pointer none, .int .u64 x] W fun r w' => r = .returned (.tuple #[.agg #[.int .u64 0, .int .u64 0, .int .u16 0, .int .u8 0, .bool false], .bool false]) ∧ Below W.heap.size W w' := by
  have hal := below_one W (.cells #[.int .u64 0, .int .u64 0, .int .u16 0, .int .u8 0, .bool false] 41)
  have bk := Blk.new W 41 #[.int .u64 0, .int .u64 0, .int .u16 0, .int .u8 0, .bool false]
  have HAL := Lib.hid hal
  go_enter Tryz.func12, Tryz.ntmps12
  go_upto_region 1 with (fail)
  generalize World.alloc W _ = W1 at hal bk HAL ⊢
  have HBK := Lib.hid bk
  generalize hgx : W.heap.size = gx at *
  clear hal bk
  go_wp2_with fail
  refine (mAll_nil x W1).mono ?_
  rintro r w2 ⟨rfl, hb⟩
  have HB2 := Lib.hid (HAL.out.trans (hb.mono (by have := HAL.out.size; omega)))
  have HBK2 := Lib.hid (HBK.out.below hb HBK.out.lt)
  have f2 := HBK2.out.frozen
  have z2 := HBK2.out.lt
  have q0 := HBK2.out.cell 0
  have q1 := HBK2.out.cell 1
  have q2 := HBK2.out.cell 2
  have q3 := HBK2.out.cell 3
  have q4 := HBK2.out.cell 4
  simp at q0 q1 q2 q3 q4
  clear hb
  go_wp2
  refine bodyPost_ret (v := .tuple #[.agg #[.int .u64 0, .int .u64 0, .int .u16 0, .int .u8 0, .bool false], .bool false]) (by simp [results, Tryz.results12, go_sem, q0, q1, q2, q3, q4]) rfl ⟨rfl, ?_⟩
  rw [hgx]
  repeat (first | exact HB2.out | refine Below.setCell ?_ (by simp) _)
theorem zIndex_ok (bp bm : Nat) (w : World) : Calls Tryz.prog 98 #[.slice none 0 0, .func (.func 44) #[] #[.pointer (some ⟨bp, 0, none⟩), .pointer (some ⟨bm, 0, none⟩)]] w fun e w' => e = .returned (.int .i64 (-1)) ∧ Below w.heap.size w w' := by
  go_enter Tryz.func98, Tryz.ntmps98
  go_wp2
  go_loopw [8] (fun i wr => i = .int .i64 0 ∧ Hid (Below w.heap.size w wr)) (fun _ _ => 0)
  case atStart => exact ⟨rfl, Lib.hid (Below.refl _ _)⟩
  case round =>
    obtain ⟨rfl, HB⟩ := hrel
    go_wp2
    go_ret
    exact ⟨rfl, HB.out⟩
theorem zCont_ok (bp bm : Nat) (w : World) : Calls Tryz.prog 43 #[.slice none 0 0, .func (.func 44) #[] #[.pointer (some ⟨bp, 0, none⟩), .pointer (some ⟨bm, 0, none⟩)]] w fun e w' => e = .returned (.bool false) ∧ Below w.heap.size w w' := by
  go_enter Tryz.func43, Tryz.ntmps43
  go_wp2_with fail
  refine (zIndex_ok bp bm w).mono ?_
  rintro e w1 ⟨rfl, hb⟩
  have HB := Lib.hid hb
  clear hb
  go_wp2
  go_ret
  exact ⟨rfl, HB.out⟩
set_option maxRecDepth 100000 in
set_option maxHeartbeats 2000000 in
theorem zAccess_ok (p x m : Int) (W : World) : Calls Tryz.prog 17 #[.pointer none, .int .u16 p, .int .u64 x, .int .u8 m] W fun r w' => r = .returned (.bool false) ∧ Below W.heap.size W w' := by
  have hb1 := below_one W (.cells #[.int .u16 p] 37)
  have hb2 := below_one (W.alloc (.cells #[.int .u16 p] 37)) (.cells #[.int .u8 m] 5)
  have k1 := (Blk.new W 37 #[.int .u16 p]).alloc (.cells #[.int .u8 m] 5)
  have k2 := Blk.new (W.alloc (.cells #[.int .u16 p] 37)) 5 #[.int .u8 m]
  have HB := Lib.hid (Below.then_ hb1 hb2)
  have hz : (W.alloc (.cells #[.int .u16 p] 37)).heap.size = W.heap.size + 1 := by simp
  rw [hz] at k2
  clear hb1 hb2 hz
  go_enter Tryz.func17, Tryz.ntmps17
  go_upto_region 1 with (fail)
  generalize World.alloc (World.alloc W _) _ = W1 at k1 k2 HB ⊢
  have K1 := Lib.hid k1
  have K2 := Lib.hid k2
  generalize hgx : W.heap.size = gx at *
  clear k1 k2
  go_wp2_with fail
  refine (mAll_nil x W1).mono ?_
  rintro r w2 ⟨rfl, hb2⟩
  have HB2 := Lib.hid (show Below gx W w2 from HB.out.trans (hb2.mono (by have := HB.out.size; omega)))
  clear hb2
  go_wp2_with fail
  refine (zCont_ok gx (gx + 1) w2).mono ?_
  rintro r w3 ⟨rfl, hb3⟩
  have HB3 := Lib.hid (show Below gx W w3 from HB2.out.trans (hb3.mono (by have := HB2.out.size; omega)))
  clear hb3
  go_wp2
  go_ret
  exact ⟨rfl, by rw [hgx]; exact HB3.out⟩
end Go.Proofs.YtdmgpdanlfmadaaGreat
