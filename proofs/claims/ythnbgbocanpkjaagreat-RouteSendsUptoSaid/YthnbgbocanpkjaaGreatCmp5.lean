/-
  compare of conf.partition, the wrap and the closure that 'by' makes of them, walked.
-/
import Derived.BigQuiet
import Derived.BigRegion
import Derived.Deep.RegionHeld3
import Derived.Deep.Cut
import Derived.Shelf.Abstract
import Derived.Test.YthnbgbocanpkjaaGreatGrown
import Derived.Test.YthnbgbocanpkjaaGreatCore
namespace Go.Proofs.YthnbgbocanpkjaaGreat
open Go.RowKit Go.Sort
attribute [local go_sem] ext_cell
def cmpPar (x y : Par) : Int := orL [Lib.compareInt x.id y.id, Lib.compareBytes x.name.data.toList y.name.data.toList, Lib.compareInt x.period y.period, Lib.compareInt x.duration y.duration]
set_option maxRecDepth 100000 in
set_option maxHeartbeats 8000000 in
theorem methPar_ok (x y : Par) (W : World) : Calls Tryz.prog 78 #[.agg #[.int .u16 x.id, .string x.name, .int .u64 x.period, .int .u64 x.duration], .agg #[.int .u16 y.id, .string y.name, .int .u64 y.period, .int .u64 y.duration]] W fun e w' => e = .returned (.int .i64 (cmpPar x y)) ∧ Grown W w' := by
  have hstr := cmpStr_ok
  have hu16 := cmpU16_ok
  have hu64 := cmpU64_ok
  unfold cmpPar
  generalize Lib.compareInt = cI at hu16 hu64 ⊢
  generalize Lib.compareBytes = cB at hstr ⊢
  go_enter Tryz.func78, Tryz.ntmps78
  go_upto_region 1 with (fail)
  have c00 : ((W.alloc (.cells #[.int .u16 x.id, .string x.name, .int .u64 x.period, .int .u64 x.duration] 122)).alloc (.cells #[.int .u16 y.id, .string y.name, .int .u64 y.period, .int .u64 y.duration] 122)).cell? ⟨W.heap.size, 0, none⟩ = some (.int .u16 x.id) := by simp
  have c01 : ((W.alloc (.cells #[.int .u16 x.id, .string x.name, .int .u64 x.period, .int .u64 x.duration] 122)).alloc (.cells #[.int .u16 y.id, .string y.name, .int .u64 y.period, .int .u64 y.duration] 122)).cell? ⟨W.heap.size, 1, none⟩ = some (.string x.name) := by simp
  have c02 : ((W.alloc (.cells #[.int .u16 x.id, .string x.name, .int .u64 x.period, .int .u64 x.duration] 122)).alloc (.cells #[.int .u16 y.id, .string y.name, .int .u64 y.period, .int .u64 y.duration] 122)).cell? ⟨W.heap.size, 2, none⟩ = some (.int .u64 x.period) := by simp
  have c03 : ((W.alloc (.cells #[.int .u16 x.id, .string x.name, .int .u64 x.period, .int .u64 x.duration] 122)).alloc (.cells #[.int .u16 y.id, .string y.name, .int .u64 y.period, .int .u64 y.duration] 122)).cell? ⟨W.heap.size, 3, none⟩ = some (.int .u64 x.duration) := by simp
  have c10 : ((W.alloc (.cells #[.int .u16 x.id, .string x.name, .int .u64 x.period, .int .u64 x.duration] 122)).alloc (.cells #[.int .u16 y.id, .string y.name, .int .u64 y.period, .int .u64 y.duration] 122)).cell? ⟨W.heap.size + 1, 0, none⟩ = some (.int .u16 y.id) := by simp
  have c11 : ((W.alloc (.cells #[.int .u16 x.id, .string x.name, .int .u64 x.period, .int .u64 x.duration] 122)).alloc (.cells #[.int .u16 y.id, .string y.name, .int .u64 y.period, .int .u64 y.duration] 122)).cell? ⟨W.heap.size + 1, 1, none⟩ = some (.string y.name) := by simp
  have c12 : ((W.alloc (.cells #[.int .u16 x.id, .string x.name, .int .u64 x.period, .int .u64 x.duration] 122)).alloc (.cells #[.int .u16 y.id, .string y.name, .int .u64 y.period, .int .u64 y.duration] 122)).cell? ⟨W.heap.size + 1, 2, none⟩ = some (.int .u64 y.period) := by simp
  have c13 : ((W.alloc (.cells #[.int .u16 x.id, .string x.name, .int .u64 x.period, .int .u64 x.duration] 122)).alloc (.cells #[.int .u16 y.id, .string y.name, .int .u64 y.period, .int .u64 y.duration] 122)).cell? ⟨W.heap.size + 1, 3, none⟩ = some (.int .u64 y.duration) := by simp
  have hsz : ((W.alloc (.cells #[.int .u16 x.id, .string x.name, .int .u64 x.period, .int .u64 x.duration] 122)).alloc (.cells #[.int .u16 y.id, .string y.name, .int .u64 y.period, .int .u64 y.duration] 122)).heap.size = W.heap.size + 2 := by simp
  have hgr : Grown W ((W.alloc (.cells #[.int .u16 x.id, .string x.name, .int .u64 x.period, .int .u64 x.duration] 122)).alloc (.cells #[.int .u16 y.id, .string y.name, .int .u64 y.period, .int .u64 y.duration] 122)) := ((Grown.refl W).alloc _).alloc _
  have hb0 : W.heap.size < ((W.alloc (.cells #[.int .u16 x.id, .string x.name, .int .u64 x.period, .int .u64 x.duration] 122)).alloc (.cells #[.int .u16 y.id, .string y.name, .int .u64 y.period, .int .u64 y.duration] 122)).heap.size := by rw [hsz]; omega
  have hb1 : W.heap.size + 1 < ((W.alloc (.cells #[.int .u16 x.id, .string x.name, .int .u64 x.period, .int .u64 x.duration] 122)).alloc (.cells #[.int .u16 y.id, .string y.name, .int .u64 y.period, .int .u64 y.duration] 122)).heap.size := by rw [hsz]; omega
  clear hsz
  generalize World.alloc (World.alloc W _) _ = V at c00 c01 c02 c03 c10 c11 c12 c13 hb0 hb1 hgr ⊢
  generalize W.heap.size + 1 = b1 at c10 c11 c12 c13 hb1 ⊢
  generalize W.heap.size = b0 at c00 c01 c02 c03 hb0 ⊢
  have HGR := Lib.hid hgr
  clear hgr
  have KEEP : ∀ U, Below V.heap.size V U → (fun w' => w'.cell? ⟨b0, 0, none⟩ = some (.int .u16 x.id) ∧ w'.cell? ⟨b0, 1, none⟩ = some (.string x.name) ∧ w'.cell? ⟨b0, 2, none⟩ = some (.int .u64 x.period) ∧ w'.cell? ⟨b0, 3, none⟩ = some (.int .u64 x.duration) ∧ w'.cell? ⟨b1, 0, none⟩ = some (.int .u16 y.id) ∧ w'.cell? ⟨b1, 1, none⟩ = some (.string y.name) ∧ w'.cell? ⟨b1, 2, none⟩ = some (.int .u64 y.period) ∧ w'.cell? ⟨b1, 3, none⟩ = some (.int .u64 y.duration)) U := fun U hU => by
    have q : ∀ b o, b < V.heap.size → U.cell? ⟨b, o, none⟩ = V.cell? ⟨b, o, none⟩ := fun b o h => hU.cell (p := ⟨b, o, none⟩) h
    exact ⟨(q _ _ hb0).trans c00, (q _ _ hb0).trans c01, (q _ _ hb0).trans c02, (q _ _ hb0).trans c03, (q _ _ hb1).trans c10, (q _ _ hb1).trans c11, (q _ _ hb1).trans c12, (q _ _ hb1).trans c13⟩
  have HKP := Lib.hid KEEP
  clear KEEP
  go_region_held3 (fun w' => w'.cell? ⟨b0, 0, none⟩ = some (.int .u16 x.id) ∧ w'.cell? ⟨b0, 1, none⟩ = some (.string x.name) ∧ w'.cell? ⟨b0, 2, none⟩ = some (.int .u64 x.period) ∧ w'.cell? ⟨b0, 3, none⟩ = some (.int .u64 x.duration) ∧ w'.cell? ⟨b1, 0, none⟩ = some (.int .u16 y.id) ∧ w'.cell? ⟨b1, 1, none⟩ = some (.string y.name) ∧ w'.cell? ⟨b1, 2, none⟩ = some (.int .u64 y.period) ∧ w'.cell? ⟨b1, 3, none⟩ = some (.int .u64 y.duration))
    (first | (refine HKP.out _ ?_; (repeat (first | with_reducible exact HBW.out | with_reducible exact Below.refl _ _ | with_reducible refine Below.drew ?_ | (with_reducible refine Below.alloc ?_ (by first | (simp; done) | (have hq := HBW.out.size; simp at hq ⊢; omega)) _) | (with_reducible refine Below.setCell ?_ (by first | (simp; done) | (have hq := HBW.out.size; simp at hq ⊢; omega)) _))); done) | go_keep)
    (first
    | (go_at_call 113; refine (hstr _ _ _).mono ?_; rintro e w' ⟨rfl, rfl⟩)
    | (go_at_call 112; refine (hu16 _ _ _).mono ?_; rintro e w' ⟨rfl, rfl⟩)
    | (go_at_call 114; refine (hu64 _ _ _).mono ?_; rintro e w' ⟨rfl, rfl⟩)
    | (go_at_call 111; refine (orNew [cI x.id y.id, cB x.name.data.toList y.name.data.toList, cI x.period y.period, cI x.duration y.duration] _ 4 rfl rfl (by simp) _ _ _ rfl (by simp)).mono ?_; rintro e w' ⟨rfl, rfl⟩))
  go_wp2
  go_ret
  refine ⟨rfl, ?_⟩
  have g := HGR.out
  repeat (first | exact g | refine Grown.drew ?_ | refine Grown.alloc ?_ _)
theorem wrapPar_ok (x : Par) (W : World) : Calls Tryz.prog 77 #[.agg #[.int .u16 x.id, .string x.name, .int .u64 x.period, .int .u64 x.duration]] W fun e w' => e = .returned (.agg #[.int .u16 x.id, .string x.name, .int .u64 x.period, .int .u64 x.duration]) ∧ Grown W w' := by
  go_enter Tryz.func77, Tryz.ntmps77
  go_wp2
  refine bodyPost_ret (v := .agg #[.int .u16 x.id, .string x.name, .int .u64 x.period, .int .u64 x.duration]) (by simp [results, Tryz.results77, go_sem]) rfl ⟨rfl, ?_⟩
  repeat (first | exact Grown.refl _ | refine Grown.drew ?_ | refine Grown.alloc ?_ _)
set_option maxRecDepth 100000 in
set_option maxHeartbeats 8000000 in
theorem closPar_ok (x y : Par) (d1 d2 : Nat) (W : World) (h1 : W.cell? ⟨d1, 0, none⟩ = some (.func (.func 78) #[] #[])) (h2 : W.cell? ⟨d2, 0, none⟩ = some (.func (.func 77) #[] #[])) (l1 : d1 < W.heap.size) (l2 : d2 < W.heap.size) :
    Calls Tryz.prog 110 #[.agg #[.int .u16 x.id, .string x.name, .int .u64 x.period, .int .u64 x.duration], .agg #[.int .u16 y.id, .string y.name, .int .u64 y.period, .int .u64 y.duration], .pointer (some ⟨d1, 0, none⟩), .pointer (some ⟨d2, 0, none⟩)] W fun e w' => e = .returned (.int .i64 (cmpPar x y)) ∧ Grown W w' := by
  have hent1 : ∀ a w, (callFunc 78 a).run Tryz.prog w = .ok (.enter 78 a) w := enters_of Tryz.func78 (by kernel_rfl) rfl
  have hent2 : ∀ a w, (callFunc 77 a).run Tryz.prog w = .ok (.enter 77 a) w := enters_of Tryz.func77 (by kernel_rfl) rfl
  go_enter Tryz.func110, Tryz.ntmps110
  go_upto_region 1 with (fail)
  have c00 : ((W.alloc (.cells #[.int .u16 x.id, .string x.name, .int .u64 x.period, .int .u64 x.duration] 66)).alloc (.cells #[.int .u16 y.id, .string y.name, .int .u64 y.period, .int .u64 y.duration] 66)).cell? ⟨W.heap.size, 0, none⟩ = some (.int .u16 x.id) := by simp
  have c01 : ((W.alloc (.cells #[.int .u16 x.id, .string x.name, .int .u64 x.period, .int .u64 x.duration] 66)).alloc (.cells #[.int .u16 y.id, .string y.name, .int .u64 y.period, .int .u64 y.duration] 66)).cell? ⟨W.heap.size, 1, none⟩ = some (.string x.name) := by simp
  have c02 : ((W.alloc (.cells #[.int .u16 x.id, .string x.name, .int .u64 x.period, .int .u64 x.duration] 66)).alloc (.cells #[.int .u16 y.id, .string y.name, .int .u64 y.period, .int .u64 y.duration] 66)).cell? ⟨W.heap.size, 2, none⟩ = some (.int .u64 x.period) := by simp
  have c03 : ((W.alloc (.cells #[.int .u16 x.id, .string x.name, .int .u64 x.period, .int .u64 x.duration] 66)).alloc (.cells #[.int .u16 y.id, .string y.name, .int .u64 y.period, .int .u64 y.duration] 66)).cell? ⟨W.heap.size, 3, none⟩ = some (.int .u64 x.duration) := by simp
  have c10 : ((W.alloc (.cells #[.int .u16 x.id, .string x.name, .int .u64 x.period, .int .u64 x.duration] 66)).alloc (.cells #[.int .u16 y.id, .string y.name, .int .u64 y.period, .int .u64 y.duration] 66)).cell? ⟨W.heap.size + 1, 0, none⟩ = some (.int .u16 y.id) := by simp
  have c11 : ((W.alloc (.cells #[.int .u16 x.id, .string x.name, .int .u64 x.period, .int .u64 x.duration] 66)).alloc (.cells #[.int .u16 y.id, .string y.name, .int .u64 y.period, .int .u64 y.duration] 66)).cell? ⟨W.heap.size + 1, 1, none⟩ = some (.string y.name) := by simp
  have c12 : ((W.alloc (.cells #[.int .u16 x.id, .string x.name, .int .u64 x.period, .int .u64 x.duration] 66)).alloc (.cells #[.int .u16 y.id, .string y.name, .int .u64 y.period, .int .u64 y.duration] 66)).cell? ⟨W.heap.size + 1, 2, none⟩ = some (.int .u64 y.period) := by simp
  have c13 : ((W.alloc (.cells #[.int .u16 x.id, .string x.name, .int .u64 x.period, .int .u64 x.duration] 66)).alloc (.cells #[.int .u16 y.id, .string y.name, .int .u64 y.period, .int .u64 y.duration] 66)).cell? ⟨W.heap.size + 1, 3, none⟩ = some (.int .u64 y.duration) := by simp
  have hsz : ((W.alloc (.cells #[.int .u16 x.id, .string x.name, .int .u64 x.period, .int .u64 x.duration] 66)).alloc (.cells #[.int .u16 y.id, .string y.name, .int .u64 y.period, .int .u64 y.duration] 66)).heap.size = W.heap.size + 2 := by simp
  have hgr : Grown W ((W.alloc (.cells #[.int .u16 x.id, .string x.name, .int .u64 x.period, .int .u64 x.duration] 66)).alloc (.cells #[.int .u16 y.id, .string y.name, .int .u64 y.period, .int .u64 y.duration] 66)) := ((Grown.refl W).alloc _).alloc _
  have hb0 : W.heap.size < ((W.alloc (.cells #[.int .u16 x.id, .string x.name, .int .u64 x.period, .int .u64 x.duration] 66)).alloc (.cells #[.int .u16 y.id, .string y.name, .int .u64 y.period, .int .u64 y.duration] 66)).heap.size := by rw [hsz]; omega
  have hb1 : W.heap.size + 1 < ((W.alloc (.cells #[.int .u16 x.id, .string x.name, .int .u64 x.period, .int .u64 x.duration] 66)).alloc (.cells #[.int .u16 y.id, .string y.name, .int .u64 y.period, .int .u64 y.duration] 66)).heap.size := by rw [hsz]; omega
  have k1 := (hgr.below.cell (p := ⟨d1, 0, none⟩) l1).trans h1
  have k2 := (hgr.below.cell (p := ⟨d2, 0, none⟩) l2).trans h2
  have e1 := Nat.lt_of_lt_of_le l1 hgr.below.size
  have e2 := Nat.lt_of_lt_of_le l2 hgr.below.size
  clear hsz h1 h2 l1 l2
  generalize World.alloc (World.alloc W _) _ = V at c00 c01 c02 c03 c10 c11 c12 c13 hb0 hb1 hgr k1 k2 e1 e2 ⊢
  generalize W.heap.size + 1 = b1 at c10 c11 c12 c13 hb1 ⊢
  generalize W.heap.size = b0 at c00 c01 c02 c03 hb0 ⊢
  have HGR := Lib.hid hgr
  clear hgr
  have KEEP : ∀ U, Below V.heap.size V U → (fun w' => w'.cell? ⟨b0, 0, none⟩ = some (.int .u16 x.id) ∧ w'.cell? ⟨b0, 1, none⟩ = some (.string x.name) ∧ w'.cell? ⟨b0, 2, none⟩ = some (.int .u64 x.period) ∧ w'.cell? ⟨b0, 3, none⟩ = some (.int .u64 x.duration) ∧ w'.cell? ⟨b1, 0, none⟩ = some (.int .u16 y.id) ∧ w'.cell? ⟨b1, 1, none⟩ = some (.string y.name) ∧ w'.cell? ⟨b1, 2, none⟩ = some (.int .u64 y.period) ∧ w'.cell? ⟨b1, 3, none⟩ = some (.int .u64 y.duration) ∧ w'.cell? ⟨d1, 0, none⟩ = some (.func (.func 78) #[] #[]) ∧ w'.cell? ⟨d2, 0, none⟩ = some (.func (.func 77) #[] #[])) U := fun U hU => by
    have q : ∀ b o, b < V.heap.size → U.cell? ⟨b, o, none⟩ = V.cell? ⟨b, o, none⟩ := fun b o h => hU.cell (p := ⟨b, o, none⟩) h
    exact ⟨(q _ _ hb0).trans c00, (q _ _ hb0).trans c01, (q _ _ hb0).trans c02, (q _ _ hb0).trans c03, (q _ _ hb1).trans c10, (q _ _ hb1).trans c11, (q _ _ hb1).trans c12, (q _ _ hb1).trans c13, (q _ _ e1).trans k1, (q _ _ e2).trans k2⟩
  have HKP := Lib.hid KEEP
  clear KEEP
  go_region_held3 (fun w' => w'.cell? ⟨b0, 0, none⟩ = some (.int .u16 x.id) ∧ w'.cell? ⟨b0, 1, none⟩ = some (.string x.name) ∧ w'.cell? ⟨b0, 2, none⟩ = some (.int .u64 x.period) ∧ w'.cell? ⟨b0, 3, none⟩ = some (.int .u64 x.duration) ∧ w'.cell? ⟨b1, 0, none⟩ = some (.int .u16 y.id) ∧ w'.cell? ⟨b1, 1, none⟩ = some (.string y.name) ∧ w'.cell? ⟨b1, 2, none⟩ = some (.int .u64 y.period) ∧ w'.cell? ⟨b1, 3, none⟩ = some (.int .u64 y.duration) ∧ w'.cell? ⟨d1, 0, none⟩ = some (.func (.func 78) #[] #[]) ∧ w'.cell? ⟨d2, 0, none⟩ = some (.func (.func 77) #[] #[]))
    (first | (refine HKP.out _ ?_; (repeat (first | with_reducible exact HBW.out | with_reducible exact Below.refl _ _ | with_reducible refine Below.drew ?_ | (with_reducible refine Below.alloc ?_ (by first | (simp; done) | (have hq := HBW.out.size; simp at hq ⊢; omega)) _) | (with_reducible refine Below.setCell ?_ (by first | (simp; done) | (have hq := HBW.out.size; simp at hq ⊢; omega)) _))); done) | go_keep)
    (first
    | (go_at_call 77; refine (wrapPar_ok x _).mono ?_; rintro e w' ⟨rfl, hg⟩; have HGW := Lib.hid (Grown.trans (show Grown V _ from (by repeat (first | with_reducible exact HGW.out | with_reducible exact Grown.refl _ | with_reducible refine Grown.drew ?_ | with_reducible refine Grown.alloc ?_ _))) hg); have HBW := Lib.hid HGW.out.below; clear hg)
    | (go_at_call 77; refine (wrapPar_ok y _).mono ?_; rintro e w' ⟨rfl, hg⟩; have HGW := Lib.hid (Grown.trans (show Grown V _ from (by repeat (first | with_reducible exact HGW.out | with_reducible exact Grown.refl _ | with_reducible refine Grown.drew ?_ | with_reducible refine Grown.alloc ?_ _))) hg); have HBW := Lib.hid HGW.out.below; clear hg)
    | (go_at_call 78; refine (methPar_ok x y _).mono ?_; rintro e w' ⟨rfl, hg⟩; have HGW := Lib.hid (Grown.trans (show Grown V _ from (by repeat (first | with_reducible exact HGW.out | with_reducible exact Grown.refl _ | with_reducible refine Grown.drew ?_ | with_reducible refine Grown.alloc ?_ _))) hg); have HBW := Lib.hid HGW.out.below; clear hg))
  go_wp2
  go_ret
  exact ⟨rfl, HGR.out.trans (by repeat (first | with_reducible exact HGW.out | with_reducible exact Grown.refl _ | with_reducible refine Grown.drew ?_ | with_reducible refine Grown.alloc ?_ _))⟩
end Go.Proofs.YthnbgbocanpkjaaGreat
namespace Go.Proofs.YthnbgbocanpkjaaGreat
open Go.RowKit Go.Sort
attribute [local go_sem] ext_cell
def cmpWin (x y : Win) : Int := orL [Lib.compareInt x.start y.start, Lib.compareInt x.len y.len, Lib.compareInt x.part y.part]
set_option maxRecDepth 100000 in
set_option maxHeartbeats 8000000 in
theorem methWin_ok (x y : Win) (W : World) : Calls Tryz.prog 82 #[.agg #[.int .u64 x.start, .int .u64 x.len, .int .u16 x.part], .agg #[.int .u64 y.start, .int .u64 y.len, .int .u16 y.part]] W fun e w' => e = .returned (.int .i64 (cmpWin x y)) ∧ Grown W w' := by
  have hu16 := cmpU16_ok
  have hu64 := cmpU64_ok
  unfold cmpWin
  generalize Lib.compareInt = cI at hu16 hu64 ⊢
  go_enter Tryz.func82, Tryz.ntmps82
  go_upto_region 1 with (fail)
  have c00 : ((W.alloc (.cells #[.int .u64 x.start, .int .u64 x.len, .int .u16 x.part] 132)).alloc (.cells #[.int .u64 y.start, .int .u64 y.len, .int .u16 y.part] 132)).cell? ⟨W.heap.size, 0, none⟩ = some (.int .u64 x.start) := by simp
  have c01 : ((W.alloc (.cells #[.int .u64 x.start, .int .u64 x.len, .int .u16 x.part] 132)).alloc (.cells #[.int .u64 y.start, .int .u64 y.len, .int .u16 y.part] 132)).cell? ⟨W.heap.size, 1, none⟩ = some (.int .u64 x.len) := by simp
  have c02 : ((W.alloc (.cells #[.int .u64 x.start, .int .u64 x.len, .int .u16 x.part] 132)).alloc (.cells #[.int .u64 y.start, .int .u64 y.len, .int .u16 y.part] 132)).cell? ⟨W.heap.size, 2, none⟩ = some (.int .u16 x.part) := by simp
  have c10 : ((W.alloc (.cells #[.int .u64 x.start, .int .u64 x.len, .int .u16 x.part] 132)).alloc (.cells #[.int .u64 y.start, .int .u64 y.len, .int .u16 y.part] 132)).cell? ⟨W.heap.size + 1, 0, none⟩ = some (.int .u64 y.start) := by simp
  have c11 : ((W.alloc (.cells #[.int .u64 x.start, .int .u64 x.len, .int .u16 x.part] 132)).alloc (.cells #[.int .u64 y.start, .int .u64 y.len, .int .u16 y.part] 132)).cell? ⟨W.heap.size + 1, 1, none⟩ = some (.int .u64 y.len) := by simp
  have c12 : ((W.alloc (.cells #[.int .u64 x.start, .int .u64 x.len, .int .u16 x.part] 132)).alloc (.cells #[.int .u64 y.start, .int .u64 y.len, .int .u16 y.part] 132)).cell? ⟨W.heap.size + 1, 2, none⟩ = some (.int .u16 y.part) := by simp
  have hsz : ((W.alloc (.cells #[.int .u64 x.start, .int .u64 x.len, .int .u16 x.part] 132)).alloc (.cells #[.int .u64 y.start, .int .u64 y.len, .int .u16 y.part] 132)).heap.size = W.heap.size + 2 := by simp
  have hgr : Grown W ((W.alloc (.cells #[.int .u64 x.start, .int .u64 x.len, .int .u16 x.part] 132)).alloc (.cells #[.int .u64 y.start, .int .u64 y.len, .int .u16 y.part] 132)) := ((Grown.refl W).alloc _).alloc _
  have hb0 : W.heap.size < ((W.alloc (.cells #[.int .u64 x.start, .int .u64 x.len, .int .u16 x.part] 132)).alloc (.cells #[.int .u64 y.start, .int .u64 y.len, .int .u16 y.part] 132)).heap.size := by rw [hsz]; omega
  have hb1 : W.heap.size + 1 < ((W.alloc (.cells #[.int .u64 x.start, .int .u64 x.len, .int .u16 x.part] 132)).alloc (.cells #[.int .u64 y.start, .int .u64 y.len, .int .u16 y.part] 132)).heap.size := by rw [hsz]; omega
  clear hsz
  generalize World.alloc (World.alloc W _) _ = V at c00 c01 c02 c10 c11 c12 hb0 hb1 hgr ⊢
  generalize W.heap.size + 1 = b1 at c10 c11 c12 hb1 ⊢
  generalize W.heap.size = b0 at c00 c01 c02 hb0 ⊢
  have HGR := Lib.hid hgr
  clear hgr
  have KEEP : ∀ U, Below V.heap.size V U → (fun w' => w'.cell? ⟨b0, 0, none⟩ = some (.int .u64 x.start) ∧ w'.cell? ⟨b0, 1, none⟩ = some (.int .u64 x.len) ∧ w'.cell? ⟨b0, 2, none⟩ = some (.int .u16 x.part) ∧ w'.cell? ⟨b1, 0, none⟩ = some (.int .u64 y.start) ∧ w'.cell? ⟨b1, 1, none⟩ = some (.int .u64 y.len) ∧ w'.cell? ⟨b1, 2, none⟩ = some (.int .u16 y.part)) U := fun U hU => by
    have q : ∀ b o, b < V.heap.size → U.cell? ⟨b, o, none⟩ = V.cell? ⟨b, o, none⟩ := fun b o h => hU.cell (p := ⟨b, o, none⟩) h
    exact ⟨(q _ _ hb0).trans c00, (q _ _ hb0).trans c01, (q _ _ hb0).trans c02, (q _ _ hb1).trans c10, (q _ _ hb1).trans c11, (q _ _ hb1).trans c12⟩
  have HKP := Lib.hid KEEP
  clear KEEP
  go_region_held3 (fun w' => w'.cell? ⟨b0, 0, none⟩ = some (.int .u64 x.start) ∧ w'.cell? ⟨b0, 1, none⟩ = some (.int .u64 x.len) ∧ w'.cell? ⟨b0, 2, none⟩ = some (.int .u16 x.part) ∧ w'.cell? ⟨b1, 0, none⟩ = some (.int .u64 y.start) ∧ w'.cell? ⟨b1, 1, none⟩ = some (.int .u64 y.len) ∧ w'.cell? ⟨b1, 2, none⟩ = some (.int .u16 y.part))
    (first | (refine HKP.out _ ?_; (repeat (first | with_reducible exact HBW.out | with_reducible exact Below.refl _ _ | with_reducible refine Below.drew ?_ | (with_reducible refine Below.alloc ?_ (by first | (simp; done) | (have hq := HBW.out.size; simp at hq ⊢; omega)) _) | (with_reducible refine Below.setCell ?_ (by first | (simp; done) | (have hq := HBW.out.size; simp at hq ⊢; omega)) _))); done) | go_keep)
    (first
    | (go_at_call 112; refine (hu16 _ _ _).mono ?_; rintro e w' ⟨rfl, rfl⟩)
    | (go_at_call 114; refine (hu64 _ _ _).mono ?_; rintro e w' ⟨rfl, rfl⟩)
    | (go_at_call 111; refine (orNew [cI x.start y.start, cI x.len y.len, cI x.part y.part] _ 3 rfl rfl (by simp) _ _ _ rfl (by simp)).mono ?_; rintro e w' ⟨rfl, rfl⟩))
  go_wp2
  go_ret
  refine ⟨rfl, ?_⟩
  have g := HGR.out
  repeat (first | exact g | refine Grown.drew ?_ | refine Grown.alloc ?_ _)
theorem wrapWin_ok (x : Win) (W : World) : Calls Tryz.prog 81 #[.agg #[.int .u64 x.start, .int .u64 x.len, .int .u16 x.part]] W fun e w' => e = .returned (.agg #[.int .u64 x.start, .int .u64 x.len, .int .u16 x.part]) ∧ Grown W w' := by
  go_enter Tryz.func81, Tryz.ntmps81
  go_wp2
  refine bodyPost_ret (v := .agg #[.int .u64 x.start, .int .u64 x.len, .int .u16 x.part]) (by simp [results, Tryz.results81, go_sem]) rfl ⟨rfl, ?_⟩
  repeat (first | exact Grown.refl _ | refine Grown.drew ?_ | refine Grown.alloc ?_ _)
set_option maxRecDepth 100000 in
set_option maxHeartbeats 8000000 in
theorem closWin_ok (x y : Win) (d1 d2 : Nat) (W : World) (h1 : W.cell? ⟨d1, 0, none⟩ = some (.func (.func 82) #[] #[])) (h2 : W.cell? ⟨d2, 0, none⟩ = some (.func (.func 81) #[] #[])) (l1 : d1 < W.heap.size) (l2 : d2 < W.heap.size) :
    Calls Tryz.prog 117 #[.agg #[.int .u64 x.start, .int .u64 x.len, .int .u16 x.part], .agg #[.int .u64 y.start, .int .u64 y.len, .int .u16 y.part], .pointer (some ⟨d1, 0, none⟩), .pointer (some ⟨d2, 0, none⟩)] W fun e w' => e = .returned (.int .i64 (cmpWin x y)) ∧ Grown W w' := by
  have hent1 : ∀ a w, (callFunc 82 a).run Tryz.prog w = .ok (.enter 82 a) w := enters_of Tryz.func82 (by kernel_rfl) rfl
  have hent2 : ∀ a w, (callFunc 81 a).run Tryz.prog w = .ok (.enter 81 a) w := enters_of Tryz.func81 (by kernel_rfl) rfl
  go_enter Tryz.func117, Tryz.ntmps117
  go_upto_region 1 with (fail)
  have c00 : ((W.alloc (.cells #[.int .u64 x.start, .int .u64 x.len, .int .u16 x.part] 128)).alloc (.cells #[.int .u64 y.start, .int .u64 y.len, .int .u16 y.part] 128)).cell? ⟨W.heap.size, 0, none⟩ = some (.int .u64 x.start) := by simp
  have c01 : ((W.alloc (.cells #[.int .u64 x.start, .int .u64 x.len, .int .u16 x.part] 128)).alloc (.cells #[.int .u64 y.start, .int .u64 y.len, .int .u16 y.part] 128)).cell? ⟨W.heap.size, 1, none⟩ = some (.int .u64 x.len) := by simp
  have c02 : ((W.alloc (.cells #[.int .u64 x.start, .int .u64 x.len, .int .u16 x.part] 128)).alloc (.cells #[.int .u64 y.start, .int .u64 y.len, .int .u16 y.part] 128)).cell? ⟨W.heap.size, 2, none⟩ = some (.int .u16 x.part) := by simp
  have c10 : ((W.alloc (.cells #[.int .u64 x.start, .int .u64 x.len, .int .u16 x.part] 128)).alloc (.cells #[.int .u64 y.start, .int .u64 y.len, .int .u16 y.part] 128)).cell? ⟨W.heap.size + 1, 0, none⟩ = some (.int .u64 y.start) := by simp
  have c11 : ((W.alloc (.cells #[.int .u64 x.start, .int .u64 x.len, .int .u16 x.part] 128)).alloc (.cells #[.int .u64 y.start, .int .u64 y.len, .int .u16 y.part] 128)).cell? ⟨W.heap.size + 1, 1, none⟩ = some (.int .u64 y.len) := by simp
  have c12 : ((W.alloc (.cells #[.int .u64 x.start, .int .u64 x.len, .int .u16 x.part] 128)).alloc (.cells #[.int .u64 y.start, .int .u64 y.len, .int .u16 y.part] 128)).cell? ⟨W.heap.size + 1, 2, none⟩ = some (.int .u16 y.part) := by simp
  have hsz : ((W.alloc (.cells #[.int .u64 x.start, .int .u64 x.len, .int .u16 x.part] 128)).alloc (.cells #[.int .u64 y.start, .int .u64 y.len, .int .u16 y.part] 128)).heap.size = W.heap.size + 2 := by simp
  have hgr : Grown W ((W.alloc (.cells #[.int .u64 x.start, .int .u64 x.len, .int .u16 x.part] 128)).alloc (.cells #[.int .u64 y.start, .int .u64 y.len, .int .u16 y.part] 128)) := ((Grown.refl W).alloc _).alloc _
  have hb0 : W.heap.size < ((W.alloc (.cells #[.int .u64 x.start, .int .u64 x.len, .int .u16 x.part] 128)).alloc (.cells #[.int .u64 y.start, .int .u64 y.len, .int .u16 y.part] 128)).heap.size := by rw [hsz]; omega
  have hb1 : W.heap.size + 1 < ((W.alloc (.cells #[.int .u64 x.start, .int .u64 x.len, .int .u16 x.part] 128)).alloc (.cells #[.int .u64 y.start, .int .u64 y.len, .int .u16 y.part] 128)).heap.size := by rw [hsz]; omega
  have k1 := (hgr.below.cell (p := ⟨d1, 0, none⟩) l1).trans h1
  have k2 := (hgr.below.cell (p := ⟨d2, 0, none⟩) l2).trans h2
  have e1 := Nat.lt_of_lt_of_le l1 hgr.below.size
  have e2 := Nat.lt_of_lt_of_le l2 hgr.below.size
  clear hsz h1 h2 l1 l2
  generalize World.alloc (World.alloc W _) _ = V at c00 c01 c02 c10 c11 c12 hb0 hb1 hgr k1 k2 e1 e2 ⊢
  generalize W.heap.size + 1 = b1 at c10 c11 c12 hb1 ⊢
  generalize W.heap.size = b0 at c00 c01 c02 hb0 ⊢
  have HGR := Lib.hid hgr
  clear hgr
  have KEEP : ∀ U, Below V.heap.size V U → (fun w' => w'.cell? ⟨b0, 0, none⟩ = some (.int .u64 x.start) ∧ w'.cell? ⟨b0, 1, none⟩ = some (.int .u64 x.len) ∧ w'.cell? ⟨b0, 2, none⟩ = some (.int .u16 x.part) ∧ w'.cell? ⟨b1, 0, none⟩ = some (.int .u64 y.start) ∧ w'.cell? ⟨b1, 1, none⟩ = some (.int .u64 y.len) ∧ w'.cell? ⟨b1, 2, none⟩ = some (.int .u16 y.part) ∧ w'.cell? ⟨d1, 0, none⟩ = some (.func (.func 82) #[] #[]) ∧ w'.cell? ⟨d2, 0, none⟩ = some (.func (.func 81) #[] #[])) U := fun U hU => by
    have q : ∀ b o, b < V.heap.size → U.cell? ⟨b, o, none⟩ = V.cell? ⟨b, o, none⟩ := fun b o h => hU.cell (p := ⟨b, o, none⟩) h
    exact ⟨(q _ _ hb0).trans c00, (q _ _ hb0).trans c01, (q _ _ hb0).trans c02, (q _ _ hb1).trans c10, (q _ _ hb1).trans c11, (q _ _ hb1).trans c12, (q _ _ e1).trans k1, (q _ _ e2).trans k2⟩
  have HKP := Lib.hid KEEP
  clear KEEP
  go_region_held3 (fun w' => w'.cell? ⟨b0, 0, none⟩ = some (.int .u64 x.start) ∧ w'.cell? ⟨b0, 1, none⟩ = some (.int .u64 x.len) ∧ w'.cell? ⟨b0, 2, none⟩ = some (.int .u16 x.part) ∧ w'.cell? ⟨b1, 0, none⟩ = some (.int .u64 y.start) ∧ w'.cell? ⟨b1, 1, none⟩ = some (.int .u64 y.len) ∧ w'.cell? ⟨b1, 2, none⟩ = some (.int .u16 y.part) ∧ w'.cell? ⟨d1, 0, none⟩ = some (.func (.func 82) #[] #[]) ∧ w'.cell? ⟨d2, 0, none⟩ = some (.func (.func 81) #[] #[]))
    (first | (refine HKP.out _ ?_; (repeat (first | with_reducible exact HBW.out | with_reducible exact Below.refl _ _ | with_reducible refine Below.drew ?_ | (with_reducible refine Below.alloc ?_ (by first | (simp; done) | (have hq := HBW.out.size; simp at hq ⊢; omega)) _) | (with_reducible refine Below.setCell ?_ (by first | (simp; done) | (have hq := HBW.out.size; simp at hq ⊢; omega)) _))); done) | go_keep)
    (first
    | (go_at_call 81; refine (wrapWin_ok x _).mono ?_; rintro e w' ⟨rfl, hg⟩; have HGW := Lib.hid (Grown.trans (show Grown V _ from (by repeat (first | with_reducible exact HGW.out | with_reducible exact Grown.refl _ | with_reducible refine Grown.drew ?_ | with_reducible refine Grown.alloc ?_ _))) hg); have HBW := Lib.hid HGW.out.below; clear hg)
    | (go_at_call 81; refine (wrapWin_ok y _).mono ?_; rintro e w' ⟨rfl, hg⟩; have HGW := Lib.hid (Grown.trans (show Grown V _ from (by repeat (first | with_reducible exact HGW.out | with_reducible exact Grown.refl _ | with_reducible refine Grown.drew ?_ | with_reducible refine Grown.alloc ?_ _))) hg); have HBW := Lib.hid HGW.out.below; clear hg)
    | (go_at_call 82; refine (methWin_ok x y _).mono ?_; rintro e w' ⟨rfl, hg⟩; have HGW := Lib.hid (Grown.trans (show Grown V _ from (by repeat (first | with_reducible exact HGW.out | with_reducible exact Grown.refl _ | with_reducible refine Grown.drew ?_ | with_reducible refine Grown.alloc ?_ _))) hg); have HBW := Lib.hid HGW.out.below; clear hg))
  go_wp2
  go_ret
  exact ⟨rfl, HGR.out.trans (by repeat (first | with_reducible exact HGW.out | with_reducible exact Grown.refl _ | with_reducible refine Grown.drew ?_ | with_reducible refine Grown.alloc ?_ _))⟩
end Go.Proofs.YthnbgbocanpkjaaGreat
namespace Go.Proofs.YthnbgbocanpkjaaGreat
open Go.RowKit Go.Sort
attribute [local go_sem] ext_cell
def cmpReg (x y : Reg) : Int := orL [Lib.compareInt x.base y.base, Lib.compareInt x.size y.size, Lib.compareInt x.part y.part, Lib.compareInt x.rights y.rights, flagI x.shared y.shared]
set_option maxRecDepth 100000 in
set_option maxHeartbeats 8000000 in
theorem methReg_ok (x y : Reg) (W : World) : Calls Tryz.prog 86 #[.agg #[.int .u64 x.base, .int .u64 x.size, .int .u16 x.part, .int .u8 x.rights, .bool x.shared], .agg #[.int .u64 y.base, .int .u64 y.size, .int .u16 y.part, .int .u8 y.rights, .bool y.shared]] W fun e w' => e = .returned (.int .i64 (cmpReg x y)) ∧ Grown W w' := by
  have hbool := flag_ok
  have hu16 := cmpU16_ok
  have hu64 := cmpU64_ok
  have hu8 := cmpU8_ok
  unfold cmpReg
  generalize Lib.compareInt = cI at hu16 hu64 hu8 ⊢
  generalize flagI = fI at hbool ⊢
  go_enter Tryz.func86, Tryz.ntmps86
  go_upto_region 1 with (fail)
  have c00 : ((W.alloc (.cells #[.int .u64 x.base, .int .u64 x.size, .int .u16 x.part, .int .u8 x.rights, .bool x.shared] 142)).alloc (.cells #[.int .u64 y.base, .int .u64 y.size, .int .u16 y.part, .int .u8 y.rights, .bool y.shared] 142)).cell? ⟨W.heap.size, 0, none⟩ = some (.int .u64 x.base) := by simp
  have c01 : ((W.alloc (.cells #[.int .u64 x.base, .int .u64 x.size, .int .u16 x.part, .int .u8 x.rights, .bool x.shared] 142)).alloc (.cells #[.int .u64 y.base, .int .u64 y.size, .int .u16 y.part, .int .u8 y.rights, .bool y.shared] 142)).cell? ⟨W.heap.size, 1, none⟩ = some (.int .u64 x.size) := by simp
  have c02 : ((W.alloc (.cells #[.int .u64 x.base, .int .u64 x.size, .int .u16 x.part, .int .u8 x.rights, .bool x.shared] 142)).alloc (.cells #[.int .u64 y.base, .int .u64 y.size, .int .u16 y.part, .int .u8 y.rights, .bool y.shared] 142)).cell? ⟨W.heap.size, 2, none⟩ = some (.int .u16 x.part) := by simp
  have c03 : ((W.alloc (.cells #[.int .u64 x.base, .int .u64 x.size, .int .u16 x.part, .int .u8 x.rights, .bool x.shared] 142)).alloc (.cells #[.int .u64 y.base, .int .u64 y.size, .int .u16 y.part, .int .u8 y.rights, .bool y.shared] 142)).cell? ⟨W.heap.size, 3, none⟩ = some (.int .u8 x.rights) := by simp
  have c04 : ((W.alloc (.cells #[.int .u64 x.base, .int .u64 x.size, .int .u16 x.part, .int .u8 x.rights, .bool x.shared] 142)).alloc (.cells #[.int .u64 y.base, .int .u64 y.size, .int .u16 y.part, .int .u8 y.rights, .bool y.shared] 142)).cell? ⟨W.heap.size, 4, none⟩ = some (.bool x.shared) := by simp
  have c10 : ((W.alloc (.cells #[.int .u64 x.base, .int .u64 x.size, .int .u16 x.part, .int .u8 x.rights, .bool x.shared] 142)).alloc (.cells #[.int .u64 y.base, .int .u64 y.size, .int .u16 y.part, .int .u8 y.rights, .bool y.shared] 142)).cell? ⟨W.heap.size + 1, 0, none⟩ = some (.int .u64 y.base) := by simp
  have c11 : ((W.alloc (.cells #[.int .u64 x.base, .int .u64 x.size, .int .u16 x.part, .int .u8 x.rights, .bool x.shared] 142)).alloc (.cells #[.int .u64 y.base, .int .u64 y.size, .int .u16 y.part, .int .u8 y.rights, .bool y.shared] 142)).cell? ⟨W.heap.size + 1, 1, none⟩ = some (.int .u64 y.size) := by simp
  have c12 : ((W.alloc (.cells #[.int .u64 x.base, .int .u64 x.size, .int .u16 x.part, .int .u8 x.rights, .bool x.shared] 142)).alloc (.cells #[.int .u64 y.base, .int .u64 y.size, .int .u16 y.part, .int .u8 y.rights, .bool y.shared] 142)).cell? ⟨W.heap.size + 1, 2, none⟩ = some (.int .u16 y.part) := by simp
  have c13 : ((W.alloc (.cells #[.int .u64 x.base, .int .u64 x.size, .int .u16 x.part, .int .u8 x.rights, .bool x.shared] 142)).alloc (.cells #[.int .u64 y.base, .int .u64 y.size, .int .u16 y.part, .int .u8 y.rights, .bool y.shared] 142)).cell? ⟨W.heap.size + 1, 3, none⟩ = some (.int .u8 y.rights) := by simp
  have c14 : ((W.alloc (.cells #[.int .u64 x.base, .int .u64 x.size, .int .u16 x.part, .int .u8 x.rights, .bool x.shared] 142)).alloc (.cells #[.int .u64 y.base, .int .u64 y.size, .int .u16 y.part, .int .u8 y.rights, .bool y.shared] 142)).cell? ⟨W.heap.size + 1, 4, none⟩ = some (.bool y.shared) := by simp
  have hsz : ((W.alloc (.cells #[.int .u64 x.base, .int .u64 x.size, .int .u16 x.part, .int .u8 x.rights, .bool x.shared] 142)).alloc (.cells #[.int .u64 y.base, .int .u64 y.size, .int .u16 y.part, .int .u8 y.rights, .bool y.shared] 142)).heap.size = W.heap.size + 2 := by simp
  have hgr : Grown W ((W.alloc (.cells #[.int .u64 x.base, .int .u64 x.size, .int .u16 x.part, .int .u8 x.rights, .bool x.shared] 142)).alloc (.cells #[.int .u64 y.base, .int .u64 y.size, .int .u16 y.part, .int .u8 y.rights, .bool y.shared] 142)) := ((Grown.refl W).alloc _).alloc _
  have hb0 : W.heap.size < ((W.alloc (.cells #[.int .u64 x.base, .int .u64 x.size, .int .u16 x.part, .int .u8 x.rights, .bool x.shared] 142)).alloc (.cells #[.int .u64 y.base, .int .u64 y.size, .int .u16 y.part, .int .u8 y.rights, .bool y.shared] 142)).heap.size := by rw [hsz]; omega
  have hb1 : W.heap.size + 1 < ((W.alloc (.cells #[.int .u64 x.base, .int .u64 x.size, .int .u16 x.part, .int .u8 x.rights, .bool x.shared] 142)).alloc (.cells #[.int .u64 y.base, .int .u64 y.size, .int .u16 y.part, .int .u8 y.rights, .bool y.shared] 142)).heap.size := by rw [hsz]; omega
  clear hsz
  generalize World.alloc (World.alloc W _) _ = V at c00 c01 c02 c03 c04 c10 c11 c12 c13 c14 hb0 hb1 hgr ⊢
  generalize W.heap.size + 1 = b1 at c10 c11 c12 c13 c14 hb1 ⊢
  generalize W.heap.size = b0 at c00 c01 c02 c03 c04 hb0 ⊢
  have HGR := Lib.hid hgr
  clear hgr
  have KEEP : ∀ U, Below V.heap.size V U → (fun w' => w'.cell? ⟨b0, 0, none⟩ = some (.int .u64 x.base) ∧ w'.cell? ⟨b0, 1, none⟩ = some (.int .u64 x.size) ∧ w'.cell? ⟨b0, 2, none⟩ = some (.int .u16 x.part) ∧ w'.cell? ⟨b0, 3, none⟩ = some (.int .u8 x.rights) ∧ w'.cell? ⟨b0, 4, none⟩ = some (.bool x.shared) ∧ w'.cell? ⟨b1, 0, none⟩ = some (.int .u64 y.base) ∧ w'.cell? ⟨b1, 1, none⟩ = some (.int .u64 y.size) ∧ w'.cell? ⟨b1, 2, none⟩ = some (.int .u16 y.part) ∧ w'.cell? ⟨b1, 3, none⟩ = some (.int .u8 y.rights) ∧ w'.cell? ⟨b1, 4, none⟩ = some (.bool y.shared)) U := fun U hU => by
    have q : ∀ b o, b < V.heap.size → U.cell? ⟨b, o, none⟩ = V.cell? ⟨b, o, none⟩ := fun b o h => hU.cell (p := ⟨b, o, none⟩) h
    exact ⟨(q _ _ hb0).trans c00, (q _ _ hb0).trans c01, (q _ _ hb0).trans c02, (q _ _ hb0).trans c03, (q _ _ hb0).trans c04, (q _ _ hb1).trans c10, (q _ _ hb1).trans c11, (q _ _ hb1).trans c12, (q _ _ hb1).trans c13, (q _ _ hb1).trans c14⟩
  have HKP := Lib.hid KEEP
  clear KEEP
  go_region_held3 (fun w' => w'.cell? ⟨b0, 0, none⟩ = some (.int .u64 x.base) ∧ w'.cell? ⟨b0, 1, none⟩ = some (.int .u64 x.size) ∧ w'.cell? ⟨b0, 2, none⟩ = some (.int .u16 x.part) ∧ w'.cell? ⟨b0, 3, none⟩ = some (.int .u8 x.rights) ∧ w'.cell? ⟨b0, 4, none⟩ = some (.bool x.shared) ∧ w'.cell? ⟨b1, 0, none⟩ = some (.int .u64 y.base) ∧ w'.cell? ⟨b1, 1, none⟩ = some (.int .u64 y.size) ∧ w'.cell? ⟨b1, 2, none⟩ = some (.int .u16 y.part) ∧ w'.cell? ⟨b1, 3, none⟩ = some (.int .u8 y.rights) ∧ w'.cell? ⟨b1, 4, none⟩ = some (.bool y.shared))
    (first | (refine HKP.out _ ?_; (repeat (first | with_reducible exact HBW.out | with_reducible exact Below.refl _ _ | with_reducible refine Below.drew ?_ | (with_reducible refine Below.alloc ?_ (by first | (simp; done) | (have hq := HBW.out.size; simp at hq ⊢; omega)) _) | (with_reducible refine Below.setCell ?_ (by first | (simp; done) | (have hq := HBW.out.size; simp at hq ⊢; omega)) _))); done) | go_keep)
    (first
    | (go_at_call 122; refine (hbool _ _ _).mono ?_; rintro e w' ⟨rfl, rfl⟩)
    | (go_at_call 112; refine (hu16 _ _ _).mono ?_; rintro e w' ⟨rfl, rfl⟩)
    | (go_at_call 114; refine (hu64 _ _ _).mono ?_; rintro e w' ⟨rfl, rfl⟩)
    | (go_at_call 121; refine (hu8 _ _ _).mono ?_; rintro e w' ⟨rfl, rfl⟩)
    | (go_at_call 111; refine (orNew [cI x.base y.base, cI x.size y.size, cI x.part y.part, cI x.rights y.rights, fI x.shared y.shared] _ 5 rfl rfl (by simp) _ _ _ rfl (by simp)).mono ?_; rintro e w' ⟨rfl, rfl⟩))
  go_wp2
  go_ret
  refine ⟨rfl, ?_⟩
  have g := HGR.out
  repeat (first | exact g | refine Grown.drew ?_ | refine Grown.alloc ?_ _)
theorem wrapReg_ok (x : Reg) (W : World) : Calls Tryz.prog 85 #[.agg #[.int .u64 x.base, .int .u64 x.size, .int .u16 x.part, .int .u8 x.rights, .bool x.shared]] W fun e w' => e = .returned (.agg #[.int .u64 x.base, .int .u64 x.size, .int .u16 x.part, .int .u8 x.rights, .bool x.shared]) ∧ Grown W w' := by
  go_enter Tryz.func85, Tryz.ntmps85
  go_wp2
  refine bodyPost_ret (v := .agg #[.int .u64 x.base, .int .u64 x.size, .int .u16 x.part, .int .u8 x.rights, .bool x.shared]) (by simp [results, Tryz.results85, go_sem]) rfl ⟨rfl, ?_⟩
  repeat (first | exact Grown.refl _ | refine Grown.drew ?_ | refine Grown.alloc ?_ _)
set_option maxRecDepth 100000 in
set_option maxHeartbeats 8000000 in
theorem closReg_ok (x y : Reg) (d1 d2 : Nat) (W : World) (h1 : W.cell? ⟨d1, 0, none⟩ = some (.func (.func 86) #[] #[])) (h2 : W.cell? ⟨d2, 0, none⟩ = some (.func (.func 85) #[] #[])) (l1 : d1 < W.heap.size) (l2 : d2 < W.heap.size) :
    Calls Tryz.prog 120 #[.agg #[.int .u64 x.base, .int .u64 x.size, .int .u16 x.part, .int .u8 x.rights, .bool x.shared], .agg #[.int .u64 y.base, .int .u64 y.size, .int .u16 y.part, .int .u8 y.rights, .bool y.shared], .pointer (some ⟨d1, 0, none⟩), .pointer (some ⟨d2, 0, none⟩)] W fun e w' => e = .returned (.int .i64 (cmpReg x y)) ∧ Grown W w' := by
  have hent1 : ∀ a w, (callFunc 86 a).run Tryz.prog w = .ok (.enter 86 a) w := enters_of Tryz.func86 (by kernel_rfl) rfl
  have hent2 : ∀ a w, (callFunc 85 a).run Tryz.prog w = .ok (.enter 85 a) w := enters_of Tryz.func85 (by kernel_rfl) rfl
  go_enter Tryz.func120, Tryz.ntmps120
  go_upto_region 1 with (fail)
  have c00 : ((W.alloc (.cells #[.int .u64 x.base, .int .u64 x.size, .int .u16 x.part, .int .u8 x.rights, .bool x.shared] 138)).alloc (.cells #[.int .u64 y.base, .int .u64 y.size, .int .u16 y.part, .int .u8 y.rights, .bool y.shared] 138)).cell? ⟨W.heap.size, 0, none⟩ = some (.int .u64 x.base) := by simp
  have c01 : ((W.alloc (.cells #[.int .u64 x.base, .int .u64 x.size, .int .u16 x.part, .int .u8 x.rights, .bool x.shared] 138)).alloc (.cells #[.int .u64 y.base, .int .u64 y.size, .int .u16 y.part, .int .u8 y.rights, .bool y.shared] 138)).cell? ⟨W.heap.size, 1, none⟩ = some (.int .u64 x.size) := by simp
  have c02 : ((W.alloc (.cells #[.int .u64 x.base, .int .u64 x.size, .int .u16 x.part, .int .u8 x.rights, .bool x.shared] 138)).alloc (.cells #[.int .u64 y.base, .int .u64 y.size, .int .u16 y.part, .int .u8 y.rights, .bool y.shared] 138)).cell? ⟨W.heap.size, 2, none⟩ = some (.int .u16 x.part) := by simp
  have c03 : ((W.alloc (.cells #[.int .u64 x.base, .int .u64 x.size, .int .u16 x.part, .int .u8 x.rights, .bool x.shared] 138)).alloc (.cells #[.int .u64 y.base, .int .u64 y.size, .int .u16 y.part, .int .u8 y.rights, .bool y.shared] 138)).cell? ⟨W.heap.size, 3, none⟩ = some (.int .u8 x.rights) := by simp
  have c04 : ((W.alloc (.cells #[.int .u64 x.base, .int .u64 x.size, .int .u16 x.part, .int .u8 x.rights, .bool x.shared] 138)).alloc (.cells #[.int .u64 y.base, .int .u64 y.size, .int .u16 y.part, .int .u8 y.rights, .bool y.shared] 138)).cell? ⟨W.heap.size, 4, none⟩ = some (.bool x.shared) := by simp
  have c10 : ((W.alloc (.cells #[.int .u64 x.base, .int .u64 x.size, .int .u16 x.part, .int .u8 x.rights, .bool x.shared] 138)).alloc (.cells #[.int .u64 y.base, .int .u64 y.size, .int .u16 y.part, .int .u8 y.rights, .bool y.shared] 138)).cell? ⟨W.heap.size + 1, 0, none⟩ = some (.int .u64 y.base) := by simp
  have c11 : ((W.alloc (.cells #[.int .u64 x.base, .int .u64 x.size, .int .u16 x.part, .int .u8 x.rights, .bool x.shared] 138)).alloc (.cells #[.int .u64 y.base, .int .u64 y.size, .int .u16 y.part, .int .u8 y.rights, .bool y.shared] 138)).cell? ⟨W.heap.size + 1, 1, none⟩ = some (.int .u64 y.size) := by simp
  have c12 : ((W.alloc (.cells #[.int .u64 x.base, .int .u64 x.size, .int .u16 x.part, .int .u8 x.rights, .bool x.shared] 138)).alloc (.cells #[.int .u64 y.base, .int .u64 y.size, .int .u16 y.part, .int .u8 y.rights, .bool y.shared] 138)).cell? ⟨W.heap.size + 1, 2, none⟩ = some (.int .u16 y.part) := by simp
  have c13 : ((W.alloc (.cells #[.int .u64 x.base, .int .u64 x.size, .int .u16 x.part, .int .u8 x.rights, .bool x.shared] 138)).alloc (.cells #[.int .u64 y.base, .int .u64 y.size, .int .u16 y.part, .int .u8 y.rights, .bool y.shared] 138)).cell? ⟨W.heap.size + 1, 3, none⟩ = some (.int .u8 y.rights) := by simp
  have c14 : ((W.alloc (.cells #[.int .u64 x.base, .int .u64 x.size, .int .u16 x.part, .int .u8 x.rights, .bool x.shared] 138)).alloc (.cells #[.int .u64 y.base, .int .u64 y.size, .int .u16 y.part, .int .u8 y.rights, .bool y.shared] 138)).cell? ⟨W.heap.size + 1, 4, none⟩ = some (.bool y.shared) := by simp
  have hsz : ((W.alloc (.cells #[.int .u64 x.base, .int .u64 x.size, .int .u16 x.part, .int .u8 x.rights, .bool x.shared] 138)).alloc (.cells #[.int .u64 y.base, .int .u64 y.size, .int .u16 y.part, .int .u8 y.rights, .bool y.shared] 138)).heap.size = W.heap.size + 2 := by simp
  have hgr : Grown W ((W.alloc (.cells #[.int .u64 x.base, .int .u64 x.size, .int .u16 x.part, .int .u8 x.rights, .bool x.shared] 138)).alloc (.cells #[.int .u64 y.base, .int .u64 y.size, .int .u16 y.part, .int .u8 y.rights, .bool y.shared] 138)) := ((Grown.refl W).alloc _).alloc _
  have hb0 : W.heap.size < ((W.alloc (.cells #[.int .u64 x.base, .int .u64 x.size, .int .u16 x.part, .int .u8 x.rights, .bool x.shared] 138)).alloc (.cells #[.int .u64 y.base, .int .u64 y.size, .int .u16 y.part, .int .u8 y.rights, .bool y.shared] 138)).heap.size := by rw [hsz]; omega
  have hb1 : W.heap.size + 1 < ((W.alloc (.cells #[.int .u64 x.base, .int .u64 x.size, .int .u16 x.part, .int .u8 x.rights, .bool x.shared] 138)).alloc (.cells #[.int .u64 y.base, .int .u64 y.size, .int .u16 y.part, .int .u8 y.rights, .bool y.shared] 138)).heap.size := by rw [hsz]; omega
  have k1 := (hgr.below.cell (p := ⟨d1, 0, none⟩) l1).trans h1
  have k2 := (hgr.below.cell (p := ⟨d2, 0, none⟩) l2).trans h2
  have e1 := Nat.lt_of_lt_of_le l1 hgr.below.size
  have e2 := Nat.lt_of_lt_of_le l2 hgr.below.size
  clear hsz h1 h2 l1 l2
  generalize World.alloc (World.alloc W _) _ = V at c00 c01 c02 c03 c04 c10 c11 c12 c13 c14 hb0 hb1 hgr k1 k2 e1 e2 ⊢
  generalize W.heap.size + 1 = b1 at c10 c11 c12 c13 c14 hb1 ⊢
  generalize W.heap.size = b0 at c00 c01 c02 c03 c04 hb0 ⊢
  have HGR := Lib.hid hgr
  clear hgr
  have KEEP : ∀ U, Below V.heap.size V U → (fun w' => w'.cell? ⟨b0, 0, none⟩ = some (.int .u64 x.base) ∧ w'.cell? ⟨b0, 1, none⟩ = some (.int .u64 x.size) ∧ w'.cell? ⟨b0, 2, none⟩ = some (.int .u16 x.part) ∧ w'.cell? ⟨b0, 3, none⟩ = some (.int .u8 x.rights) ∧ w'.cell? ⟨b0, 4, none⟩ = some (.bool x.shared) ∧ w'.cell? ⟨b1, 0, none⟩ = some (.int .u64 y.base) ∧ w'.cell? ⟨b1, 1, none⟩ = some (.int .u64 y.size) ∧ w'.cell? ⟨b1, 2, none⟩ = some (.int .u16 y.part) ∧ w'.cell? ⟨b1, 3, none⟩ = some (.int .u8 y.rights) ∧ w'.cell? ⟨b1, 4, none⟩ = some (.bool y.shared) ∧ w'.cell? ⟨d1, 0, none⟩ = some (.func (.func 86) #[] #[]) ∧ w'.cell? ⟨d2, 0, none⟩ = some (.func (.func 85) #[] #[])) U := fun U hU => by
    have q : ∀ b o, b < V.heap.size → U.cell? ⟨b, o, none⟩ = V.cell? ⟨b, o, none⟩ := fun b o h => hU.cell (p := ⟨b, o, none⟩) h
    exact ⟨(q _ _ hb0).trans c00, (q _ _ hb0).trans c01, (q _ _ hb0).trans c02, (q _ _ hb0).trans c03, (q _ _ hb0).trans c04, (q _ _ hb1).trans c10, (q _ _ hb1).trans c11, (q _ _ hb1).trans c12, (q _ _ hb1).trans c13, (q _ _ hb1).trans c14, (q _ _ e1).trans k1, (q _ _ e2).trans k2⟩
  have HKP := Lib.hid KEEP
  clear KEEP
  go_region_held3 (fun w' => w'.cell? ⟨b0, 0, none⟩ = some (.int .u64 x.base) ∧ w'.cell? ⟨b0, 1, none⟩ = some (.int .u64 x.size) ∧ w'.cell? ⟨b0, 2, none⟩ = some (.int .u16 x.part) ∧ w'.cell? ⟨b0, 3, none⟩ = some (.int .u8 x.rights) ∧ w'.cell? ⟨b0, 4, none⟩ = some (.bool x.shared) ∧ w'.cell? ⟨b1, 0, none⟩ = some (.int .u64 y.base) ∧ w'.cell? ⟨b1, 1, none⟩ = some (.int .u64 y.size) ∧ w'.cell? ⟨b1, 2, none⟩ = some (.int .u16 y.part) ∧ w'.cell? ⟨b1, 3, none⟩ = some (.int .u8 y.rights) ∧ w'.cell? ⟨b1, 4, none⟩ = some (.bool y.shared) ∧ w'.cell? ⟨d1, 0, none⟩ = some (.func (.func 86) #[] #[]) ∧ w'.cell? ⟨d2, 0, none⟩ = some (.func (.func 85) #[] #[]))
    (first | (refine HKP.out _ ?_; (repeat (first | with_reducible exact HBW.out | with_reducible exact Below.refl _ _ | with_reducible refine Below.drew ?_ | (with_reducible refine Below.alloc ?_ (by first | (simp; done) | (have hq := HBW.out.size; simp at hq ⊢; omega)) _) | (with_reducible refine Below.setCell ?_ (by first | (simp; done) | (have hq := HBW.out.size; simp at hq ⊢; omega)) _))); done) | go_keep)
    (first
    | (go_at_call 85; refine (wrapReg_ok x _).mono ?_; rintro e w' ⟨rfl, hg⟩; have HGW := Lib.hid (Grown.trans (show Grown V _ from (by repeat (first | with_reducible exact HGW.out | with_reducible exact Grown.refl _ | with_reducible refine Grown.drew ?_ | with_reducible refine Grown.alloc ?_ _))) hg); have HBW := Lib.hid HGW.out.below; clear hg)
    | (go_at_call 85; refine (wrapReg_ok y _).mono ?_; rintro e w' ⟨rfl, hg⟩; have HGW := Lib.hid (Grown.trans (show Grown V _ from (by repeat (first | with_reducible exact HGW.out | with_reducible exact Grown.refl _ | with_reducible refine Grown.drew ?_ | with_reducible refine Grown.alloc ?_ _))) hg); have HBW := Lib.hid HGW.out.below; clear hg)
    | (go_at_call 86; refine (methReg_ok x y _).mono ?_; rintro e w' ⟨rfl, hg⟩; have HGW := Lib.hid (Grown.trans (show Grown V _ from (by repeat (first | with_reducible exact HGW.out | with_reducible exact Grown.refl _ | with_reducible refine Grown.drew ?_ | with_reducible refine Grown.alloc ?_ _))) hg); have HBW := Lib.hid HGW.out.below; clear hg))
  go_wp2
  go_ret
  exact ⟨rfl, HGR.out.trans (by repeat (first | with_reducible exact HGW.out | with_reducible exact Grown.refl _ | with_reducible refine Grown.drew ?_ | with_reducible refine Grown.alloc ?_ _))⟩
end Go.Proofs.YthnbgbocanpkjaaGreat
namespace Go.Proofs.YthnbgbocanpkjaaGreat
open Go.RowKit Go.Sort
attribute [local go_sem] ext_cell
def cmpPrt (x y : Prt) : Int := orL [Lib.compareInt x.id y.id, Lib.compareInt x.part y.part, Lib.compareBytes x.name.data.toList y.name.data.toList, flagI x.output y.output, flagI x.queuing y.queuing, Lib.compareInt x.size y.size]
set_option maxRecDepth 100000 in
set_option maxHeartbeats 8000000 in
theorem methPrt_ok (x y : Prt) (W : World) : Calls Tryz.prog 90 #[.agg #[.int .u16 x.id, .int .u16 x.part, .string x.name, .bool x.output, .bool x.queuing, .int .u32 x.size], .agg #[.int .u16 y.id, .int .u16 y.part, .string y.name, .bool y.output, .bool y.queuing, .int .u32 y.size]] W fun e w' => e = .returned (.int .i64 (cmpPrt x y)) ∧ Grown W w' := by
  have hbool := flag_ok
  have hstr := cmpStr_ok
  have hu16 := cmpU16_ok
  have hu32 := cmpU32_ok
  unfold cmpPrt
  generalize Lib.compareInt = cI at hu16 hu32 ⊢
  generalize Lib.compareBytes = cB at hstr ⊢
  generalize flagI = fI at hbool ⊢
  go_enter Tryz.func90, Tryz.ntmps90
  go_upto_region 1 with (fail)
  have c00 : ((W.alloc (.cells #[.int .u16 x.id, .int .u16 x.part, .string x.name, .bool x.output, .bool x.queuing, .int .u32 x.size] 150)).alloc (.cells #[.int .u16 y.id, .int .u16 y.part, .string y.name, .bool y.output, .bool y.queuing, .int .u32 y.size] 150)).cell? ⟨W.heap.size, 0, none⟩ = some (.int .u16 x.id) := by simp
  have c01 : ((W.alloc (.cells #[.int .u16 x.id, .int .u16 x.part, .string x.name, .bool x.output, .bool x.queuing, .int .u32 x.size] 150)).alloc (.cells #[.int .u16 y.id, .int .u16 y.part, .string y.name, .bool y.output, .bool y.queuing, .int .u32 y.size] 150)).cell? ⟨W.heap.size, 1, none⟩ = some (.int .u16 x.part) := by simp
  have c02 : ((W.alloc (.cells #[.int .u16 x.id, .int .u16 x.part, .string x.name, .bool x.output, .bool x.queuing, .int .u32 x.size] 150)).alloc (.cells #[.int .u16 y.id, .int .u16 y.part, .string y.name, .bool y.output, .bool y.queuing, .int .u32 y.size] 150)).cell? ⟨W.heap.size, 2, none⟩ = some (.string x.name) := by simp
  have c03 : ((W.alloc (.cells #[.int .u16 x.id, .int .u16 x.part, .string x.name, .bool x.output, .bool x.queuing, .int .u32 x.size] 150)).alloc (.cells #[.int .u16 y.id, .int .u16 y.part, .string y.name, .bool y.output, .bool y.queuing, .int .u32 y.size] 150)).cell? ⟨W.heap.size, 3, none⟩ = some (.bool x.output) := by simp
  have c04 : ((W.alloc (.cells #[.int .u16 x.id, .int .u16 x.part, .string x.name, .bool x.output, .bool x.queuing, .int .u32 x.size] 150)).alloc (.cells #[.int .u16 y.id, .int .u16 y.part, .string y.name, .bool y.output, .bool y.queuing, .int .u32 y.size] 150)).cell? ⟨W.heap.size, 4, none⟩ = some (.bool x.queuing) := by simp
  have c05 : ((W.alloc (.cells #[.int .u16 x.id, .int .u16 x.part, .string x.name, .bool x.output, .bool x.queuing, .int .u32 x.size] 150)).alloc (.cells #[.int .u16 y.id, .int .u16 y.part, .string y.name, .bool y.output, .bool y.queuing, .int .u32 y.size] 150)).cell? ⟨W.heap.size, 5, none⟩ = some (.int .u32 x.size) := by simp
  have c10 : ((W.alloc (.cells #[.int .u16 x.id, .int .u16 x.part, .string x.name, .bool x.output, .bool x.queuing, .int .u32 x.size] 150)).alloc (.cells #[.int .u16 y.id, .int .u16 y.part, .string y.name, .bool y.output, .bool y.queuing, .int .u32 y.size] 150)).cell? ⟨W.heap.size + 1, 0, none⟩ = some (.int .u16 y.id) := by simp
  have c11 : ((W.alloc (.cells #[.int .u16 x.id, .int .u16 x.part, .string x.name, .bool x.output, .bool x.queuing, .int .u32 x.size] 150)).alloc (.cells #[.int .u16 y.id, .int .u16 y.part, .string y.name, .bool y.output, .bool y.queuing, .int .u32 y.size] 150)).cell? ⟨W.heap.size + 1, 1, none⟩ = some (.int .u16 y.part) := by simp
  have c12 : ((W.alloc (.cells #[.int .u16 x.id, .int .u16 x.part, .string x.name, .bool x.output, .bool x.queuing, .int .u32 x.size] 150)).alloc (.cells #[.int .u16 y.id, .int .u16 y.part, .string y.name, .bool y.output, .bool y.queuing, .int .u32 y.size] 150)).cell? ⟨W.heap.size + 1, 2, none⟩ = some (.string y.name) := by simp
  have c13 : ((W.alloc (.cells #[.int .u16 x.id, .int .u16 x.part, .string x.name, .bool x.output, .bool x.queuing, .int .u32 x.size] 150)).alloc (.cells #[.int .u16 y.id, .int .u16 y.part, .string y.name, .bool y.output, .bool y.queuing, .int .u32 y.size] 150)).cell? ⟨W.heap.size + 1, 3, none⟩ = some (.bool y.output) := by simp
  have c14 : ((W.alloc (.cells #[.int .u16 x.id, .int .u16 x.part, .string x.name, .bool x.output, .bool x.queuing, .int .u32 x.size] 150)).alloc (.cells #[.int .u16 y.id, .int .u16 y.part, .string y.name, .bool y.output, .bool y.queuing, .int .u32 y.size] 150)).cell? ⟨W.heap.size + 1, 4, none⟩ = some (.bool y.queuing) := by simp
  have c15 : ((W.alloc (.cells #[.int .u16 x.id, .int .u16 x.part, .string x.name, .bool x.output, .bool x.queuing, .int .u32 x.size] 150)).alloc (.cells #[.int .u16 y.id, .int .u16 y.part, .string y.name, .bool y.output, .bool y.queuing, .int .u32 y.size] 150)).cell? ⟨W.heap.size + 1, 5, none⟩ = some (.int .u32 y.size) := by simp
  have hsz : ((W.alloc (.cells #[.int .u16 x.id, .int .u16 x.part, .string x.name, .bool x.output, .bool x.queuing, .int .u32 x.size] 150)).alloc (.cells #[.int .u16 y.id, .int .u16 y.part, .string y.name, .bool y.output, .bool y.queuing, .int .u32 y.size] 150)).heap.size = W.heap.size + 2 := by simp
  have hgr : Grown W ((W.alloc (.cells #[.int .u16 x.id, .int .u16 x.part, .string x.name, .bool x.output, .bool x.queuing, .int .u32 x.size] 150)).alloc (.cells #[.int .u16 y.id, .int .u16 y.part, .string y.name, .bool y.output, .bool y.queuing, .int .u32 y.size] 150)) := ((Grown.refl W).alloc _).alloc _
  have hb0 : W.heap.size < ((W.alloc (.cells #[.int .u16 x.id, .int .u16 x.part, .string x.name, .bool x.output, .bool x.queuing, .int .u32 x.size] 150)).alloc (.cells #[.int .u16 y.id, .int .u16 y.part, .string y.name, .bool y.output, .bool y.queuing, .int .u32 y.size] 150)).heap.size := by rw [hsz]; omega
  have hb1 : W.heap.size + 1 < ((W.alloc (.cells #[.int .u16 x.id, .int .u16 x.part, .string x.name, .bool x.output, .bool x.queuing, .int .u32 x.size] 150)).alloc (.cells #[.int .u16 y.id, .int .u16 y.part, .string y.name, .bool y.output, .bool y.queuing, .int .u32 y.size] 150)).heap.size := by rw [hsz]; omega
  clear hsz
  generalize World.alloc (World.alloc W _) _ = V at c00 c01 c02 c03 c04 c05 c10 c11 c12 c13 c14 c15 hb0 hb1 hgr ⊢
  generalize W.heap.size + 1 = b1 at c10 c11 c12 c13 c14 c15 hb1 ⊢
  generalize W.heap.size = b0 at c00 c01 c02 c03 c04 c05 hb0 ⊢
  have HGR := Lib.hid hgr
  clear hgr
  have KEEP : ∀ U, Below V.heap.size V U → (fun w' => w'.cell? ⟨b0, 0, none⟩ = some (.int .u16 x.id) ∧ w'.cell? ⟨b0, 1, none⟩ = some (.int .u16 x.part) ∧ w'.cell? ⟨b0, 2, none⟩ = some (.string x.name) ∧ w'.cell? ⟨b0, 3, none⟩ = some (.bool x.output) ∧ w'.cell? ⟨b0, 4, none⟩ = some (.bool x.queuing) ∧ w'.cell? ⟨b0, 5, none⟩ = some (.int .u32 x.size) ∧ w'.cell? ⟨b1, 0, none⟩ = some (.int .u16 y.id) ∧ w'.cell? ⟨b1, 1, none⟩ = some (.int .u16 y.part) ∧ w'.cell? ⟨b1, 2, none⟩ = some (.string y.name) ∧ w'.cell? ⟨b1, 3, none⟩ = some (.bool y.output) ∧ w'.cell? ⟨b1, 4, none⟩ = some (.bool y.queuing) ∧ w'.cell? ⟨b1, 5, none⟩ = some (.int .u32 y.size)) U := fun U hU => by
    have q : ∀ b o, b < V.heap.size → U.cell? ⟨b, o, none⟩ = V.cell? ⟨b, o, none⟩ := fun b o h => hU.cell (p := ⟨b, o, none⟩) h
    exact ⟨(q _ _ hb0).trans c00, (q _ _ hb0).trans c01, (q _ _ hb0).trans c02, (q _ _ hb0).trans c03, (q _ _ hb0).trans c04, (q _ _ hb0).trans c05, (q _ _ hb1).trans c10, (q _ _ hb1).trans c11, (q _ _ hb1).trans c12, (q _ _ hb1).trans c13, (q _ _ hb1).trans c14, (q _ _ hb1).trans c15⟩
  have HKP := Lib.hid KEEP
  clear KEEP
  go_region_held3 (fun w' => w'.cell? ⟨b0, 0, none⟩ = some (.int .u16 x.id) ∧ w'.cell? ⟨b0, 1, none⟩ = some (.int .u16 x.part) ∧ w'.cell? ⟨b0, 2, none⟩ = some (.string x.name) ∧ w'.cell? ⟨b0, 3, none⟩ = some (.bool x.output) ∧ w'.cell? ⟨b0, 4, none⟩ = some (.bool x.queuing) ∧ w'.cell? ⟨b0, 5, none⟩ = some (.int .u32 x.size) ∧ w'.cell? ⟨b1, 0, none⟩ = some (.int .u16 y.id) ∧ w'.cell? ⟨b1, 1, none⟩ = some (.int .u16 y.part) ∧ w'.cell? ⟨b1, 2, none⟩ = some (.string y.name) ∧ w'.cell? ⟨b1, 3, none⟩ = some (.bool y.output) ∧ w'.cell? ⟨b1, 4, none⟩ = some (.bool y.queuing) ∧ w'.cell? ⟨b1, 5, none⟩ = some (.int .u32 y.size))
    (first | (refine HKP.out _ ?_; (repeat (first | with_reducible exact HBW.out | with_reducible exact Below.refl _ _ | with_reducible refine Below.drew ?_ | (with_reducible refine Below.alloc ?_ (by first | (simp; done) | (have hq := HBW.out.size; simp at hq ⊢; omega)) _) | (with_reducible refine Below.setCell ?_ (by first | (simp; done) | (have hq := HBW.out.size; simp at hq ⊢; omega)) _))); done) | go_keep)
    (first
    | (go_at_call 122; refine (hbool _ _ _).mono ?_; rintro e w' ⟨rfl, rfl⟩)
    | (go_at_call 113; refine (hstr _ _ _).mono ?_; rintro e w' ⟨rfl, rfl⟩)
    | (go_at_call 112; refine (hu16 _ _ _).mono ?_; rintro e w' ⟨rfl, rfl⟩)
    | (go_at_call 126; refine (hu32 _ _ _).mono ?_; rintro e w' ⟨rfl, rfl⟩)
    | (go_at_call 111; refine (orNew [cI x.id y.id, cI x.part y.part, cB x.name.data.toList y.name.data.toList, fI x.output y.output, fI x.queuing y.queuing, cI x.size y.size] _ 6 rfl rfl (by simp) _ _ _ rfl (by simp)).mono ?_; rintro e w' ⟨rfl, rfl⟩))
  go_wp2
  go_ret
  refine ⟨rfl, ?_⟩
  have g := HGR.out
  repeat (first | exact g | refine Grown.drew ?_ | refine Grown.alloc ?_ _)
theorem wrapPrt_ok (x : Prt) (W : World) : Calls Tryz.prog 89 #[.agg #[.int .u16 x.id, .int .u16 x.part, .string x.name, .bool x.output, .bool x.queuing, .int .u32 x.size]] W fun e w' => e = .returned (.agg #[.int .u16 x.id, .int .u16 x.part, .string x.name, .bool x.output, .bool x.queuing, .int .u32 x.size]) ∧ Grown W w' := by
  go_enter Tryz.func89, Tryz.ntmps89
  go_wp2
  refine bodyPost_ret (v := .agg #[.int .u16 x.id, .int .u16 x.part, .string x.name, .bool x.output, .bool x.queuing, .int .u32 x.size]) (by simp [results, Tryz.results89, go_sem]) rfl ⟨rfl, ?_⟩
  repeat (first | exact Grown.refl _ | refine Grown.drew ?_ | refine Grown.alloc ?_ _)
set_option maxRecDepth 100000 in
set_option maxHeartbeats 8000000 in
theorem closPrt_ok (x y : Prt) (d1 d2 : Nat) (W : World) (h1 : W.cell? ⟨d1, 0, none⟩ = some (.func (.func 90) #[] #[])) (h2 : W.cell? ⟨d2, 0, none⟩ = some (.func (.func 89) #[] #[])) (l1 : d1 < W.heap.size) (l2 : d2 < W.heap.size) :
    Calls Tryz.prog 125 #[.agg #[.int .u16 x.id, .int .u16 x.part, .string x.name, .bool x.output, .bool x.queuing, .int .u32 x.size], .agg #[.int .u16 y.id, .int .u16 y.part, .string y.name, .bool y.output, .bool y.queuing, .int .u32 y.size], .pointer (some ⟨d1, 0, none⟩), .pointer (some ⟨d2, 0, none⟩)] W fun e w' => e = .returned (.int .i64 (cmpPrt x y)) ∧ Grown W w' := by
  have hent1 : ∀ a w, (callFunc 90 a).run Tryz.prog w = .ok (.enter 90 a) w := enters_of Tryz.func90 (by kernel_rfl) rfl
  have hent2 : ∀ a w, (callFunc 89 a).run Tryz.prog w = .ok (.enter 89 a) w := enters_of Tryz.func89 (by kernel_rfl) rfl
  go_enter Tryz.func125, Tryz.ntmps125
  go_upto_region 1 with (fail)
  have c00 : ((W.alloc (.cells #[.int .u16 x.id, .int .u16 x.part, .string x.name, .bool x.output, .bool x.queuing, .int .u32 x.size] 41)).alloc (.cells #[.int .u16 y.id, .int .u16 y.part, .string y.name, .bool y.output, .bool y.queuing, .int .u32 y.size] 41)).cell? ⟨W.heap.size, 0, none⟩ = some (.int .u16 x.id) := by simp
  have c01 : ((W.alloc (.cells #[.int .u16 x.id, .int .u16 x.part, .string x.name, .bool x.output, .bool x.queuing, .int .u32 x.size] 41)).alloc (.cells #[.int .u16 y.id, .int .u16 y.part, .string y.name, .bool y.output, .bool y.queuing, .int .u32 y.size] 41)).cell? ⟨W.heap.size, 1, none⟩ = some (.int .u16 x.part) := by simp
  have c02 : ((W.alloc (.cells #[.int .u16 x.id, .int .u16 x.part, .string x.name, .bool x.output, .bool x.queuing, .int .u32 x.size] 41)).alloc (.cells #[.int .u16 y.id, .int .u16 y.part, .string y.name, .bool y.output, .bool y.queuing, .int .u32 y.size] 41)).cell? ⟨W.heap.size, 2, none⟩ = some (.string x.name) := by simp
  have c03 : ((W.alloc (.cells #[.int .u16 x.id, .int .u16 x.part, .string x.name, .bool x.output, .bool x.queuing, .int .u32 x.size] 41)).alloc (.cells #[.int .u16 y.id, .int .u16 y.part, .string y.name, .bool y.output, .bool y.queuing, .int .u32 y.size] 41)).cell? ⟨W.heap.size, 3, none⟩ = some (.bool x.output) := by simp
  have c04 : ((W.alloc (.cells #[.int .u16 x.id, .int .u16 x.part, .string x.name, .bool x.output, .bool x.queuing, .int .u32 x.size] 41)).alloc (.cells #[.int .u16 y.id, .int .u16 y.part, .string y.name, .bool y.output, .bool y.queuing, .int .u32 y.size] 41)).cell? ⟨W.heap.size, 4, none⟩ = some (.bool x.queuing) := by simp
  have c05 : ((W.alloc (.cells #[.int .u16 x.id, .int .u16 x.part, .string x.name, .bool x.output, .bool x.queuing, .int .u32 x.size] 41)).alloc (.cells #[.int .u16 y.id, .int .u16 y.part, .string y.name, .bool y.output, .bool y.queuing, .int .u32 y.size] 41)).cell? ⟨W.heap.size, 5, none⟩ = some (.int .u32 x.size) := by simp
  have c10 : ((W.alloc (.cells #[.int .u16 x.id, .int .u16 x.part, .string x.name, .bool x.output, .bool x.queuing, .int .u32 x.size] 41)).alloc (.cells #[.int .u16 y.id, .int .u16 y.part, .string y.name, .bool y.output, .bool y.queuing, .int .u32 y.size] 41)).cell? ⟨W.heap.size + 1, 0, none⟩ = some (.int .u16 y.id) := by simp
  have c11 : ((W.alloc (.cells #[.int .u16 x.id, .int .u16 x.part, .string x.name, .bool x.output, .bool x.queuing, .int .u32 x.size] 41)).alloc (.cells #[.int .u16 y.id, .int .u16 y.part, .string y.name, .bool y.output, .bool y.queuing, .int .u32 y.size] 41)).cell? ⟨W.heap.size + 1, 1, none⟩ = some (.int .u16 y.part) := by simp
  have c12 : ((W.alloc (.cells #[.int .u16 x.id, .int .u16 x.part, .string x.name, .bool x.output, .bool x.queuing, .int .u32 x.size] 41)).alloc (.cells #[.int .u16 y.id, .int .u16 y.part, .string y.name, .bool y.output, .bool y.queuing, .int .u32 y.size] 41)).cell? ⟨W.heap.size + 1, 2, none⟩ = some (.string y.name) := by simp
  have c13 : ((W.alloc (.cells #[.int .u16 x.id, .int .u16 x.part, .string x.name, .bool x.output, .bool x.queuing, .int .u32 x.size] 41)).alloc (.cells #[.int .u16 y.id, .int .u16 y.part, .string y.name, .bool y.output, .bool y.queuing, .int .u32 y.size] 41)).cell? ⟨W.heap.size + 1, 3, none⟩ = some (.bool y.output) := by simp
  have c14 : ((W.alloc (.cells #[.int .u16 x.id, .int .u16 x.part, .string x.name, .bool x.output, .bool x.queuing, .int .u32 x.size] 41)).alloc (.cells #[.int .u16 y.id, .int .u16 y.part, .string y.name, .bool y.output, .bool y.queuing, .int .u32 y.size] 41)).cell? ⟨W.heap.size + 1, 4, none⟩ = some (.bool y.queuing) := by simp
  have c15 : ((W.alloc (.cells #[.int .u16 x.id, .int .u16 x.part, .string x.name, .bool x.output, .bool x.queuing, .int .u32 x.size] 41)).alloc (.cells #[.int .u16 y.id, .int .u16 y.part, .string y.name, .bool y.output, .bool y.queuing, .int .u32 y.size] 41)).cell? ⟨W.heap.size + 1, 5, none⟩ = some (.int .u32 y.size) := by simp
  have hsz : ((W.alloc (.cells #[.int .u16 x.id, .int .u16 x.part, .string x.name, .bool x.output, .bool x.queuing, .int .u32 x.size] 41)).alloc (.cells #[.int .u16 y.id, .int .u16 y.part, .string y.name, .bool y.output, .bool y.queuing, .int .u32 y.size] 41)).heap.size = W.heap.size + 2 := by simp
  have hgr : Grown W ((W.alloc (.cells #[.int .u16 x.id, .int .u16 x.part, .string x.name, .bool x.output, .bool x.queuing, .int .u32 x.size] 41)).alloc (.cells #[.int .u16 y.id, .int .u16 y.part, .string y.name, .bool y.output, .bool y.queuing, .int .u32 y.size] 41)) := ((Grown.refl W).alloc _).alloc _
  have hb0 : W.heap.size < ((W.alloc (.cells #[.int .u16 x.id, .int .u16 x.part, .string x.name, .bool x.output, .bool x.queuing, .int .u32 x.size] 41)).alloc (.cells #[.int .u16 y.id, .int .u16 y.part, .string y.name, .bool y.output, .bool y.queuing, .int .u32 y.size] 41)).heap.size := by rw [hsz]; omega
  have hb1 : W.heap.size + 1 < ((W.alloc (.cells #[.int .u16 x.id, .int .u16 x.part, .string x.name, .bool x.output, .bool x.queuing, .int .u32 x.size] 41)).alloc (.cells #[.int .u16 y.id, .int .u16 y.part, .string y.name, .bool y.output, .bool y.queuing, .int .u32 y.size] 41)).heap.size := by rw [hsz]; omega
  have k1 := (hgr.below.cell (p := ⟨d1, 0, none⟩) l1).trans h1
  have k2 := (hgr.below.cell (p := ⟨d2, 0, none⟩) l2).trans h2
  have e1 := Nat.lt_of_lt_of_le l1 hgr.below.size
  have e2 := Nat.lt_of_lt_of_le l2 hgr.below.size
  clear hsz h1 h2 l1 l2
  generalize World.alloc (World.alloc W _) _ = V at c00 c01 c02 c03 c04 c05 c10 c11 c12 c13 c14 c15 hb0 hb1 hgr k1 k2 e1 e2 ⊢
  generalize W.heap.size + 1 = b1 at c10 c11 c12 c13 c14 c15 hb1 ⊢
  generalize W.heap.size = b0 at c00 c01 c02 c03 c04 c05 hb0 ⊢
  have HGR := Lib.hid hgr
  clear hgr
  have KEEP : ∀ U, Below V.heap.size V U → (fun w' => w'.cell? ⟨b0, 0, none⟩ = some (.int .u16 x.id) ∧ w'.cell? ⟨b0, 1, none⟩ = some (.int .u16 x.part) ∧ w'.cell? ⟨b0, 2, none⟩ = some (.string x.name) ∧ w'.cell? ⟨b0, 3, none⟩ = some (.bool x.output) ∧ w'.cell? ⟨b0, 4, none⟩ = some (.bool x.queuing) ∧ w'.cell? ⟨b0, 5, none⟩ = some (.int .u32 x.size) ∧ w'.cell? ⟨b1, 0, none⟩ = some (.int .u16 y.id) ∧ w'.cell? ⟨b1, 1, none⟩ = some (.int .u16 y.part) ∧ w'.cell? ⟨b1, 2, none⟩ = some (.string y.name) ∧ w'.cell? ⟨b1, 3, none⟩ = some (.bool y.output) ∧ w'.cell? ⟨b1, 4, none⟩ = some (.bool y.queuing) ∧ w'.cell? ⟨b1, 5, none⟩ = some (.int .u32 y.size) ∧ w'.cell? ⟨d1, 0, none⟩ = some (.func (.func 90) #[] #[]) ∧ w'.cell? ⟨d2, 0, none⟩ = some (.func (.func 89) #[] #[])) U := fun U hU => by
    have q : ∀ b o, b < V.heap.size → U.cell? ⟨b, o, none⟩ = V.cell? ⟨b, o, none⟩ := fun b o h => hU.cell (p := ⟨b, o, none⟩) h
    exact ⟨(q _ _ hb0).trans c00, (q _ _ hb0).trans c01, (q _ _ hb0).trans c02, (q _ _ hb0).trans c03, (q _ _ hb0).trans c04, (q _ _ hb0).trans c05, (q _ _ hb1).trans c10, (q _ _ hb1).trans c11, (q _ _ hb1).trans c12, (q _ _ hb1).trans c13, (q _ _ hb1).trans c14, (q _ _ hb1).trans c15, (q _ _ e1).trans k1, (q _ _ e2).trans k2⟩
  have HKP := Lib.hid KEEP
  clear KEEP
  go_region_held3 (fun w' => w'.cell? ⟨b0, 0, none⟩ = some (.int .u16 x.id) ∧ w'.cell? ⟨b0, 1, none⟩ = some (.int .u16 x.part) ∧ w'.cell? ⟨b0, 2, none⟩ = some (.string x.name) ∧ w'.cell? ⟨b0, 3, none⟩ = some (.bool x.output) ∧ w'.cell? ⟨b0, 4, none⟩ = some (.bool x.queuing) ∧ w'.cell? ⟨b0, 5, none⟩ = some (.int .u32 x.size) ∧ w'.cell? ⟨b1, 0, none⟩ = some (.int .u16 y.id) ∧ w'.cell? ⟨b1, 1, none⟩ = some (.int .u16 y.part) ∧ w'.cell? ⟨b1, 2, none⟩ = some (.string y.name) ∧ w'.cell? ⟨b1, 3, none⟩ = some (.bool y.output) ∧ w'.cell? ⟨b1, 4, none⟩ = some (.bool y.queuing) ∧ w'.cell? ⟨b1, 5, none⟩ = some (.int .u32 y.size) ∧ w'.cell? ⟨d1, 0, none⟩ = some (.func (.func 90) #[] #[]) ∧ w'.cell? ⟨d2, 0, none⟩ = some (.func (.func 89) #[] #[]))
    (first | (refine HKP.out _ ?_; (repeat (first | with_reducible exact HBW.out | with_reducible exact Below.refl _ _ | with_reducible refine Below.drew ?_ | (with_reducible refine Below.alloc ?_ (by first | (simp; done) | (have hq := HBW.out.size; simp at hq ⊢; omega)) _) | (with_reducible refine Below.setCell ?_ (by first | (simp; done) | (have hq := HBW.out.size; simp at hq ⊢; omega)) _))); done) | go_keep)
    (first
    | (go_at_call 89; refine (wrapPrt_ok x _).mono ?_; rintro e w' ⟨rfl, hg⟩; have HGW := Lib.hid (Grown.trans (show Grown V _ from (by repeat (first | with_reducible exact HGW.out | with_reducible exact Grown.refl _ | with_reducible refine Grown.drew ?_ | with_reducible refine Grown.alloc ?_ _))) hg); have HBW := Lib.hid HGW.out.below; clear hg)
    | (go_at_call 89; refine (wrapPrt_ok y _).mono ?_; rintro e w' ⟨rfl, hg⟩; have HGW := Lib.hid (Grown.trans (show Grown V _ from (by repeat (first | with_reducible exact HGW.out | with_reducible exact Grown.refl _ | with_reducible refine Grown.drew ?_ | with_reducible refine Grown.alloc ?_ _))) hg); have HBW := Lib.hid HGW.out.below; clear hg)
    | (go_at_call 90; refine (methPrt_ok x y _).mono ?_; rintro e w' ⟨rfl, hg⟩; have HGW := Lib.hid (Grown.trans (show Grown V _ from (by repeat (first | with_reducible exact HGW.out | with_reducible exact Grown.refl _ | with_reducible refine Grown.drew ?_ | with_reducible refine Grown.alloc ?_ _))) hg); have HBW := Lib.hid HGW.out.below; clear hg))
  go_wp2
  go_ret
  exact ⟨rfl, HGR.out.trans (by repeat (first | with_reducible exact HGW.out | with_reducible exact Grown.refl _ | with_reducible refine Grown.drew ?_ | with_reducible refine Grown.alloc ?_ _))⟩
end Go.Proofs.YthnbgbocanpkjaaGreat
namespace Go.Proofs.YthnbgbocanpkjaaGreat
open Go.RowKit Go.Sort
attribute [local go_sem] ext_cell
def cmpChn (x y : Chn) : Int := orL [Lib.compareInt x.id y.id, Lib.compareInt x.source y.source, cmpL x.dests y.dests]
set_option maxRecDepth 100000 in
set_option maxHeartbeats 8000000 in
theorem methChn_ok (x y : Chn) (A B : Option Addr) (a b : Nat) (W : World) (hlx : x.dests.length ≤ 4194304) (hly : y.dests.length ≤ 4194304) (hA : Rd W W.heap.size 1 A x.dests.length (x.dests.map (Value.int .u16))) (hB : Rd W W.heap.size 1 B y.dests.length (y.dests.map (Value.int .u16))) : Calls Tryz.prog 94 #[.agg #[.int .u16 x.id, .int .u16 x.source, .slice A x.dests.length a], .agg #[.int .u16 y.id, .int .u16 y.source, .slice B y.dests.length b]] W fun e w' => e = .returned (.int .i64 (cmpChn x y)) ∧ Grown W w' := by
  have hu16 := cmpU16_ok
  have hsl := fun W hA hB => slCmp_ok x.dests y.dests A B a b W hlx hly hA hB
  have HA := Lib.hid hA
  have HB := Lib.hid hB
  clear hA hB
  unfold cmpChn
  generalize Lib.compareInt = cI at hu16 ⊢
  generalize cmpL = cL at hsl ⊢
  go_enter Tryz.func94, Tryz.ntmps94
  go_upto_region 1 with (fail)
  have c00 : ((W.alloc (.cells #[.int .u16 x.id, .int .u16 x.source, .slice A x.dests.length a] 158)).alloc (.cells #[.int .u16 y.id, .int .u16 y.source, .slice B y.dests.length b] 158)).cell? ⟨W.heap.size, 0, none⟩ = some (.int .u16 x.id) := by simp
  have c01 : ((W.alloc (.cells #[.int .u16 x.id, .int .u16 x.source, .slice A x.dests.length a] 158)).alloc (.cells #[.int .u16 y.id, .int .u16 y.source, .slice B y.dests.length b] 158)).cell? ⟨W.heap.size, 1, none⟩ = some (.int .u16 x.source) := by simp
  have c02 : ((W.alloc (.cells #[.int .u16 x.id, .int .u16 x.source, .slice A x.dests.length a] 158)).alloc (.cells #[.int .u16 y.id, .int .u16 y.source, .slice B y.dests.length b] 158)).cell? ⟨W.heap.size, 2, none⟩ = some (.slice A x.dests.length a) := by simp
  have c10 : ((W.alloc (.cells #[.int .u16 x.id, .int .u16 x.source, .slice A x.dests.length a] 158)).alloc (.cells #[.int .u16 y.id, .int .u16 y.source, .slice B y.dests.length b] 158)).cell? ⟨W.heap.size + 1, 0, none⟩ = some (.int .u16 y.id) := by simp
  have c11 : ((W.alloc (.cells #[.int .u16 x.id, .int .u16 x.source, .slice A x.dests.length a] 158)).alloc (.cells #[.int .u16 y.id, .int .u16 y.source, .slice B y.dests.length b] 158)).cell? ⟨W.heap.size + 1, 1, none⟩ = some (.int .u16 y.source) := by simp
  have c12 : ((W.alloc (.cells #[.int .u16 x.id, .int .u16 x.source, .slice A x.dests.length a] 158)).alloc (.cells #[.int .u16 y.id, .int .u16 y.source, .slice B y.dests.length b] 158)).cell? ⟨W.heap.size + 1, 2, none⟩ = some (.slice B y.dests.length b) := by simp
  have hsz : ((W.alloc (.cells #[.int .u16 x.id, .int .u16 x.source, .slice A x.dests.length a] 158)).alloc (.cells #[.int .u16 y.id, .int .u16 y.source, .slice B y.dests.length b] 158)).heap.size = W.heap.size + 2 := by simp
  have hgr : Grown W ((W.alloc (.cells #[.int .u16 x.id, .int .u16 x.source, .slice A x.dests.length a] 158)).alloc (.cells #[.int .u16 y.id, .int .u16 y.source, .slice B y.dests.length b] 158)) := ((Grown.refl W).alloc _).alloc _
  have hb0 : W.heap.size < ((W.alloc (.cells #[.int .u16 x.id, .int .u16 x.source, .slice A x.dests.length a] 158)).alloc (.cells #[.int .u16 y.id, .int .u16 y.source, .slice B y.dests.length b] 158)).heap.size := by rw [hsz]; omega
  have hb1 : W.heap.size + 1 < ((W.alloc (.cells #[.int .u16 x.id, .int .u16 x.source, .slice A x.dests.length a] 158)).alloc (.cells #[.int .u16 y.id, .int .u16 y.source, .slice B y.dests.length b] 158)).heap.size := by rw [hsz]; omega
  clear hsz
  have HW := Lib.hid hgr.below
  generalize World.alloc (World.alloc W _) _ = V at c00 c01 c02 c10 c11 c12 hb0 hb1 hgr HW ⊢
  have HA := Lib.hid (HA.out.up HW.out)
  have HB := Lib.hid (HB.out.up HW.out)
  generalize W.heap.size + 1 = b1 at c10 c11 c12 hb1 ⊢
  generalize W.heap.size = b0 at c00 c01 c02 hb0 HW ⊢
  have HGR := Lib.hid hgr
  clear hgr
  have KEEP : ∀ U, Below V.heap.size V U → (fun w' => w'.cell? ⟨b0, 0, none⟩ = some (.int .u16 x.id) ∧ w'.cell? ⟨b0, 1, none⟩ = some (.int .u16 x.source) ∧ w'.cell? ⟨b0, 2, none⟩ = some (.slice A x.dests.length a) ∧ w'.cell? ⟨b1, 0, none⟩ = some (.int .u16 y.id) ∧ w'.cell? ⟨b1, 1, none⟩ = some (.int .u16 y.source) ∧ w'.cell? ⟨b1, 2, none⟩ = some (.slice B y.dests.length b)) U := fun U hU => by
    have q : ∀ b o, b < V.heap.size → U.cell? ⟨b, o, none⟩ = V.cell? ⟨b, o, none⟩ := fun b o h => hU.cell (p := ⟨b, o, none⟩) h
    exact ⟨(q _ _ hb0).trans c00, (q _ _ hb0).trans c01, (q _ _ hb0).trans c02, (q _ _ hb1).trans c10, (q _ _ hb1).trans c11, (q _ _ hb1).trans c12⟩
  have HKP := Lib.hid KEEP
  clear KEEP
  go_region_held3 (fun w' => w'.cell? ⟨b0, 0, none⟩ = some (.int .u16 x.id) ∧ w'.cell? ⟨b0, 1, none⟩ = some (.int .u16 x.source) ∧ w'.cell? ⟨b0, 2, none⟩ = some (.slice A x.dests.length a) ∧ w'.cell? ⟨b1, 0, none⟩ = some (.int .u16 y.id) ∧ w'.cell? ⟨b1, 1, none⟩ = some (.int .u16 y.source) ∧ w'.cell? ⟨b1, 2, none⟩ = some (.slice B y.dests.length b))
    (first | (refine HKP.out _ ?_; (repeat (first | with_reducible exact HBW.out | with_reducible exact Below.refl _ _ | with_reducible refine Below.drew ?_ | (with_reducible refine Below.alloc ?_ (by first | (simp; done) | (have hq := HBW.out.size; simp at hq ⊢; omega)) _) | (with_reducible refine Below.setCell ?_ (by first | (simp; done) | (have hq := HBW.out.size; simp at hq ⊢; omega)) _))); done) | go_keep)
    (first
    | (go_at_call 112; refine (hu16 _ _ _).mono ?_; rintro e w' ⟨rfl, rfl⟩)
    | (go_at_call 130; refine (hsl _ (HA.out.up (by repeat (first | with_reducible exact Below.refl _ _ | with_reducible refine Below.drew ?_ | (with_reducible refine Below.alloc ?_ (by simp) _) | (with_reducible refine Below.setCell ?_ (by simp) _)))) (HB.out.up (by repeat (first | with_reducible exact Below.refl _ _ | with_reducible refine Below.drew ?_ | (with_reducible refine Below.alloc ?_ (by simp) _) | (with_reducible refine Below.setCell ?_ (by simp) _))))).mono ?_; rintro e w' ⟨rfl, rfl⟩)
    | (go_at_call 111; refine (orNew [cI x.id y.id, cI x.source y.source, cL x.dests y.dests] _ 3 rfl rfl (by simp) _ _ _ rfl (by simp)).mono ?_; rintro e w' ⟨rfl, rfl⟩))
  go_wp2
  go_ret
  refine ⟨rfl, ?_⟩
  have g := HGR.out
  repeat (first | exact g | refine Grown.drew ?_ | refine Grown.alloc ?_ _)
theorem wrapChn_ok (x : Chn) (A : Option Addr) (a : Nat) (W : World) : Calls Tryz.prog 93 #[.agg #[.int .u16 x.id, .int .u16 x.source, .slice A x.dests.length a]] W fun e w' => e = .returned (.agg #[.int .u16 x.id, .int .u16 x.source, .slice A x.dests.length a]) ∧ Grown W w' := by
  go_enter Tryz.func93, Tryz.ntmps93
  go_wp2
  refine bodyPost_ret (v := .agg #[.int .u16 x.id, .int .u16 x.source, .slice A x.dests.length a]) (by simp [results, Tryz.results93, go_sem]) rfl ⟨rfl, ?_⟩
  repeat (first | exact Grown.refl _ | refine Grown.drew ?_ | refine Grown.alloc ?_ _)
set_option maxRecDepth 100000 in
set_option maxHeartbeats 8000000 in
theorem closChn_ok (x y : Chn) (A B : Option Addr) (a b : Nat) (d1 d2 : Nat) (W : World) (h1 : W.cell? ⟨d1, 0, none⟩ = some (.func (.func 94) #[] #[])) (h2 : W.cell? ⟨d2, 0, none⟩ = some (.func (.func 93) #[] #[])) (l1 : d1 < W.heap.size) (l2 : d2 < W.heap.size) (hlx : x.dests.length ≤ 4194304) (hly : y.dests.length ≤ 4194304) (hA : Rd W W.heap.size 1 A x.dests.length (x.dests.map (Value.int .u16))) (hB : Rd W W.heap.size 1 B y.dests.length (y.dests.map (Value.int .u16))) :
    Calls Tryz.prog 129 #[.agg #[.int .u16 x.id, .int .u16 x.source, .slice A x.dests.length a], .agg #[.int .u16 y.id, .int .u16 y.source, .slice B y.dests.length b], .pointer (some ⟨d1, 0, none⟩), .pointer (some ⟨d2, 0, none⟩)] W fun e w' => e = .returned (.int .i64 (cmpChn x y)) ∧ Grown W w' := by
  have hent1 : ∀ a w, (callFunc 94 a).run Tryz.prog w = .ok (.enter 94 a) w := enters_of Tryz.func94 (by kernel_rfl) rfl
  have hent2 : ∀ a w, (callFunc 93 a).run Tryz.prog w = .ok (.enter 93 a) w := enters_of Tryz.func93 (by kernel_rfl) rfl
  have HA := Lib.hid hA
  have HB := Lib.hid hB
  clear hA hB
  go_enter Tryz.func129, Tryz.ntmps129
  go_upto_region 1 with (fail)
  have c00 : ((W.alloc (.cells #[.int .u16 x.id, .int .u16 x.source, .slice A x.dests.length a] 64)).alloc (.cells #[.int .u16 y.id, .int .u16 y.source, .slice B y.dests.length b] 64)).cell? ⟨W.heap.size, 0, none⟩ = some (.int .u16 x.id) := by simp
  have c01 : ((W.alloc (.cells #[.int .u16 x.id, .int .u16 x.source, .slice A x.dests.length a] 64)).alloc (.cells #[.int .u16 y.id, .int .u16 y.source, .slice B y.dests.length b] 64)).cell? ⟨W.heap.size, 1, none⟩ = some (.int .u16 x.source) := by simp
  have c02 : ((W.alloc (.cells #[.int .u16 x.id, .int .u16 x.source, .slice A x.dests.length a] 64)).alloc (.cells #[.int .u16 y.id, .int .u16 y.source, .slice B y.dests.length b] 64)).cell? ⟨W.heap.size, 2, none⟩ = some (.slice A x.dests.length a) := by simp
  have c10 : ((W.alloc (.cells #[.int .u16 x.id, .int .u16 x.source, .slice A x.dests.length a] 64)).alloc (.cells #[.int .u16 y.id, .int .u16 y.source, .slice B y.dests.length b] 64)).cell? ⟨W.heap.size + 1, 0, none⟩ = some (.int .u16 y.id) := by simp
  have c11 : ((W.alloc (.cells #[.int .u16 x.id, .int .u16 x.source, .slice A x.dests.length a] 64)).alloc (.cells #[.int .u16 y.id, .int .u16 y.source, .slice B y.dests.length b] 64)).cell? ⟨W.heap.size + 1, 1, none⟩ = some (.int .u16 y.source) := by simp
  have c12 : ((W.alloc (.cells #[.int .u16 x.id, .int .u16 x.source, .slice A x.dests.length a] 64)).alloc (.cells #[.int .u16 y.id, .int .u16 y.source, .slice B y.dests.length b] 64)).cell? ⟨W.heap.size + 1, 2, none⟩ = some (.slice B y.dests.length b) := by simp
  have hsz : ((W.alloc (.cells #[.int .u16 x.id, .int .u16 x.source, .slice A x.dests.length a] 64)).alloc (.cells #[.int .u16 y.id, .int .u16 y.source, .slice B y.dests.length b] 64)).heap.size = W.heap.size + 2 := by simp
  have hgr : Grown W ((W.alloc (.cells #[.int .u16 x.id, .int .u16 x.source, .slice A x.dests.length a] 64)).alloc (.cells #[.int .u16 y.id, .int .u16 y.source, .slice B y.dests.length b] 64)) := ((Grown.refl W).alloc _).alloc _
  have hb0 : W.heap.size < ((W.alloc (.cells #[.int .u16 x.id, .int .u16 x.source, .slice A x.dests.length a] 64)).alloc (.cells #[.int .u16 y.id, .int .u16 y.source, .slice B y.dests.length b] 64)).heap.size := by rw [hsz]; omega
  have hb1 : W.heap.size + 1 < ((W.alloc (.cells #[.int .u16 x.id, .int .u16 x.source, .slice A x.dests.length a] 64)).alloc (.cells #[.int .u16 y.id, .int .u16 y.source, .slice B y.dests.length b] 64)).heap.size := by rw [hsz]; omega
  have k1 := (hgr.below.cell (p := ⟨d1, 0, none⟩) l1).trans h1
  have k2 := (hgr.below.cell (p := ⟨d2, 0, none⟩) l2).trans h2
  have e1 := Nat.lt_of_lt_of_le l1 hgr.below.size
  have e2 := Nat.lt_of_lt_of_le l2 hgr.below.size
  clear hsz h1 h2 l1 l2
  have HA := Lib.hid (HA.out.up hgr.below)
  have HB := Lib.hid (HB.out.up hgr.below)
  generalize World.alloc (World.alloc W _) _ = V at c00 c01 c02 c10 c11 c12 hb0 hb1 hgr k1 k2 e1 e2 HA HB ⊢
  generalize W.heap.size + 1 = b1 at c10 c11 c12 hb1 ⊢
  generalize W.heap.size = b0 at c00 c01 c02 hb0 ⊢
  have HGR := Lib.hid hgr
  clear hgr
  have KEEP : ∀ U, Below V.heap.size V U → (fun w' => w'.cell? ⟨b0, 0, none⟩ = some (.int .u16 x.id) ∧ w'.cell? ⟨b0, 1, none⟩ = some (.int .u16 x.source) ∧ w'.cell? ⟨b0, 2, none⟩ = some (.slice A x.dests.length a) ∧ w'.cell? ⟨b1, 0, none⟩ = some (.int .u16 y.id) ∧ w'.cell? ⟨b1, 1, none⟩ = some (.int .u16 y.source) ∧ w'.cell? ⟨b1, 2, none⟩ = some (.slice B y.dests.length b) ∧ w'.cell? ⟨d1, 0, none⟩ = some (.func (.func 94) #[] #[]) ∧ w'.cell? ⟨d2, 0, none⟩ = some (.func (.func 93) #[] #[])) U := fun U hU => by
    have q : ∀ b o, b < V.heap.size → U.cell? ⟨b, o, none⟩ = V.cell? ⟨b, o, none⟩ := fun b o h => hU.cell (p := ⟨b, o, none⟩) h
    exact ⟨(q _ _ hb0).trans c00, (q _ _ hb0).trans c01, (q _ _ hb0).trans c02, (q _ _ hb1).trans c10, (q _ _ hb1).trans c11, (q _ _ hb1).trans c12, (q _ _ e1).trans k1, (q _ _ e2).trans k2⟩
  have HKP := Lib.hid KEEP
  clear KEEP
  go_region_held3 (fun w' => w'.cell? ⟨b0, 0, none⟩ = some (.int .u16 x.id) ∧ w'.cell? ⟨b0, 1, none⟩ = some (.int .u16 x.source) ∧ w'.cell? ⟨b0, 2, none⟩ = some (.slice A x.dests.length a) ∧ w'.cell? ⟨b1, 0, none⟩ = some (.int .u16 y.id) ∧ w'.cell? ⟨b1, 1, none⟩ = some (.int .u16 y.source) ∧ w'.cell? ⟨b1, 2, none⟩ = some (.slice B y.dests.length b) ∧ w'.cell? ⟨d1, 0, none⟩ = some (.func (.func 94) #[] #[]) ∧ w'.cell? ⟨d2, 0, none⟩ = some (.func (.func 93) #[] #[]))
    (first | (refine HKP.out _ ?_; (repeat (first | with_reducible exact HBW.out | with_reducible exact Below.refl _ _ | with_reducible refine Below.drew ?_ | (with_reducible refine Below.alloc ?_ (by first | (simp; done) | (have hq := HBW.out.size; simp at hq ⊢; omega)) _) | (with_reducible refine Below.setCell ?_ (by first | (simp; done) | (have hq := HBW.out.size; simp at hq ⊢; omega)) _))); done) | go_keep)
    (first
    | (go_at_call 93; refine (wrapChn_ok x A a _).mono ?_; rintro e w' ⟨rfl, hg⟩; have HGW := Lib.hid (Grown.trans (show Grown V _ from (by repeat (first | with_reducible exact HGW.out | with_reducible exact Grown.refl _ | with_reducible refine Grown.drew ?_ | with_reducible refine Grown.alloc ?_ _))) hg); have HBW := Lib.hid HGW.out.below; clear hg)
    | (go_at_call 93; refine (wrapChn_ok y B b _).mono ?_; rintro e w' ⟨rfl, hg⟩; have HGW := Lib.hid (Grown.trans (show Grown V _ from (by repeat (first | with_reducible exact HGW.out | with_reducible exact Grown.refl _ | with_reducible refine Grown.drew ?_ | with_reducible refine Grown.alloc ?_ _))) hg); have HBW := Lib.hid HGW.out.below; clear hg)
    | (go_at_call 94; refine (methChn_ok x y A B a b _ hlx hly (HA.out.up HBW.out) (HB.out.up HBW.out)).mono ?_; rintro e w' ⟨rfl, hg⟩; have HGW := Lib.hid (Grown.trans (show Grown V _ from (by repeat (first | with_reducible exact HGW.out | with_reducible exact Grown.refl _ | with_reducible refine Grown.drew ?_ | with_reducible refine Grown.alloc ?_ _))) hg); have HBW := Lib.hid HGW.out.below; clear hg))
  go_wp2
  go_ret
  exact ⟨rfl, HGR.out.trans (by repeat (first | with_reducible exact HGW.out | with_reducible exact Grown.refl _ | with_reducible refine Grown.drew ?_ | with_reducible refine Grown.alloc ?_ _))⟩
end Go.Proofs.YthnbgbocanpkjaaGreat
