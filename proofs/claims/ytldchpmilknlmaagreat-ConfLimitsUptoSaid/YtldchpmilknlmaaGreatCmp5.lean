/-
  compare of conf.partition, the wrap and the closure that 'by' makes of them, walked.
-/
import Derived.BigQuiet
import Derived.BigRegion
import Derived.Deep.RegionHeld3
import Derived.Deep.Cut
import Derived.Shelf.Abstract
import Derived.Test.YtldchpmilknlmaaGreatGrown
import Derived.Test.YtldchpmilknlmaaGreatCore
namespace Go.Proofs.YtldchpmilknlmaaGreat
open Go.RowKit Go.Sort
attribute [local go_sem] ext_cell
def cmpPar (x y : Par) : Int := orL [Lib.compareInt x.id y.id, Lib.compareBytes x.name.data.toList y.name.data.toList, Lib.compareInt x.period y.period, Lib.compareInt x.duration y.duration]
set_option maxRecDepth 100000 in
set_option maxHeartbeats 8000000 in
theorem methPar_ok (x y : Par) (W : World) : Calls Tryz.prog 36 #[.agg #[.int .u16 x.id, .string x.name, .int .u64 x.period, .int .u64 x.duration], .agg #[.int .u16 y.id, .string y.name, .int .u64 y.period, .int .u64 y.duration]] W fun e w' => e = .returned (.int .i64 (cmpPar x y)) ∧ Grown W w' := by
  have hstr := cmpStr_ok
  have hu16 := cmpU16_ok
  have hu64 := cmpU64_ok
  unfold cmpPar
  generalize Lib.compareInt = cI at hu16 hu64 ⊢
  generalize Lib.compareBytes = cB at hstr ⊢
  go_enter Tryz.func36, Tryz.ntmps36
  go_upto_region 1 with (fail)
  have c00 : ((W.alloc (.cells #[.int .u16 x.id, .string x.name, .int .u64 x.period, .int .u64 x.duration] 73)).alloc (.cells #[.int .u16 y.id, .string y.name, .int .u64 y.period, .int .u64 y.duration] 73)).cell? ⟨W.heap.size, 0, none⟩ = some (.int .u16 x.id) := by simp
  have c01 : ((W.alloc (.cells #[.int .u16 x.id, .string x.name, .int .u64 x.period, .int .u64 x.duration] 73)).alloc (.cells #[.int .u16 y.id, .string y.name, .int .u64 y.period, .int .u64 y.duration] 73)).cell? ⟨W.heap.size, 1, none⟩ = some (.string x.name) := by simp
  have c02 : ((W.alloc (.cells #[.int .u16 x.id, .string x.name, .int .u64 x.period, .int .u64 x.duration] 73)).alloc (.cells #[.int .u16 y.id, .string y.name, .int .u64 y.period, .int .u64 y.duration] 73)).cell? ⟨W.heap.size, 2, none⟩ = some (.int .u64 x.period) := by simp
  have c03 : ((W.alloc (.cells #[.int .u16 x.id, .string x.name, .int .u64 x.period, .int .u64 x.duration] 73)).alloc (.cells #[.int .u16 y.id, .string y.name, .int .u64 y.period, .int .u64 y.duration] 73)).cell? ⟨W.heap.size, 3, none⟩ = some (.int .u64 x.duration) := by simp
  have c10 : ((W.alloc (.cells #[.int .u16 x.id, .string x.name, .int .u64 x.period, .int .u64 x.duration] 73)).alloc (.cells #[.int .u16 y.id, .string y.name, .int .u64 y.period, .int .u64 y.duration] 73)).cell? ⟨W.heap.size + 1, 0, none⟩ = some (.int .u16 y.id) := by simp
  have c11 : ((W.alloc (.cells #[.int .u16 x.id, .string x.name, .int .u64 x.period, .int .u64 x.duration] 73)).alloc (.cells #[.int .u16 y.id, .string y.name, .int .u64 y.period, .int .u64 y.duration] 73)).cell? ⟨W.heap.size + 1, 1, none⟩ = some (.string y.name) := by simp
  have c12 : ((W.alloc (.cells #[.int .u16 x.id, .string x.name, .int .u64 x.period, .int .u64 x.duration] 73)).alloc (.cells #[.int .u16 y.id, .string y.name, .int .u64 y.period, .int .u64 y.duration] 73)).cell? ⟨W.heap.size + 1, 2, none⟩ = some (.int .u64 y.period) := by simp
  have c13 : ((W.alloc (.cells #[.int .u16 x.id, .string x.name, .int .u64 x.period, .int .u64 x.duration] 73)).alloc (.cells #[.int .u16 y.id, .string y.name, .int .u64 y.period, .int .u64 y.duration] 73)).cell? ⟨W.heap.size + 1, 3, none⟩ = some (.int .u64 y.duration) := by simp
  have hsz : ((W.alloc (.cells #[.int .u16 x.id, .string x.name, .int .u64 x.period, .int .u64 x.duration] 73)).alloc (.cells #[.int .u16 y.id, .string y.name, .int .u64 y.period, .int .u64 y.duration] 73)).heap.size = W.heap.size + 2 := by simp
  have hgr : Grown W ((W.alloc (.cells #[.int .u16 x.id, .string x.name, .int .u64 x.period, .int .u64 x.duration] 73)).alloc (.cells #[.int .u16 y.id, .string y.name, .int .u64 y.period, .int .u64 y.duration] 73)) := ((Grown.refl W).alloc _).alloc _
  have hb0 : W.heap.size < ((W.alloc (.cells #[.int .u16 x.id, .string x.name, .int .u64 x.period, .int .u64 x.duration] 73)).alloc (.cells #[.int .u16 y.id, .string y.name, .int .u64 y.period, .int .u64 y.duration] 73)).heap.size := by rw [hsz]; omega
  have hb1 : W.heap.size + 1 < ((W.alloc (.cells #[.int .u16 x.id, .string x.name, .int .u64 x.period, .int .u64 x.duration] 73)).alloc (.cells #[.int .u16 y.id, .string y.name, .int .u64 y.period, .int .u64 y.duration] 73)).heap.size := by rw [hsz]; omega
  clear hsz
  generalize World.alloc (World.alloc W _) _ = V at c00 c01 c02 c03 c10 c11 c12 c13 hb0 hb1 hgr ⊢
  generalize W.heap.size + 1 = b1 at c10 c11 c12 c13 hb1 ⊢
  generalize W.heap.size = b0 at c00 c01 c02 c03 hb0 ⊢
  have HGR := Lib.hid hgr
  clear hgr
  have KEEP : ∀ U, Below V.heap.size V U → (fun w' => w'.cell? ⟨b0, 0, none⟩ = some (.int .u16 x.id) ∧ w'.cell? ⟨b0, 1, none⟩ = some (.string x.name) ∧ w'.cell? ⟨b0, 2, none⟩ = some (.int .u64 x.period) ∧ w'.cell? ⟨b0, 3, none⟩ = some (.int .u64 x.duration) ∧ w'.cell? ⟨b1, 0, none⟩ = some (.int .u16 y.id) ∧ w'.cell? ⟨b1, 1, none⟩ = some (.string y.name) ∧ w'.cell? ⟨b1, 2, none⟩ = some (.int .u64 y.period) ∧ w'.cell? ⟨b1, 3, none⟩ = some (.int .u64 y.duration)) U := fun U hU => by
    have q : ∀ b o, b < V.heap.size → U.cell? ⟨b, o, none⟩ = V.cell? ⟨b, o, none⟩ := fun b o h => hU.cell (p := ⟨b, o, none⟩) h
    exact ⟨(q _ _ hb0).trans c00, (q _ _ hb0).trans c01, (q _ _ hb0).trans c02, (q _ _ hb0).trans c03, (q _ _ hb1).trans c10, (q _ _ hb1).trans c11, (q _ _ hb1).trans c12, (q _ _ hb1).trans c13⟩
  have HKP := Lib.hid KEEP
  clear KEEP
  go_region_held3 (fun w' => w'.cell? ⟨b0, 0, none⟩ = some (.int .u16 x.id) ∧ w'.cell? ⟨b0, 1, none⟩ = some (.string x.name) ∧ w'.cell? ⟨b0, 2, none⟩ = some (.int .u64 x.period) ∧ w'.cell? ⟨b0, 3, none⟩ = some (.int .u64 x.duration) ∧ w'.cell? ⟨b1, 0, none⟩ = some (.int .u16 y.id) ∧ w'.cell? ⟨b1, 1, none⟩ = some (.string y.name) ∧ w'.cell? ⟨b1, 2, none⟩ = some (.int .u64 y.period) ∧ w'.cell? ⟨b1, 3, none⟩ = some (.int .u64 y.duration))
    (first | (refine HKP.out _ ?_; (repeat (first | with_reducible exact HBW.out | with_reducible exact Below.refl _ _ | with_reducible refine Below.drew ?_ | (with_reducible refine Below.alloc ?_ (by first | (simp; done) | (have hq := HBW.out.size; simp at hq ⊢; omega)) _) | (with_reducible refine Below.setCell ?_ (by first | (simp; done) | (have hq := HBW.out.size; simp at hq ⊢; omega)) _))); done) | go_keep)
    (first
    | (go_at_call 85; refine (hstr _ _ _).mono ?_; rintro e w' ⟨rfl, rfl⟩)
    | (go_at_call 84; refine (hu16 _ _ _).mono ?_; rintro e w' ⟨rfl, rfl⟩)
    | (go_at_call 86; refine (hu64 _ _ _).mono ?_; rintro e w' ⟨rfl, rfl⟩)
    | (go_at_call 83; refine (orNew [cI x.id y.id, cB x.name.data.toList y.name.data.toList, cI x.period y.period, cI x.duration y.duration] _ 4 rfl rfl (by simp) _ _ _ rfl (by simp)).mono ?_; rintro e w' ⟨rfl, rfl⟩))
  go_wp2
  go_ret
  refine ⟨rfl, ?_⟩
  have g := HGR.out
  repeat (first | exact g | refine Grown.drew ?_ | refine Grown.alloc ?_ _)
theorem wrapPar_ok (x : Par) (W : World) : Calls Tryz.prog 35 #[.agg #[.int .u16 x.id, .string x.name, .int .u64 x.period, .int .u64 x.duration]] W fun e w' => e = .returned (.agg #[.int .u16 x.id, .string x.name, .int .u64 x.period, .int .u64 x.duration]) ∧ Grown W w' := by
  go_enter Tryz.func35, Tryz.ntmps35
  go_wp2
  refine bodyPost_ret (v := .agg #[.int .u16 x.id, .string x.name, .int .u64 x.period, .int .u64 x.duration]) (by simp [results, Tryz.results35, go_sem]) rfl ⟨rfl, ?_⟩
  repeat (first | exact Grown.refl _ | refine Grown.drew ?_ | refine Grown.alloc ?_ _)
set_option maxRecDepth 100000 in
set_option maxHeartbeats 8000000 in
theorem closPar_ok (x y : Par) (d1 d2 : Nat) (W : World) (h1 : W.cell? ⟨d1, 0, none⟩ = some (.func (.func 36) #[] #[])) (h2 : W.cell? ⟨d2, 0, none⟩ = some (.func (.func 35) #[] #[])) (l1 : d1 < W.heap.size) (l2 : d2 < W.heap.size) :
    Calls Tryz.prog 82 #[.agg #[.int .u16 x.id, .string x.name, .int .u64 x.period, .int .u64 x.duration], .agg #[.int .u16 y.id, .string y.name, .int .u64 y.period, .int .u64 y.duration], .pointer (some ⟨d1, 0, none⟩), .pointer (some ⟨d2, 0, none⟩)] W fun e w' => e = .returned (.int .i64 (cmpPar x y)) ∧ Grown W w' := by
  have hent1 : ∀ a w, (callFunc 36 a).run Tryz.prog w = .ok (.enter 36 a) w := enters_of Tryz.func36 (by kernel_rfl) rfl
  have hent2 : ∀ a w, (callFunc 35 a).run Tryz.prog w = .ok (.enter 35 a) w := enters_of Tryz.func35 (by kernel_rfl) rfl
  go_enter Tryz.func82, Tryz.ntmps82
  go_upto_region 1 with (fail)
  have c00 : ((W.alloc (.cells #[.int .u16 x.id, .string x.name, .int .u64 x.period, .int .u64 x.duration] 36)).alloc (.cells #[.int .u16 y.id, .string y.name, .int .u64 y.period, .int .u64 y.duration] 36)).cell? ⟨W.heap.size, 0, none⟩ = some (.int .u16 x.id) := by simp
  have c01 : ((W.alloc (.cells #[.int .u16 x.id, .string x.name, .int .u64 x.period, .int .u64 x.duration] 36)).alloc (.cells #[.int .u16 y.id, .string y.name, .int .u64 y.period, .int .u64 y.duration] 36)).cell? ⟨W.heap.size, 1, none⟩ = some (.string x.name) := by simp
  have c02 : ((W.alloc (.cells #[.int .u16 x.id, .string x.name, .int .u64 x.period, .int .u64 x.duration] 36)).alloc (.cells #[.int .u16 y.id, .string y.name, .int .u64 y.period, .int .u64 y.duration] 36)).cell? ⟨W.heap.size, 2, none⟩ = some (.int .u64 x.period) := by simp
  have c03 : ((W.alloc (.cells #[.int .u16 x.id, .string x.name, .int .u64 x.period, .int .u64 x.duration] 36)).alloc (.cells #[.int .u16 y.id, .string y.name, .int .u64 y.period, .int .u64 y.duration] 36)).cell? ⟨W.heap.size, 3, none⟩ = some (.int .u64 x.duration) := by simp
  have c10 : ((W.alloc (.cells #[.int .u16 x.id, .string x.name, .int .u64 x.period, .int .u64 x.duration] 36)).alloc (.cells #[.int .u16 y.id, .string y.name, .int .u64 y.period, .int .u64 y.duration] 36)).cell? ⟨W.heap.size + 1, 0, none⟩ = some (.int .u16 y.id) := by simp
  have c11 : ((W.alloc (.cells #[.int .u16 x.id, .string x.name, .int .u64 x.period, .int .u64 x.duration] 36)).alloc (.cells #[.int .u16 y.id, .string y.name, .int .u64 y.period, .int .u64 y.duration] 36)).cell? ⟨W.heap.size + 1, 1, none⟩ = some (.string y.name) := by simp
  have c12 : ((W.alloc (.cells #[.int .u16 x.id, .string x.name, .int .u64 x.period, .int .u64 x.duration] 36)).alloc (.cells #[.int .u16 y.id, .string y.name, .int .u64 y.period, .int .u64 y.duration] 36)).cell? ⟨W.heap.size + 1, 2, none⟩ = some (.int .u64 y.period) := by simp
  have c13 : ((W.alloc (.cells #[.int .u16 x.id, .string x.name, .int .u64 x.period, .int .u64 x.duration] 36)).alloc (.cells #[.int .u16 y.id, .string y.name, .int .u64 y.period, .int .u64 y.duration] 36)).cell? ⟨W.heap.size + 1, 3, none⟩ = some (.int .u64 y.duration) := by simp
  have hsz : ((W.alloc (.cells #[.int .u16 x.id, .string x.name, .int .u64 x.period, .int .u64 x.duration] 36)).alloc (.cells #[.int .u16 y.id, .string y.name, .int .u64 y.period, .int .u64 y.duration] 36)).heap.size = W.heap.size + 2 := by simp
  have hgr : Grown W ((W.alloc (.cells #[.int .u16 x.id, .string x.name, .int .u64 x.period, .int .u64 x.duration] 36)).alloc (.cells #[.int .u16 y.id, .string y.name, .int .u64 y.period, .int .u64 y.duration] 36)) := ((Grown.refl W).alloc _).alloc _
  have hb0 : W.heap.size < ((W.alloc (.cells #[.int .u16 x.id, .string x.name, .int .u64 x.period, .int .u64 x.duration] 36)).alloc (.cells #[.int .u16 y.id, .string y.name, .int .u64 y.period, .int .u64 y.duration] 36)).heap.size := by rw [hsz]; omega
  have hb1 : W.heap.size + 1 < ((W.alloc (.cells #[.int .u16 x.id, .string x.name, .int .u64 x.period, .int .u64 x.duration] 36)).alloc (.cells #[.int .u16 y.id, .string y.name, .int .u64 y.period, .int .u64 y.duration] 36)).heap.size := by rw [hsz]; omega
  have k1 := (hgr.below.cell (p := ⟨d1, 0, none⟩) l1).trans h1
  have k2 := (hgr.below.cell (p := ⟨d2, 0, none⟩) l2).trans h2
  have e1 := Nat.lt_of_lt_of_le l1 hgr.below.size
  have e2 := Nat.lt_of_lt_of_le l2 hgr.below.size
  clear hsz h1 h2 l1 l2
  generalize World.alloc (World.alloc W _) _ = V at c00 c01 c02 c03 c10 c11 c12 c13 hb0 hb1 hgr k1 k2 e1 e2 ⊢
  generalize W.heap.size + 1 = b1 at c10 c11 c12 c13 hb1 ⊢
  generalize W.heap.size = b0 at c00 c01 c02 c03 hb0 ⊢
  have HGR := Lib.hid hgr
  clear hgr
  have KEEP : ∀ U, Below V.heap.size V U → (fun w' => w'.cell? ⟨b0, 0, none⟩ = some (.int .u16 x.id) ∧ w'.cell? ⟨b0, 1, none⟩ = some (.string x.name) ∧ w'.cell? ⟨b0, 2, none⟩ = some (.int .u64 x.period) ∧ w'.cell? ⟨b0, 3, none⟩ = some (.int .u64 x.duration) ∧ w'.cell? ⟨b1, 0, none⟩ = some (.int .u16 y.id) ∧ w'.cell? ⟨b1, 1, none⟩ = some (.string y.name) ∧ w'.cell? ⟨b1, 2, none⟩ = some (.int .u64 y.period) ∧ w'.cell? ⟨b1, 3, none⟩ = some (.int .u64 y.duration) ∧ w'.cell? ⟨d1, 0, none⟩ = some (.func (.func 36) #[] #[]) ∧ w'.cell? ⟨d2, 0, none⟩ = some (.func (.func 35) #[] #[])) U := fun U hU => by
    have q : ∀ b o, b < V.heap.size → U.cell? ⟨b, o, none⟩ = V.cell? ⟨b, o, none⟩ := fun b o h => hU.cell (p := ⟨b, o, none⟩) h
    exact ⟨(q _ _ hb0).trans c00, (q _ _ hb0).trans c01, (q _ _ hb0).trans c02, (q _ _ hb0).trans c03, (q _ _ hb1).trans c10, (q _ _ hb1).trans c11, (q _ _ hb1).trans c12, (q _ _ hb1).trans c13, (q _ _ e1).trans k1, (q _ _ e2).trans k2⟩
  have HKP := Lib.hid KEEP
  clear KEEP
  go_region_held3 (fun w' => w'.cell? ⟨b0, 0, none⟩ = some (.int .u16 x.id) ∧ w'.cell? ⟨b0, 1, none⟩ = some (.string x.name) ∧ w'.cell? ⟨b0, 2, none⟩ = some (.int .u64 x.period) ∧ w'.cell? ⟨b0, 3, none⟩ = some (.int .u64 x.duration) ∧ w'.cell? ⟨b1, 0, none⟩ = some (.int .u16 y.id) ∧ w'.cell? ⟨b1, 1, none⟩ = some (.string y.name) ∧ w'.cell? ⟨b1, 2, none⟩ = some (.int .u64 y.period) ∧ w'.cell? ⟨b1, 3, none⟩ = some (.int .u64 y.duration) ∧ w'.cell? ⟨d1, 0, none⟩ = some (.func (.func 36) #[] #[]) ∧ w'.cell? ⟨d2, 0, none⟩ = some (.func (.func 35) #[] #[]))
    (first | (refine HKP.out _ ?_; (repeat (first | with_reducible exact HBW.out | with_reducible exact Below.refl _ _ | with_reducible refine Below.drew ?_ | (with_reducible refine Below.alloc ?_ (by first | (simp; done) | (have hq := HBW.out.size; simp at hq ⊢; omega)) _) | (with_reducible refine Below.setCell ?_ (by first | (simp; done) | (have hq := HBW.out.size; simp at hq ⊢; omega)) _))); done) | go_keep)
    (first
    | (go_at_call 35; refine (wrapPar_ok x _).mono ?_; rintro e w' ⟨rfl, hg⟩; have HGW := Lib.hid (Grown.trans (show Grown V _ from (by repeat (first | with_reducible exact HGW.out | with_reducible exact Grown.refl _ | with_reducible refine Grown.drew ?_ | with_reducible refine Grown.alloc ?_ _))) hg); have HBW := Lib.hid HGW.out.below; clear hg)
    | (go_at_call 35; refine (wrapPar_ok y _).mono ?_; rintro e w' ⟨rfl, hg⟩; have HGW := Lib.hid (Grown.trans (show Grown V _ from (by repeat (first | with_reducible exact HGW.out | with_reducible exact Grown.refl _ | with_reducible refine Grown.drew ?_ | with_reducible refine Grown.alloc ?_ _))) hg); have HBW := Lib.hid HGW.out.below; clear hg)
    | (go_at_call 36; refine (methPar_ok x y _).mono ?_; rintro e w' ⟨rfl, hg⟩; have HGW := Lib.hid (Grown.trans (show Grown V _ from (by repeat (first | with_reducible exact HGW.out | with_reducible exact Grown.refl _ | with_reducible refine Grown.drew ?_ | with_reducible refine Grown.alloc ?_ _))) hg); have HBW := Lib.hid HGW.out.below; clear hg))
  go_wp2
  go_ret
  exact ⟨rfl, HGR.out.trans (by repeat (first | with_reducible exact HGW.out | with_reducible exact Grown.refl _ | with_reducible refine Grown.drew ?_ | with_reducible refine Grown.alloc ?_ _))⟩
end Go.Proofs.YtldchpmilknlmaaGreat
namespace Go.Proofs.YtldchpmilknlmaaGreat
open Go.RowKit Go.Sort
attribute [local go_sem] ext_cell
def cmpWin (x y : Win) : Int := orL [Lib.compareInt x.start y.start, Lib.compareInt x.len y.len, Lib.compareInt x.part y.part]
set_option maxRecDepth 100000 in
set_option maxHeartbeats 8000000 in
theorem methWin_ok (x y : Win) (W : World) : Calls Tryz.prog 40 #[.agg #[.int .u64 x.start, .int .u64 x.len, .int .u16 x.part], .agg #[.int .u64 y.start, .int .u64 y.len, .int .u16 y.part]] W fun e w' => e = .returned (.int .i64 (cmpWin x y)) ∧ Grown W w' := by
  have hu16 := cmpU16_ok
  have hu64 := cmpU64_ok
  unfold cmpWin
  generalize Lib.compareInt = cI at hu16 hu64 ⊢
  go_enter Tryz.func40, Tryz.ntmps40
  go_upto_region 1 with (fail)
  have c00 : ((W.alloc (.cells #[.int .u64 x.start, .int .u64 x.len, .int .u16 x.part] 81)).alloc (.cells #[.int .u64 y.start, .int .u64 y.len, .int .u16 y.part] 81)).cell? ⟨W.heap.size, 0, none⟩ = some (.int .u64 x.start) := by simp
  have c01 : ((W.alloc (.cells #[.int .u64 x.start, .int .u64 x.len, .int .u16 x.part] 81)).alloc (.cells #[.int .u64 y.start, .int .u64 y.len, .int .u16 y.part] 81)).cell? ⟨W.heap.size, 1, none⟩ = some (.int .u64 x.len) := by simp
  have c02 : ((W.alloc (.cells #[.int .u64 x.start, .int .u64 x.len, .int .u16 x.part] 81)).alloc (.cells #[.int .u64 y.start, .int .u64 y.len, .int .u16 y.part] 81)).cell? ⟨W.heap.size, 2, none⟩ = some (.int .u16 x.part) := by simp
  have c10 : ((W.alloc (.cells #[.int .u64 x.start, .int .u64 x.len, .int .u16 x.part] 81)).alloc (.cells #[.int .u64 y.start, .int .u64 y.len, .int .u16 y.part] 81)).cell? ⟨W.heap.size + 1, 0, none⟩ = some (.int .u64 y.start) := by simp
  have c11 : ((W.alloc (.cells #[.int .u64 x.start, .int .u64 x.len, .int .u16 x.part] 81)).alloc (.cells #[.int .u64 y.start, .int .u64 y.len, .int .u16 y.part] 81)).cell? ⟨W.heap.size + 1, 1, none⟩ = some (.int .u64 y.len) := by simp
  have c12 : ((W.alloc (.cells #[.int .u64 x.start, .int .u64 x.len, .int .u16 x.part] 81)).alloc (.cells #[.int .u64 y.start, .int .u64 y.len, .int .u16 y.part] 81)).cell? ⟨W.heap.size + 1, 2, none⟩ = some (.int .u16 y.part) := by simp
  have hsz : ((W.alloc (.cells #[.int .u64 x.start, .int .u64 x.len, .int .u16 x.part] 81)).alloc (.cells #[.int .u64 y.start, .int .u64 y.len, .int .u16 y.part] 81)).heap.size = W.heap.size + 2 := by simp
  have hgr : Grown W ((W.alloc (.cells #[.int .u64 x.start, .int .u64 x.len, .int .u16 x.part] 81)).alloc (.cells #[.int .u64 y.start, .int .u64 y.len, .int .u16 y.part] 81)) := ((Grown.refl W).alloc _).alloc _
  have hb0 : W.heap.size < ((W.alloc (.cells #[.int .u64 x.start, .int .u64 x.len, .int .u16 x.part] 81)).alloc (.cells #[.int .u64 y.start, .int .u64 y.len, .int .u16 y.part] 81)).heap.size := by rw [hsz]; omega
  have hb1 : W.heap.size + 1 < ((W.alloc (.cells #[.int .u64 x.start, .int .u64 x.len, .int .u16 x.part] 81)).alloc (.cells #[.int .u64 y.start, .int .u64 y.len, .int .u16 y.part] 81)).heap.size := by rw [hsz]; omega
  clear hsz
  generalize World.alloc (World.alloc W _) _ = V at c00 c01 c02 c10 c11 c12 hb0 hb1 hgr ⊢
  generalize W.heap.size + 1 = b1 at c10 c11 c12 hb1 ⊢
  generalize W.heap.size = b0 at c00 c01 c02 hb0 ⊢
  have HGR := Lib.hid hgr
  clear hgr
  have KEEP : ∀ U, Below V.heap.size V U → (fun w' => w'.cell? ⟨b0, 0, none⟩ = some (.int .u64 x.start) ∧ w'.cell? ⟨b0, 1, none⟩ = some (.int .u64 x.len) ∧ w'.cell? ⟨b0, 2, none⟩ = some (.int .u16 x.part) ∧ w'.cell? ⟨b1, 0, none⟩ = some (.int .u64 y.start) ∧ w'.cell? ⟨b1, 1, none⟩ = some (.int .u64 y.len) ∧ w'.cell? ⟨b1, 2, none⟩ = some (.int .u16 y.part)) U := fun U hU => by
    have q : ∀ b o, b < V.heap.size → U.cell? ⟨b, o, none⟩ = V.cell? ⟨b, o, none⟩ := fun b o h => hU.cell (p := ⟨b, o, none⟩) h
    exact ⟨(q _ _ hb0).trans c00, (q _ _ hb0).trans c01, (q _ _ hb0).trans c02, (q _ _ hb1).trans c10, (q _ _ hb1).trans c11, (q _ _ hb1).trans c12⟩
  have HKP := Lib.hid KEEP
  clear KEEP
  go_region_held3 (fun w' => w'.cell? ⟨b0, 0, none⟩ = some (.int .u64 x.start) ∧ w'.cell? ⟨b0, 1, none⟩ = some (.int .u64 x.len) ∧ w'.cell? ⟨b0, 2, none⟩ = some (.int .u16 x.part) ∧ w'.cell? ⟨b1, 0, none⟩ = some (.int .u64 y.start) ∧ w'.cell? ⟨b1, 1, none⟩ = some (.int .u64 y.len) ∧ w'.cell? ⟨b1, 2, none⟩ = some (.int .u16 y.part))
    (first | (refine HKP.out _ ?_; (repeat (first | with_reducible exact HBW.out | with_reducible exact Below.refl _ _ | with_reducible refine Below.drew ?_ | (with_reducible refine Below.alloc ?_ (by first | (simp; done) | (have hq := HBW.out.size; simp at hq ⊢; omega)) _) | (with_reducible refine Below.setCell ?_ (by first | (simp; done) | (have hq := HBW.out.size; simp at hq ⊢; omega)) _))); done) | go_keep)
    (first
    | (go_at_call 84; refine (hu16 _ _ _).mono ?_; rintro e w' ⟨rfl, rfl⟩)
    | (go_at_call 86; refine (hu64 _ _ _).mono ?_; rintro e w' ⟨rfl, rfl⟩)
    | (go_at_call 83; refine (orNew [cI x.start y.start, cI x.len y.len, cI x.part y.part] _ 3 rfl rfl (by simp) _ _ _ rfl (by simp)).mono ?_; rintro e w' ⟨rfl, rfl⟩))
  go_wp2
  go_ret
  refine ⟨rfl, ?_⟩
  have g := HGR.out
  repeat (first | exact g | refine Grown.drew ?_ | refine Grown.alloc ?_ _)
theorem wrapWin_ok (x : Win) (W : World) : Calls Tryz.prog 39 #[.agg #[.int .u64 x.start, .int .u64 x.len, .int .u16 x.part]] W fun e w' => e = .returned (.agg #[.int .u64 x.start, .int .u64 x.len, .int .u16 x.part]) ∧ Grown W w' := by
  go_enter Tryz.func39, Tryz.ntmps39
  go_wp2
  refine bodyPost_ret (v := .agg #[.int .u64 x.start, .int .u64 x.len, .int .u16 x.part]) (by simp [results, Tryz.results39, go_sem]) rfl ⟨rfl, ?_⟩
  repeat (first | exact Grown.refl _ | refine Grown.drew ?_ | refine Grown.alloc ?_ _)
set_option maxRecDepth 100000 in
set_option maxHeartbeats 8000000 in
theorem closWin_ok (x y : Win) (d1 d2 : Nat) (W : World) (h1 : W.cell? ⟨d1, 0, none⟩ = some (.func (.func 40) #[] #[])) (h2 : W.cell? ⟨d2, 0, none⟩ = some (.func (.func 39) #[] #[])) (l1 : d1 < W.heap.size) (l2 : d2 < W.heap.size) :
    Calls Tryz.prog 89 #[.agg #[.int .u64 x.start, .int .u64 x.len, .int .u16 x.part], .agg #[.int .u64 y.start, .int .u64 y.len, .int .u16 y.part], .pointer (some ⟨d1, 0, none⟩), .pointer (some ⟨d2, 0, none⟩)] W fun e w' => e = .returned (.int .i64 (cmpWin x y)) ∧ Grown W w' := by
  have hent1 : ∀ a w, (callFunc 40 a).run Tryz.prog w = .ok (.enter 40 a) w := enters_of Tryz.func40 (by kernel_rfl) rfl
  have hent2 : ∀ a w, (callFunc 39 a).run Tryz.prog w = .ok (.enter 39 a) w := enters_of Tryz.func39 (by kernel_rfl) rfl
  go_enter Tryz.func89, Tryz.ntmps89
  go_upto_region 1 with (fail)
  have c00 : ((W.alloc (.cells #[.int .u64 x.start, .int .u64 x.len, .int .u16 x.part] 38)).alloc (.cells #[.int .u64 y.start, .int .u64 y.len, .int .u16 y.part] 38)).cell? ⟨W.heap.size, 0, none⟩ = some (.int .u64 x.start) := by simp
  have c01 : ((W.alloc (.cells #[.int .u64 x.start, .int .u64 x.len, .int .u16 x.part] 38)).alloc (.cells #[.int .u64 y.start, .int .u64 y.len, .int .u16 y.part] 38)).cell? ⟨W.heap.size, 1, none⟩ = some (.int .u64 x.len) := by simp
  have c02 : ((W.alloc (.cells #[.int .u64 x.start, .int .u64 x.len, .int .u16 x.part] 38)).alloc (.cells #[.int .u64 y.start, .int .u64 y.len, .int .u16 y.part] 38)).cell? ⟨W.heap.size, 2, none⟩ = some (.int .u16 x.part) := by simp
  have c10 : ((W.alloc (.cells #[.int .u64 x.start, .int .u64 x.len, .int .u16 x.part] 38)).alloc (.cells #[.int .u64 y.start, .int .u64 y.len, .int .u16 y.part] 38)).cell? ⟨W.heap.size + 1, 0, none⟩ = some (.int .u64 y.start) := by simp
  have c11 : ((W.alloc (.cells #[.int .u64 x.start, .int .u64 x.len, .int .u16 x.part] 38)).alloc (.cells #[.int .u64 y.start, .int .u64 y.len, .int .u16 y.part] 38)).cell? ⟨W.heap.size + 1, 1, none⟩ = some (.int .u64 y.len) := by simp
  have c12 : ((W.alloc (.cells #[.int .u64 x.start, .int .u64 x.len, .int .u16 x.part] 38)).alloc (.cells #[.int .u64 y.start, .int .u64 y.len, .int .u16 y.part] 38)).cell? ⟨W.heap.size + 1, 2, none⟩ = some (.int .u16 y.part) := by simp
  have hsz : ((W.alloc (.cells #[.int .u64 x.start, .int .u64 x.len, .int .u16 x.part] 38)).alloc (.cells #[.int .u64 y.start, .int .u64 y.len, .int .u16 y.part] 38)).heap.size = W.heap.size + 2 := by simp
  have hgr : Grown W ((W.alloc (.cells #[.int .u64 x.start, .int .u64 x.len, .int .u16 x.part] 38)).alloc (.cells #[.int .u64 y.start, .int .u64 y.len, .int .u16 y.part] 38)) := ((Grown.refl W).alloc _).alloc _
  have hb0 : W.heap.size < ((W.alloc (.cells #[.int .u64 x.start, .int .u64 x.len, .int .u16 x.part] 38)).alloc (.cells #[.int .u64 y.start, .int .u64 y.len, .int .u16 y.part] 38)).heap.size := by rw [hsz]; omega
  have hb1 : W.heap.size + 1 < ((W.alloc (.cells #[.int .u64 x.start, .int .u64 x.len, .int .u16 x.part] 38)).alloc (.cells #[.int .u64 y.start, .int .u64 y.len, .int .u16 y.part] 38)).heap.size := by rw [hsz]; omega
  have k1 := (hgr.below.cell (p := ⟨d1, 0, none⟩) l1).trans h1
  have k2 := (hgr.below.cell (p := ⟨d2, 0, none⟩) l2).trans h2
  have e1 := Nat.lt_of_lt_of_le l1 hgr.below.size
  have e2 := Nat.lt_of_lt_of_le l2 hgr.below.size
  clear hsz h1 h2 l1 l2
  generalize World.alloc (World.alloc W _) _ = V at c00 c01 c02 c10 c11 c12 hb0 hb1 hgr k1 k2 e1 e2 ⊢
  generalize W.heap.size + 1 = b1 at c10 c11 c12 hb1 ⊢
  generalize W.heap.size = b0 at c00 c01 c02 hb0 ⊢
  have HGR := Lib.hid hgr
  clear hgr
  have KEEP : ∀ U, Below V.heap.size V U → (fun w' => w'.cell? ⟨b0, 0, none⟩ = some (.int .u64 x.start) ∧ w'.cell? ⟨b0, 1, none⟩ = some (.int .u64 x.len) ∧ w'.cell? ⟨b0, 2, none⟩ = some (.int .u16 x.part) ∧ w'.cell? ⟨b1, 0, none⟩ = some (.int .u64 y.start) ∧ w'.cell? ⟨b1, 1, none⟩ = some (.int .u64 y.len) ∧ w'.cell? ⟨b1, 2, none⟩ = some (.int .u16 y.part) ∧ w'.cell? ⟨d1, 0, none⟩ = some (.func (.func 40) #[] #[]) ∧ w'.cell? ⟨d2, 0, none⟩ = some (.func (.func 39) #[] #[])) U := fun U hU => by
    have q : ∀ b o, b < V.heap.size → U.cell? ⟨b, o, none⟩ = V.cell? ⟨b, o, none⟩ := fun b o h => hU.cell (p := ⟨b, o, none⟩) h
    exact ⟨(q _ _ hb0).trans c00, (q _ _ hb0).trans c01, (q _ _ hb0).trans c02, (q _ _ hb1).trans c10, (q _ _ hb1).trans c11, (q _ _ hb1).trans c12, (q _ _ e1).trans k1, (q _ _ e2).trans k2⟩
  have HKP := Lib.hid KEEP
  clear KEEP
  go_region_held3 (fun w' => w'.cell? ⟨b0, 0, none⟩ = some (.int .u64 x.start) ∧ w'.cell? ⟨b0, 1, none⟩ = some (.int .u64 x.len) ∧ w'.cell? ⟨b0, 2, none⟩ = some (.int .u16 x.part) ∧ w'.cell? ⟨b1, 0, none⟩ = some (.int .u64 y.start) ∧ w'.cell? ⟨b1, 1, none⟩ = some (.int .u64 y.len) ∧ w'.cell? ⟨b1, 2, none⟩ = some (.int .u16 y.part) ∧ w'.cell? ⟨d1, 0, none⟩ = some (.func (.func 40) #[] #[]) ∧ w'.cell? ⟨d2, 0, none⟩ = some (.func (.func 39) #[] #[]))
    (first | (refine HKP.out _ ?_; (repeat (first | with_reducible exact HBW.out | with_reducible exact Below.refl _ _ | with_reducible refine Below.drew ?_ | (with_reducible refine Below.alloc ?_ (by first | (simp; done) | (have hq := HBW.out.size; simp at hq ⊢; omega)) _) | (with_reducible refine Below.setCell ?_ (by first | (simp; done) | (have hq := HBW.out.size; simp at hq ⊢; omega)) _))); done) | go_keep)
    (first
    | (go_at_call 39; refine (wrapWin_ok x _).mono ?_; rintro e w' ⟨rfl, hg⟩; have HGW := Lib.hid (Grown.trans (show Grown V _ from (by repeat (first | with_reducible exact HGW.out | with_reducible exact Grown.refl _ | with_reducible refine Grown.drew ?_ | with_reducible refine Grown.alloc ?_ _))) hg); have HBW := Lib.hid HGW.out.below; clear hg)
    | (go_at_call 39; refine (wrapWin_ok y _).mono ?_; rintro e w' ⟨rfl, hg⟩; have HGW := Lib.hid (Grown.trans (show Grown V _ from (by repeat (first | with_reducible exact HGW.out | with_reducible exact Grown.refl _ | with_reducible refine Grown.drew ?_ | with_reducible refine Grown.alloc ?_ _))) hg); have HBW := Lib.hid HGW.out.below; clear hg)
    | (go_at_call 40; refine (methWin_ok x y _).mono ?_; rintro e w' ⟨rfl, hg⟩; have HGW := Lib.hid (Grown.trans (show Grown V _ from (by repeat (first | with_reducible exact HGW.out | with_reducible exact Grown.refl _ | with_reducible refine Grown.drew ?_ | with_reducible refine Grown.alloc ?_ _))) hg); have HBW := Lib.hid HGW.out.below; clear hg))
  go_wp2
  go_ret
  exact ⟨rfl, HGR.out.trans (by repeat (first | with_reducible exact HGW.out | with_reducible exact Grown.refl _ | with_reducible refine Grown.drew ?_ | with_reducible refine Grown.alloc ?_ _))⟩
end Go.Proofs.YtldchpmilknlmaaGreat
namespace Go.Proofs.YtldchpmilknlmaaGreat
open Go.RowKit Go.Sort
attribute [local go_sem] ext_cell
def cmpReg (x y : Reg) : Int := orL [Lib.compareInt x.base y.base, Lib.compareInt x.size y.size, Lib.compareInt x.part y.part, Lib.compareInt x.rights y.rights, flagI x.shared y.shared]
set_option maxRecDepth 100000 in
set_option maxHeartbeats 8000000 in
theorem methReg_ok (x y : Reg) (W : World) : Calls Tryz.prog 44 #[.agg #[.int .u64 x.base, .int .u64 x.size, .int .u16 x.part, .int .u8 x.rights, .bool x.shared], .agg #[.int .u64 y.base, .int .u64 y.size, .int .u16 y.part, .int .u8 y.rights, .bool y.shared]] W fun e w' => e = .returned (.int .i64 (cmpReg x y)) ∧ Grown W w' := by
  have hbool := flag_ok
  have hu16 := cmpU16_ok
  have hu64 := cmpU64_ok
  have hu8 := cmpU8_ok
  unfold cmpReg
  generalize Lib.compareInt = cI at hu16 hu64 hu8 ⊢
  generalize flagI = fI at hbool ⊢
  go_enter Tryz.func44, Tryz.ntmps44
  go_upto_region 1 with (fail)
  have c00 : ((W.alloc (.cells #[.int .u64 x.base, .int .u64 x.size, .int .u16 x.part, .int .u8 x.rights, .bool x.shared] 89)).alloc (.cells #[.int .u64 y.base, .int .u64 y.size, .int .u16 y.part, .int .u8 y.rights, .bool y.shared] 89)).cell? ⟨W.heap.size, 0, none⟩ = some (.int .u64 x.base) := by simp
  have c01 : ((W.alloc (.cells #[.int .u64 x.base, .int .u64 x.size, .int .u16 x.part, .int .u8 x.rights, .bool x.shared] 89)).alloc (.cells #[.int .u64 y.base, .int .u64 y.size, .int .u16 y.part, .int .u8 y.rights, .bool y.shared] 89)).cell? ⟨W.heap.size, 1, none⟩ = some (.int .u64 x.size) := by simp
  have c02 : ((W.alloc (.cells #[.int .u64 x.base, .int .u64 x.size, .int .u16 x.part, .int .u8 x.rights, .bool x.shared] 89)).alloc (.cells #[.int .u64 y.base, .int .u64 y.size, .int .u16 y.part, .int .u8 y.rights, .bool y.shared] 89)).cell? ⟨W.heap.size, 2, none⟩ = some (.int .u16 x.part) := by simp
  have c03 : ((W.alloc (.cells #[.int .u64 x.base, .int .u64 x.size, .int .u16 x.part, .int .u8 x.rights, .bool x.shared] 89)).alloc (.cells #[.int .u64 y.base, .int .u64 y.size, .int .u16 y.part, .int .u8 y.rights, .bool y.shared] 89)).cell? ⟨W.heap.size, 3, none⟩ = some (.int .u8 x.rights) := by simp
  have c04 : ((W.alloc (.cells #[.int .u64 x.base, .int .u64 x.size, .int .u16 x.part, .int .u8 x.rights, .bool x.shared] 89)).alloc (.cells #[.int .u64 y.base, .int .u64 y.size, .int .u16 y.part, .int .u8 y.rights, .bool y.shared] 89)).cell? ⟨W.heap.size, 4, none⟩ = some (.bool x.shared) := by simp
  have c10 : ((W.alloc (.cells #[.int .u64 x.base, .int .u64 x.size, .int .u16 x.part, .int .u8 x.rights, .bool x.shared] 89)).alloc (.cells #[.int .u64 y.base, .int .u64 y.size, .int .u16 y.part, .int .u8 y.rights, .bool y.shared] 89)).cell? ⟨W.heap.size + 1, 0, none⟩ = some (.int .u64 y.base) := by simp
  have c11 : ((W.alloc (.cells #[.int .u64 x.base, .int .u64 x.size, .int .u16 x.part, .int .u8 x.rights, .bool x.shared] 89)).alloc (.cells #[.int .u64 y.base, .int .u64 y.size, .int .u16 y.part, .int .u8 y.rights, .bool y.shared] 89)).cell? ⟨W.heap.size + 1, 1, none⟩ = some (.int .u64 y.size) := by simp
  have c12 : ((W.alloc (.cells #[.int .u64 x.base, .int .u64 x.size, .int .u16 x.part, .int .u8 x.rights, .bool x.shared] 89)).alloc (.cells #[.int .u64 y.base, .int .u64 y.size, .int .u16 y.part, .int .u8 y.rights, .bool y.shared] 89)).cell? ⟨W.heap.size + 1, 2, none⟩ = some (.int .u16 y.part) := by simp
  have c13 : ((W.alloc (.cells #[.int .u64 x.base, .int .u64 x.size, .int .u16 x.part, .int .u8 x.rights, .bool x.shared] 89)).alloc (.cells #[.int .u64 y.base, .int .u64 y.size, .int .u16 y.part, .int .u8 y.rights, .bool y.shared] 89)).cell? ⟨W.heap.size + 1, 3, none⟩ = some (.int .u8 y.rights) := by simp
  have c14 : ((W.alloc (.cells #[.int .u64 x.base, .int .u64 x.size, .int .u16 x.part, .int .u8 x.rights, .bool x.shared] 89)).alloc (.cells #[.int .u64 y.base, .int .u64 y.size, .int .u16 y.part, .int .u8 y.rights, .bool y.shared] 89)).cell? ⟨W.heap.size + 1, 4, none⟩ = some (.bool y.shared) := by simp
  have hsz : ((W.alloc (.cells #[.int .u64 x.base, .int .u64 x.size, .int .u16 x.part, .int .u8 x.rights, .bool x.shared] 89)).alloc (.cells #[.int .u64 y.base, .int .u64 y.size, .int .u16 y.part, .int .u8 y.rights, .bool y.shared] 89)).heap.size = W.heap.size + 2 := by simp
  have hgr : Grown W ((W.alloc (.cells #[.int .u64 x.base, .int .u64 x.size, .int .u16 x.part, .int .u8 x.rights, .bool x.shared] 89)).alloc (.cells #[.int .u64 y.base, .int .u64 y.size, .int .u16 y.part, .int .u8 y.rights, .bool y.shared] 89)) := ((Grown.refl W).alloc _).alloc _
  have hb0 : W.heap.size < ((W.alloc (.cells #[.int .u64 x.base, .int .u64 x.size, .int .u16 x.part, .int .u8 x.rights, .bool x.shared] 89)).alloc (.cells #[.int .u64 y.base, .int .u64 y.size, .int .u16 y.part, .int .u8 y.rights, .bool y.shared] 89)).heap.size := by rw [hsz]; omega
  have hb1 : W.heap.size + 1 < ((W.alloc (.cells #[.int .u64 x.base, .int .u64 x.size, .int .u16 x.part, .int .u8 x.rights, .bool x.shared] 89)).alloc (.cells #[.int .u64 y.base, .int .u64 y.size, .int .u16 y.part, .int .u8 y.rights, .bool y.shared] 89)).heap.size := by rw [hsz]; omega
  clear hsz
  generalize World.alloc (World.alloc W _) _ = V at c00 c01 c02 c03 c04 c10 c11 c12 c13 c14 hb0 hb1 hgr ⊢
  generalize W.heap.size + 1 = b1 at c10 c11 c12 c13 c14 hb1 ⊢
  generalize W.heap.size = b0 at c00 c01 c02 c03 c04 hb0 ⊢
  have HGR := Lib.hid hgr
  clear hgr
  have KEEP : ∀ U, Below V.heap.size V U → (fun w' => w'.cell? ⟨b0, 0, none⟩ = some (.int .u64 x.base) ∧ w'.cell? ⟨b0, 1, none⟩ = some (.int .u64 x.size) ∧ w'.cell? ⟨b0, 2, none⟩ = some (.int .u16 x.part) ∧ w'.cell? ⟨b0, 3, none⟩ = some (.int .u8 x.rights) ∧ w'.cell? ⟨b0, 4, none⟩ = some (.bool x.shared) ∧ w'.cell? ⟨b1, 0, none⟩ = some (.int .u64 y.base) ∧ w'.cell? ⟨b1, 1, none⟩ = some (.int .u64 y.size) ∧ w'.cell? ⟨b1, 2, none⟩ = some (.int .u16 y.part) ∧ w'.cell? ⟨b1, 3, none⟩ = some (.int .u8 y.rights) ∧ w'.cell? ⟨b1, 4, none⟩ = some (.bool y.shared)) U := fun U hU => by
    have q : ∀ b o, b < V.heap.size → U.cell? ⟨b, o, none⟩ = V.cell? ⟨b, o, none⟩ := fun b o h => hU.cell (p := ⟨b, o, none⟩) h
    exact ⟨(q _ _ hb0).trans c00, (q _ _ hb0).trans c01, (q _ _ hb0).trans c02, (q _ _ hb0).trans c03, (q _ _ hb0).trans c04, (q _ _ hb1).trans c10, (q _ _ hb1).trans c11, (q _ _ hb1).trans c12, (q _ _ hb1).trans c13, (q _ _ hb1).trans c14⟩
  have HKP := Lib.hid KEEP
  clear KEEP
  go_region_held3 (fun w' => w'.cell? ⟨b0, 0, none⟩ = some (.int .u64 x.base) ∧ w'.cell? ⟨b0, 1, none⟩ = some (.int .u64 x.size) ∧ w'.cell? ⟨b0, 2, none⟩ = some (.int .u16 x.part) ∧ w'.cell? ⟨b0, 3, none⟩ = some (.int .u8 x.rights) ∧ w'.cell? ⟨b0, 4, none⟩ = some (.bool x.shared) ∧ w'.cell? ⟨b1, 0, none⟩ = some (.int .u64 y.base) ∧ w'.cell? ⟨b1, 1, none⟩ = some (.int .u64 y.size) ∧ w'.cell? ⟨b1, 2, none⟩ = some (.int .u16 y.part) ∧ w'.cell? ⟨b1, 3, none⟩ = some (.int .u8 y.rights) ∧ w'.cell? ⟨b1, 4, none⟩ = some (.bool y.shared))
    (first | (refine HKP.out _ ?_; (repeat (first | with_reducible exact HBW.out | with_reducible exact Below.refl _ _ | with_reducible refine Below.drew ?_ | (with_reducible refine Below.alloc ?_ (by first | (simp; done) | (have hq := HBW.out.size; simp at hq ⊢; omega)) _) | (with_reducible refine Below.setCell ?_ (by first | (simp; done) | (have hq := HBW.out.size; simp at hq ⊢; omega)) _))); done) | go_keep)
    (first
    | (go_at_call 94; refine (hbool _ _ _).mono ?_; rintro e w' ⟨rfl, rfl⟩)
    | (go_at_call 84; refine (hu16 _ _ _).mono ?_; rintro e w' ⟨rfl, rfl⟩)
    | (go_at_call 86; refine (hu64 _ _ _).mono ?_; rintro e w' ⟨rfl, rfl⟩)
    | (go_at_call 93; refine (hu8 _ _ _).mono ?_; rintro e w' ⟨rfl, rfl⟩)
    | (go_at_call 83; refine (orNew [cI x.base y.base, cI x.size y.size, cI x.part y.part, cI x.rights y.rights, fI x.shared y.shared] _ 5 rfl rfl (by simp) _ _ _ rfl (by simp)).mono ?_; rintro e w' ⟨rfl, rfl⟩))
  go_wp2
  go_ret
  refine ⟨rfl, ?_⟩
  have g := HGR.out
  repeat (first | exact g | refine Grown.drew ?_ | refine Grown.alloc ?_ _)
theorem wrapReg_ok (x : Reg) (W : World) : Calls Tryz.prog 43 #[.agg #[.int .u64 x.base, .int .u64 x.size, .int .u16 x.part, .int .u8 x.rights, .bool x.shared]] W fun e w' => e = .returned (.agg #[.int .u64 x.base, .int .u64 x.size, .int .u16 x.part, .int .u8 x.rights, .bool x.shared]) ∧ Grown W w' := by
  go_enter Tryz.func43, Tryz.ntmps43
  go_wp2
  refine bodyPost_ret (v := .agg #[.int .u64 x.base, .int .u64 x.size, .int .u16 x.part, .int .u8 x.rights, .bool x.shared]) (by simp [results, Tryz.results43, go_sem]) rfl ⟨rfl, ?_⟩
  repeat (first | exact Grown.refl _ | refine Grown.drew ?_ | refine Grown.alloc ?_ _)
set_option maxRecDepth 100000 in
set_option maxHeartbeats 8000000 in
theorem closReg_ok (x y : Reg) (d1 d2 : Nat) (W : World) (h1 : W.cell? ⟨d1, 0, none⟩ = some (.func (.func 44) #[] #[])) (h2 : W.cell? ⟨d2, 0, none⟩ = some (.func (.func 43) #[] #[])) (l1 : d1 < W.heap.size) (l2 : d2 < W.heap.size) :
    Calls Tryz.prog 92 #[.agg #[.int .u64 x.base, .int .u64 x.size, .int .u16 x.part, .int .u8 x.rights, .bool x.shared], .agg #[.int .u64 y.base, .int .u64 y.size, .int .u16 y.part, .int .u8 y.rights, .bool y.shared], .pointer (some ⟨d1, 0, none⟩), .pointer (some ⟨d2, 0, none⟩)] W fun e w' => e = .returned (.int .i64 (cmpReg x y)) ∧ Grown W w' := by
  have hent1 : ∀ a w, (callFunc 44 a).run Tryz.prog w = .ok (.enter 44 a) w := enters_of Tryz.func44 (by kernel_rfl) rfl
  have hent2 : ∀ a w, (callFunc 43 a).run Tryz.prog w = .ok (.enter 43 a) w := enters_of Tryz.func43 (by kernel_rfl) rfl
  go_enter Tryz.func92, Tryz.ntmps92
  go_upto_region 1 with (fail)
  have c00 : ((W.alloc (.cells #[.int .u64 x.base, .int .u64 x.size, .int .u16 x.part, .int .u8 x.rights, .bool x.shared] 40)).alloc (.cells #[.int .u64 y.base, .int .u64 y.size, .int .u16 y.part, .int .u8 y.rights, .bool y.shared] 40)).cell? ⟨W.heap.size, 0, none⟩ = some (.int .u64 x.base) := by simp
  have c01 : ((W.alloc (.cells #[.int .u64 x.base, .int .u64 x.size, .int .u16 x.part, .int .u8 x.rights, .bool x.shared] 40)).alloc (.cells #[.int .u64 y.base, .int .u64 y.size, .int .u16 y.part, .int .u8 y.rights, .bool y.shared] 40)).cell? ⟨W.heap.size, 1, none⟩ = some (.int .u64 x.size) := by simp
  have c02 : ((W.alloc (.cells #[.int .u64 x.base, .int .u64 x.size, .int .u16 x.part, .int .u8 x.rights, .bool x.shared] 40)).alloc (.cells #[.int .u64 y.base, .int .u64 y.size, .int .u16 y.part, .int .u8 y.rights, .bool y.shared] 40)).cell? ⟨W.heap.size, 2, none⟩ = some (.int .u16 x.part) := by simp
  have c03 : ((W.alloc (.cells #[.int .u64 x.base, .int .u64 x.size, .int .u16 x.part, .int .u8 x.rights, .bool x.shared] 40)).alloc (.cells #[.int .u64 y.base, .int .u64 y.size, .int .u16 y.part, .int .u8 y.rights, .bool y.shared] 40)).cell? ⟨W.heap.size, 3, none⟩ = some (.int .u8 x.rights) := by simp
  have c04 : ((W.alloc (.cells #[.int .u64 x.base, .int .u64 x.size, .int .u16 x.part, .int .u8 x.rights, .bool x.shared] 40)).alloc (.cells #[.int .u64 y.base, .int .u64 y.size, .int .u16 y.part, .int .u8 y.rights, .bool y.shared] 40)).cell? ⟨W.heap.size, 4, none⟩ = some (.bool x.shared) := by simp
  have c10 : ((W.alloc (.cells #[.int .u64 x.base, .int .u64 x.size, .int .u16 x.part, .int .u8 x.rights, .bool x.shared] 40)).alloc (.cells #[.int .u64 y.base, .int .u64 y.size, .int .u16 y.part, .int .u8 y.rights, .bool y.shared] 40)).cell? ⟨W.heap.size + 1, 0, none⟩ = some (.int .u64 y.base) := by simp
  have c11 : ((W.alloc (.cells #[.int .u64 x.base, .int .u64 x.size, .int .u16 x.part, .int .u8 x.rights, .bool x.shared] 40)).alloc (.cells #[.int .u64 y.base, .int .u64 y.size, .int .u16 y.part, .int .u8 y.rights, .bool y.shared] 40)).cell? ⟨W.heap.size + 1, 1, none⟩ = some (.int .u64 y.size) := by simp
  have c12 : ((W.alloc (.cells #[.int .u64 x.base, .int .u64 x.size, .int .u16 x.part, .int .u8 x.rights, .bool x.shared] 40)).alloc (.cells #[.int .u64 y.base, .int .u64 y.size, .int .u16 y.part, .int .u8 y.rights, .bool y.shared] 40)).cell? ⟨W.heap.size + 1, 2, none⟩ = some (.int .u16 y.part) := by simp
  have c13 : ((W.alloc (.cells #[.int .u64 x.base, .int .u64 x.size, .int .u16 x.part, .int .u8 x.rights, .bool x.shared] 40)).alloc (.cells #[.int .u64 y.base, .int .u64 y.size, .int .u16 y.part, .int .u8 y.rights, .bool y.shared] 40)).cell? ⟨W.heap.size + 1, 3, none⟩ = some (.int .u8 y.rights) := by simp
  have c14 : ((W.alloc (.cells #[.int .u64 x.base, .int .u64 x.size, .int .u16 x.part, .int .u8 x.rights, .bool x.shared] 40)).alloc (.cells #[.int .u64 y.base, .int .u64 y.size, .int .u16 y.part, .int .u8 y.rights, .bool y.shared] 40)).cell? ⟨W.heap.size + 1, 4, none⟩ = some (.bool y.shared) := by simp
  have hsz : ((W.alloc (.cells #[.int .u64 x.base, .int .u64 x.size, .int .u16 x.part, .int .u8 x.rights, .bool x.shared] 40)).alloc (.cells #[.int .u64 y.base, .int .u64 y.size, .int .u16 y.part, .int .u8 y.rights, .bool y.shared] 40)).heap.size = W.heap.size + 2 := by simp
  have hgr : Grown W ((W.alloc (.cells #[.int .u64 x.base, .int .u64 x.size, .int .u16 x.part, .int .u8 x.rights, .bool x.shared] 40)).alloc (.cells #[.int .u64 y.base, .int .u64 y.size, .int .u16 y.part, .int .u8 y.rights, .bool y.shared] 40)) := ((Grown.refl W).alloc _).alloc _
  have hb0 : W.heap.size < ((W.alloc (.cells #[.int .u64 x.base, .int .u64 x.size, .int .u16 x.part, .int .u8 x.rights, .bool x.shared] 40)).alloc (.cells #[.int .u64 y.base, .int .u64 y.size, .int .u16 y.part, .int .u8 y.rights, .bool y.shared] 40)).heap.size := by rw [hsz]; omega
  have hb1 : W.heap.size + 1 < ((W.alloc (.cells #[.int .u64 x.base, .int .u64 x.size, .int .u16 x.part, .int .u8 x.rights, .bool x.shared] 40)).alloc (.cells #[.int .u64 y.base, .int .u64 y.size, .int .u16 y.part, .int .u8 y.rights, .bool y.shared] 40)).heap.size := by rw [hsz]; omega
  have k1 := (hgr.below.cell (p := ⟨d1, 0, none⟩) l1).trans h1
  have k2 := (hgr.below.cell (p := ⟨d2, 0, none⟩) l2).trans h2
  have e1 := Nat.lt_of_lt_of_le l1 hgr.below.size
  have e2 := Nat.lt_of_lt_of_le l2 hgr.below.size
  clear hsz h1 h2 l1 l2
  generalize World.alloc (World.alloc W _) _ = V at c00 c01 c02 c03 c04 c10 c11 c12 c13 c14 hb0 hb1 hgr k1 k2 e1 e2 ⊢
  generalize W.heap.size + 1 = b1 at c10 c11 c12 c13 c14 hb1 ⊢
  generalize W.heap.size = b0 at c00 c01 c02 c03 c04 hb0 ⊢
  have HGR := Lib.hid hgr
  clear hgr
  have KEEP : ∀ U, Below V.heap.size V U → (fun w' => w'.cell? ⟨b0, 0, none⟩ = some (.int .u64 x.base) ∧ w'.cell? ⟨b0, 1, none⟩ = some (.int .u64 x.size) ∧ w'.cell? ⟨b0, 2, none⟩ = some (.int .u16 x.part) ∧ w'.cell? ⟨b0, 3, none⟩ = some (.int .u8 x.rights) ∧ w'.cell? ⟨b0, 4, none⟩ = some (.bool x.shared) ∧ w'.cell? ⟨b1, 0, none⟩ = some (.int .u64 y.base) ∧ w'.cell? ⟨b1, 1, none⟩ = some (.int .u64 y.size) ∧ w'.cell? ⟨b1, 2, none⟩ = some (.int .u16 y.part) ∧ w'.cell? ⟨b1, 3, none⟩ = some (.int .u8 y.rights) ∧ w'.cell? ⟨b1, 4, none⟩ = some (.bool y.shared) ∧ w'.cell? ⟨d1, 0, none⟩ = some (.func (.func 44) #[] #[]) ∧ w'.cell? ⟨d2, 0, none⟩ = some (.func (.func 43) #[] #[])) U := fun U hU => by
    have q : ∀ b o, b < V.heap.size → U.cell? ⟨b, o, none⟩ = V.cell? ⟨b, o, none⟩ := fun b o h => hU.cell (p := ⟨b, o, none⟩) h
    exact ⟨(q _ _ hb0).trans c00, (q _ _ hb0).trans c01, (q _ _ hb0).trans c02, (q _ _ hb0).trans c03, (q _ _ hb0).trans c04, (q _ _ hb1).trans c10, (q _ _ hb1).trans c11, (q _ _ hb1).trans c12, (q _ _ hb1).trans c13, (q _ _ hb1).trans c14, (q _ _ e1).trans k1, (q _ _ e2).trans k2⟩
  have HKP := Lib.hid KEEP
  clear KEEP
  go_region_held3 (fun w' => w'.cell? ⟨b0, 0, none⟩ = some (.int .u64 x.base) ∧ w'.cell? ⟨b0, 1, none⟩ = some (.int .u64 x.size) ∧ w'.cell? ⟨b0, 2, none⟩ = some (.int .u16 x.part) ∧ w'.cell? ⟨b0, 3, none⟩ = some (.int .u8 x.rights) ∧ w'.cell? ⟨b0, 4, none⟩ = some (.bool x.shared) ∧ w'.cell? ⟨b1, 0, none⟩ = some (.int .u64 y.base) ∧ w'.cell? ⟨b1, 1, none⟩ = some (.int .u64 y.size) ∧ w'.cell? ⟨b1, 2, none⟩ = some (.int .u16 y.part) ∧ w'.cell? ⟨b1, 3, none⟩ = some (.int .u8 y.rights) ∧ w'.cell? ⟨b1, 4, none⟩ = some (.bool y.shared) ∧ w'.cell? ⟨d1, 0, none⟩ = some (.func (.func 44) #[] #[]) ∧ w'.cell? ⟨d2, 0, none⟩ = some (.func (.func 43) #[] #[]))
    (first | (refine HKP.out _ ?_; (repeat (first | with_reducible exact HBW.out | with_reducible exact Below.refl _ _ | with_reducible refine Below.drew ?_ | (with_reducible refine Below.alloc ?_ (by first | (simp; done) | (have hq := HBW.out.size; simp at hq ⊢; omega)) _) | (with_reducible refine Below.setCell ?_ (by first | (simp; done) | (have hq := HBW.out.size; simp at hq ⊢; omega)) _))); done) | go_keep)
    (first
    | (go_at_call 43; refine (wrapReg_ok x _).mono ?_; rintro e w' ⟨rfl, hg⟩; have HGW := Lib.hid (Grown.trans (show Grown V _ from (by repeat (first | with_reducible exact HGW.out | with_reducible exact Grown.refl _ | with_reducible refine Grown.drew ?_ | with_reducible refine Grown.alloc ?_ _))) hg); have HBW := Lib.hid HGW.out.below; clear hg)
    | (go_at_call 43; refine (wrapReg_ok y _).mono ?_; rintro e w' ⟨rfl, hg⟩; have HGW := Lib.hid (Grown.trans (show Grown V _ from (by repeat (first | with_reducible exact HGW.out | with_reducible exact Grown.refl _ | with_reducible refine Grown.drew ?_ | with_reducible refine Grown.alloc ?_ _))) hg); have HBW := Lib.hid HGW.out.below; clear hg)
    | (go_at_call 44; refine (methReg_ok x y _).mono ?_; rintro e w' ⟨rfl, hg⟩; have HGW := Lib.hid (Grown.trans (show Grown V _ from (by repeat (first | with_reducible exact HGW.out | with_reducible exact Grown.refl _ | with_reducible refine Grown.drew ?_ | with_reducible refine Grown.alloc ?_ _))) hg); have HBW := Lib.hid HGW.out.below; clear hg))
  go_wp2
  go_ret
  exact ⟨rfl, HGR.out.trans (by repeat (first | with_reducible exact HGW.out | with_reducible exact Grown.refl _ | with_reducible refine Grown.drew ?_ | with_reducible refine Grown.alloc ?_ _))⟩
end Go.Proofs.YtldchpmilknlmaaGreat
namespace Go.Proofs.YtldchpmilknlmaaGreat
open Go.RowKit Go.Sort
attribute [local go_sem] ext_cell
def cmpPrt (x y : Prt) : Int := orL [Lib.compareInt x.id y.id, Lib.compareInt x.part y.part, Lib.compareBytes x.name.data.toList y.name.data.toList, flagI x.output y.output, flagI x.queuing y.queuing, Lib.compareInt x.size y.size]
set_option maxRecDepth 100000 in
set_option maxHeartbeats 8000000 in
theorem methPrt_ok (x y : Prt) (W : World) : Calls Tryz.prog 48 #[.agg #[.int .u16 x.id, .int .u16 x.part, .string x.name, .bool x.output, .bool x.queuing, .int .u32 x.size], .agg #[.int .u16 y.id, .int .u16 y.part, .string y.name, .bool y.output, .bool y.queuing, .int .u32 y.size]] W fun e w' => e = .returned (.int .i64 (cmpPrt x y)) ∧ Grown W w' := by
  have hbool := flag_ok
  have hstr := cmpStr_ok
  have hu16 := cmpU16_ok
  have hu32 := cmpU32_ok
  unfold cmpPrt
  generalize Lib.compareInt = cI at hu16 hu32 ⊢
  generalize Lib.compareBytes = cB at hstr ⊢
  generalize flagI = fI at hbool ⊢
  go_enter Tryz.func48, Tryz.ntmps48
  go_upto_region 1 with (fail)
  have c00 : ((W.alloc (.cells #[.int .u16 x.id, .int .u16 x.part, .string x.name, .bool x.output, .bool x.queuing, .int .u32 x.size] 97)).alloc (.cells #[.int .u16 y.id, .int .u16 y.part, .string y.name, .bool y.output, .bool y.queuing, .int .u32 y.size] 97)).cell? ⟨W.heap.size, 0, none⟩ = some (.int .u16 x.id) := by simp
  have c01 : ((W.alloc (.cells #[.int .u16 x.id, .int .u16 x.part, .string x.name, .bool x.output, .bool x.queuing, .int .u32 x.size] 97)).alloc (.cells #[.int .u16 y.id, .int .u16 y.part, .string y.name, .bool y.output, .bool y.queuing, .int .u32 y.size] 97)).cell? ⟨W.heap.size, 1, none⟩ = some (.int .u16 x.part) := by simp
  have c02 : ((W.alloc (.cells #[.int .u16 x.id, .int .u16 x.part, .string x.name, .bool x.output, .bool x.queuing, .int .u32 x.size] 97)).alloc (.cells #[.int .u16 y.id, .int .u16 y.part, .string y.name, .bool y.output, .bool y.queuing, .int .u32 y.size] 97)).cell? ⟨W.heap.size, 2, none⟩ = some (.string x.name) := by simp
  have c03 : ((W.alloc (.cells #[.int .u16 x.id, .int .u16 x.part, .string x.name, .bool x.output, .bool x.queuing, .int .u32 x.size] 97)).alloc (.cells #[.int .u16 y.id, .int .u16 y.part, .string y.name, .bool y.output, .bool y.queuing, .int .u32 y.size] 97)).cell? ⟨W.heap.size, 3, none⟩ = some (.bool x.output) := by simp
  have c04 : ((W.alloc (.cells #[.int .u16 x.id, .int .u16 x.part, .string x.name, .bool x.output, .bool x.queuing, .int .u32 x.size] 97)).alloc (.cells #[.int .u16 y.id, .int .u16 y.part, .string y.name, .bool y.output, .bool y.queuing, .int .u32 y.size] 97)).cell? ⟨W.heap.size, 4, none⟩ = some (.bool x.queuing) := by simp
  have c05 : ((W.alloc (.cells #[.int .u16 x.id, .int .u16 x.part, .string x.name, .bool x.output, .bool x.queuing, .int .u32 x.size] 97)).alloc (.cells #[.int .u16 y.id, .int .u16 y.part, .string y.name, .bool y.output, .bool y.queuing, .int .u32 y.size] 97)).cell? ⟨W.heap.size, 5, none⟩ = some (.int .u32 x.size) := by simp
  have c10 : ((W.alloc (.cells #[.int .u16 x.id, .int .u16 x.part, .string x.name, .bool x.output, .bool x.queuing, .int .u32 x.size] 97)).alloc (.cells #[.int .u16 y.id, .int .u16 y.part, .string y.name, .bool y.output, .bool y.queuing, .int .u32 y.size] 97)).cell? ⟨W.heap.size + 1, 0, none⟩ = some (.int .u16 y.id) := by simp
  have c11 : ((W.alloc (.cells #[.int .u16 x.id, .int .u16 x.part, .string x.name, .bool x.output, .bool x.queuing, .int .u32 x.size] 97)).alloc (.cells #[.int .u16 y.id, .int .u16 y.part, .string y.name, .bool y.output, .bool y.queuing, .int .u32 y.size] 97)).cell? ⟨W.heap.size + 1, 1, none⟩ = some (.int .u16 y.part) := by simp
  have c12 : ((W.alloc (.cells #[.int .u16 x.id, .int .u16 x.part, .string x.name, .bool x.output, .bool x.queuing, .int .u32 x.size] 97)).alloc (.cells #[.int .u16 y.id, .int .u16 y.part, .string y.name, .bool y.output, .bool y.queuing, .int .u32 y.size] 97)).cell? ⟨W.heap.size + 1, 2, none⟩ = some (.string y.name) := by simp
  have c13 : ((W.alloc (.cells #[.int .u16 x.id, .int .u16 x.part, .string x.name, .bool x.output, .bool x.queuing, .int .u32 x.size] 97)).alloc (.cells #[.int .u16 y.id, .int .u16 y.part, .string y.name, .bool y.output, .bool y.queuing, .int .u32 y.size] 97)).cell? ⟨W.heap.size + 1, 3, none⟩ = some (.bool y.output) := by simp
  have c14 : ((W.alloc (.cells #[.int .u16 x.id, .int .u16 x.part, .string x.name, .bool x.output, .bool x.queuing, .int .u32 x.size] 97)).alloc (.cells #[.int .u16 y.id, .int .u16 y.part, .string y.name, .bool y.output, .bool y.queuing, .int .u32 y.size] 97)).cell? ⟨W.heap.size + 1, 4, none⟩ = some (.bool y.queuing) := by simp
  have c15 : ((W.alloc (.cells #[.int .u16 x.id, .int .u16 x.part, .string x.name, .bool x.output, .bool x.queuing, .int .u32 x.size] 97)).alloc (.cells #[.int .u16 y.id, .int .u16 y.part, .string y.name, .bool y.output, .bool y.queuing, .int .u32 y.size] 97)).cell? ⟨W.heap.size + 1, 5, none⟩ = some (.int .u32 y.size) := by simp
  have hsz : ((W.alloc (.cells #[.int .u16 x.id, .int .u16 x.part, .string x.name, .bool x.output, .bool x.queuing, .int .u32 x.size] 97)).alloc (.cells #[.int .u16 y.id, .int .u16 y.part, .string y.name, .bool y.output, .bool y.queuing, .int .u32 y.size] 97)).heap.size = W.heap.size + 2 := by simp
  have hgr : Grown W ((W.alloc (.cells #[.int .u16 x.id, .int .u16 x.part, .string x.name, .bool x.output, .bool x.queuing, .int .u32 x.size] 97)).alloc (.cells #[.int .u16 y.id, .int .u16 y.part, .string y.name, .bool y.output, .bool y.queuing, .int .u32 y.size] 97)) := ((Grown.refl W).alloc _).alloc _
  have hb0 : W.heap.size < ((W.alloc (.cells #[.int .u16 x.id, .int .u16 x.part, .string x.name, .bool x.output, .bool x.queuing, .int .u32 x.size] 97)).alloc (.cells #[.int .u16 y.id, .int .u16 y.part, .string y.name, .bool y.output, .bool y.queuing, .int .u32 y.size] 97)).heap.size := by rw [hsz]; omega
  have hb1 : W.heap.size + 1 < ((W.alloc (.cells #[.int .u16 x.id, .int .u16 x.part, .string x.name, .bool x.output, .bool x.queuing, .int .u32 x.size] 97)).alloc (.cells #[.int .u16 y.id, .int .u16 y.part, .string y.name, .bool y.output, .bool y.queuing, .int .u32 y.size] 97)).heap.size := by rw [hsz]; omega
  clear hsz
  generalize World.alloc (World.alloc W _) _ = V at c00 c01 c02 c03 c04 c05 c10 c11 c12 c13 c14 c15 hb0 hb1 hgr ⊢
  generalize W.heap.size + 1 = b1 at c10 c11 c12 c13 c14 c15 hb1 ⊢
  generalize W.heap.size = b0 at c00 c01 c02 c03 c04 c05 hb0 ⊢
  have HGR := Lib.hid hgr
  clear hgr
  have KEEP : ∀ U, Below V.heap.size V U → (fun w' => w'.cell? ⟨b0, 0, none⟩ = some (.int .u16 x.id) ∧ w'.cell? ⟨b0, 1, none⟩ = some (.int .u16 x.part) ∧ w'.cell? ⟨b0, 2, none⟩ = some (.string x.name) ∧ w'.cell? ⟨b0, 3, none⟩ = some (.bool x.output) ∧ w'.cell? ⟨b0, 4, none⟩ = some (.bool x.queuing) ∧ w'.cell? ⟨b0, 5, none⟩ = some (.int .u32 x.size) ∧ w'.cell? ⟨b1, 0, none⟩ = some (.int .u16 y.id) ∧ w'.cell? ⟨b1, 1, none⟩ = some (.int .u16 y.part) ∧ w'.cell? ⟨b1, 2, none⟩ = some (.string y.name) ∧ w'.cell? ⟨b1, 3, none⟩ = some (.bool y.output) ∧ w'.cell? ⟨b1, 4, none⟩ = some (.bool y.queuing) ∧ w'.cell? ⟨b1, 5, none⟩ = some (.int .u32 y.size)) U := fun U hU => by
    have q : ∀ b o, b < V.heap.size → U.cell? ⟨b, o, none⟩ = V.cell? ⟨b, o, none⟩ := fun b o h => hU.cell (p := ⟨b, o, none⟩) h
    exact ⟨(q _ _ hb0).trans c00, (q _ _ hb0).trans c01, (q _ _ hb0).trans c02, (q _ _ hb0).trans c03, (q _ _ hb0).trans c04, (q _ _ hb0).trans c05, (q _ _ hb1).trans c10, (q _ _ hb1).trans c11, (q _ _ hb1).trans c12, (q _ _ hb1).trans c13, (q _ _ hb1).trans c14, (q _ _ hb1).trans c15⟩
  have HKP := Lib.hid KEEP
  clear KEEP
  go_region_held3 (fun w' => w'.cell? ⟨b0, 0, none⟩ = some (.int .u16 x.id) ∧ w'.cell? ⟨b0, 1, none⟩ = some (.int .u16 x.part) ∧ w'.cell? ⟨b0, 2, none⟩ = some (.string x.name) ∧ w'.cell? ⟨b0, 3, none⟩ = some (.bool x.output) ∧ w'.cell? ⟨b0, 4, none⟩ = some (.bool x.queuing) ∧ w'.cell? ⟨b0, 5, none⟩ = some (.int .u32 x.size) ∧ w'.cell? ⟨b1, 0, none⟩ = some (.int .u16 y.id) ∧ w'.cell? ⟨b1, 1, none⟩ = some (.int .u16 y.part) ∧ w'.cell? ⟨b1, 2, none⟩ = some (.string y.name) ∧ w'.cell? ⟨b1, 3, none⟩ = some (.bool y.output) ∧ w'.cell? ⟨b1, 4, none⟩ = some (.bool y.queuing) ∧ w'.cell? ⟨b1, 5, none⟩ = some (.int .u32 y.size))
    (first | (refine HKP.out _ ?_; (repeat (first | with_reducible exact HBW.out | with_reducible exact Below.refl _ _ | with_reducible refine Below.drew ?_ | (with_reducible refine Below.alloc ?_ (by first | (simp; done) | (have hq := HBW.out.size; simp at hq ⊢; omega)) _) | (with_reducible refine Below.setCell ?_ (by first | (simp; done) | (have hq := HBW.out.size; simp at hq ⊢; omega)) _))); done) | go_keep)
    (first
    | (go_at_call 94; refine (hbool _ _ _).mono ?_; rintro e w' ⟨rfl, rfl⟩)
    | (go_at_call 85; refine (hstr _ _ _).mono ?_; rintro e w' ⟨rfl, rfl⟩)
    | (go_at_call 84; refine (hu16 _ _ _).mono ?_; rintro e w' ⟨rfl, rfl⟩)
    | (go_at_call 98; refine (hu32 _ _ _).mono ?_; rintro e w' ⟨rfl, rfl⟩)
    | (go_at_call 83; refine (orNew [cI x.id y.id, cI x.part y.part, cB x.name.data.toList y.name.data.toList, fI x.output y.output, fI x.queuing y.queuing, cI x.size y.size] _ 6 rfl rfl (by simp) _ _ _ rfl (by simp)).mono ?_; rintro e w' ⟨rfl, rfl⟩))
  go_wp2
  go_ret
  refine ⟨rfl, ?_⟩
  have g := HGR.out
  repeat (first | exact g | refine Grown.drew ?_ | refine Grown.alloc ?_ _)
theorem wrapPrt_ok (x : Prt) (W : World) : Calls Tryz.prog 47 #[.agg #[.int .u16 x.id, .int .u16 x.part, .string x.name, .bool x.output, .bool x.queuing, .int .u32 x.size]] W fun e w' => e = .returned (.agg #[.int .u16 x.id, .int .u16 x.part, .string x.name, .bool x.output, .bool x.queuing, .int .u32 x.size]) ∧ Grown W w' := by
  go_enter Tryz.func47, Tryz.ntmps47
  go_wp2
  refine bodyPost_ret (v := .agg #[.int .u16 x.id, .int .u16 x.part, .string x.name, .bool x.output, .bool x.queuing, .int .u32 x.size]) (by simp [results, Tryz.results47, go_sem]) rfl ⟨rfl, ?_⟩
  repeat (first | exact Grown.refl _ | refine Grown.drew ?_ | refine Grown.alloc ?_ _)
set_option maxRecDepth 100000 in
set_option maxHeartbeats 8000000 in
theorem closPrt_ok (x y : Prt) (d1 d2 : Nat) (W : World) (h1 : W.cell? ⟨d1, 0, none⟩ = some (.func (.func 48) #[] #[])) (h2 : W.cell? ⟨d2, 0, none⟩ = some (.func (.func 47) #[] #[])) (l1 : d1 < W.heap.size) (l2 : d2 < W.heap.size) :
    Calls Tryz.prog 97 #[.agg #[.int .u16 x.id, .int .u16 x.part, .string x.name, .bool x.output, .bool x.queuing, .int .u32 x.size], .agg #[.int .u16 y.id, .int .u16 y.part, .string y.name, .bool y.output, .bool y.queuing, .int .u32 y.size], .pointer (some ⟨d1, 0, none⟩), .pointer (some ⟨d2, 0, none⟩)] W fun e w' => e = .returned (.int .i64 (cmpPrt x y)) ∧ Grown W w' := by
  have hent1 : ∀ a w, (callFunc 48 a).run Tryz.prog w = .ok (.enter 48 a) w := enters_of Tryz.func48 (by kernel_rfl) rfl
  have hent2 : ∀ a w, (callFunc 47 a).run Tryz.prog w = .ok (.enter 47 a) w := enters_of Tryz.func47 (by kernel_rfl) rfl
  go_enter Tryz.func97, Tryz.ntmps97
  go_upto_region 1 with (fail)
  have c00 : ((W.alloc (.cells #[.int .u16 x.id, .int .u16 x.part, .string x.name, .bool x.output, .bool x.queuing, .int .u32 x.size] 43)).alloc (.cells #[.int .u16 y.id, .int .u16 y.part, .string y.name, .bool y.output, .bool y.queuing, .int .u32 y.size] 43)).cell? ⟨W.heap.size, 0, none⟩ = some (.int .u16 x.id) := by simp
  have c01 : ((W.alloc (.cells #[.int .u16 x.id, .int .u16 x.part, .string x.name, .bool x.output, .bool x.queuing, .int .u32 x.size] 43)).alloc (.cells #[.int .u16 y.id, .int .u16 y.part, .string y.name, .bool y.output, .bool y.queuing, .int .u32 y.size] 43)).cell? ⟨W.heap.size, 1, none⟩ = some (.int .u16 x.part) := by simp
  have c02 : ((W.alloc (.cells #[.int .u16 x.id, .int .u16 x.part, .string x.name, .bool x.output, .bool x.queuing, .int .u32 x.size] 43)).alloc (.cells #[.int .u16 y.id, .int .u16 y.part, .string y.name, .bool y.output, .bool y.queuing, .int .u32 y.size] 43)).cell? ⟨W.heap.size, 2, none⟩ = some (.string x.name) := by simp
  have c03 : ((W.alloc (.cells #[.int .u16 x.id, .int .u16 x.part, .string x.name, .bool x.output, .bool x.queuing, .int .u32 x.size] 43)).alloc (.cells #[.int .u16 y.id, .int .u16 y.part, .string y.name, .bool y.output, .bool y.queuing, .int .u32 y.size] 43)).cell? ⟨W.heap.size, 3, none⟩ = some (.bool x.output) := by simp
  have c04 : ((W.alloc (.cells #[.int .u16 x.id, .int .u16 x.part, .string x.name, .bool x.output, .bool x.queuing, .int .u32 x.size] 43)).alloc (.cells #[.int .u16 y.id, .int .u16 y.part, .string y.name, .bool y.output, .bool y.queuing, .int .u32 y.size] 43)).cell? ⟨W.heap.size, 4, none⟩ = some (.bool x.queuing) := by simp
  have c05 : ((W.alloc (.cells #[.int .u16 x.id, .int .u16 x.part, .string x.name, .bool x.output, .bool x.queuing, .int .u32 x.size] 43)).alloc (.cells #[.int .u16 y.id, .int .u16 y.part, .string y.name, .bool y.output, .bool y.queuing, .int .u32 y.size] 43)).cell? ⟨W.heap.size, 5, none⟩ = some (.int .u32 x.size) := by simp
  have c10 : ((W.alloc (.cells #[.int .u16 x.id, .int .u16 x.part, .string x.name, .bool x.output, .bool x.queuing, .int .u32 x.size] 43)).alloc (.cells #[.int .u16 y.id, .int .u16 y.part, .string y.name, .bool y.output, .bool y.queuing, .int .u32 y.size] 43)).cell? ⟨W.heap.size + 1, 0, none⟩ = some (.int .u16 y.id) := by simp
  have c11 : ((W.alloc (.cells #[.int .u16 x.id, .int .u16 x.part, .string x.name, .bool x.output, .bool x.queuing, .int .u32 x.size] 43)).alloc (.cells #[.int .u16 y.id, .int .u16 y.part, .string y.name, .bool y.output, .bool y.queuing, .int .u32 y.size] 43)).cell? ⟨W.heap.size + 1, 1, none⟩ = some (.int .u16 y.part) := by simp
  have c12 : ((W.alloc (.cells #[.int .u16 x.id, .int .u16 x.part, .string x.name, .bool x.output, .bool x.queuing, .int .u32 x.size] 43)).alloc (.cells #[.int .u16 y.id, .int .u16 y.part, .string y.name, .bool y.output, .bool y.queuing, .int .u32 y.size] 43)).cell? ⟨W.heap.size + 1, 2, none⟩ = some (.string y.name) := by simp
  have c13 : ((W.alloc (.cells #[.int .u16 x.id, .int .u16 x.part, .string x.name, .bool x.output, .bool x.queuing, .int .u32 x.size] 43)).alloc (.cells #[.int .u16 y.id, .int .u16 y.part, .string y.name, .bool y.output, .bool y.queuing, .int .u32 y.size] 43)).cell? ⟨W.heap.size + 1, 3, none⟩ = some (.bool y.output) := by simp
  have c14 : ((W.alloc (.cells #[.int .u16 x.id, .int .u16 x.part, .string x.name, .bool x.output, .bool x.queuing, .int .u32 x.size] 43)).alloc (.cells #[.int .u16 y.id, .int .u16 y.part, .string y.name, .bool y.output, .bool y.queuing, .int .u32 y.size] 43)).cell? ⟨W.heap.size + 1, 4, none⟩ = some (.bool y.queuing) := by simp
  have c15 : ((W.alloc (.cells #[.int .u16 x.id, .int .u16 x.part, .string x.name, .bool x.output, .bool x.queuing, .int .u32 x.size] 43)).alloc (.cells #[.int .u16 y.id, .int .u16 y.part, .string y.name, .bool y.output, .bool y.queuing, .int .u32 y.size] 43)).cell? ⟨W.heap.size + 1, 5, none⟩ = some (.int .u32 y.size) := by simp
  have hsz : ((W.alloc (.cells #[.int .u16 x.id, .int .u16 x.part, .string x.name, .bool x.output, .bool x.queuing, .int .u32 x.size] 43)).alloc (.cells #[.int .u16 y.id, .int .u16 y.part, .string y.name, .bool y.output, .bool y.queuing, .int .u32 y.size] 43)).heap.size = W.heap.size + 2 := by simp
  have hgr : Grown W ((W.alloc (.cells #[.int .u16 x.id, .int .u16 x.part, .string x.name, .bool x.output, .bool x.queuing, .int .u32 x.size] 43)).alloc (.cells #[.int .u16 y.id, .int .u16 y.part, .string y.name, .bool y.output, .bool y.queuing, .int .u32 y.size] 43)) := ((Grown.refl W).alloc _).alloc _
  have hb0 : W.heap.size < ((W.alloc (.cells #[.int .u16 x.id, .int .u16 x.part, .string x.name, .bool x.output, .bool x.queuing, .int .u32 x.size] 43)).alloc (.cells #[.int .u16 y.id, .int .u16 y.part, .string y.name, .bool y.output, .bool y.queuing, .int .u32 y.size] 43)).heap.size := by rw [hsz]; omega
  have hb1 : W.heap.size + 1 < ((W.alloc (.cells #[.int .u16 x.id, .int .u16 x.part, .string x.name, .bool x.output, .bool x.queuing, .int .u32 x.size] 43)).alloc (.cells #[.int .u16 y.id, .int .u16 y.part, .string y.name, .bool y.output, .bool y.queuing, .int .u32 y.size] 43)).heap.size := by rw [hsz]; omega
  have k1 := (hgr.below.cell (p := ⟨d1, 0, none⟩) l1).trans h1
  have k2 := (hgr.below.cell (p := ⟨d2, 0, none⟩) l2).trans h2
  have e1 := Nat.lt_of_lt_of_le l1 hgr.below.size
  have e2 := Nat.lt_of_lt_of_le l2 hgr.below.size
  clear hsz h1 h2 l1 l2
  generalize World.alloc (World.alloc W _) _ = V at c00 c01 c02 c03 c04 c05 c10 c11 c12 c13 c14 c15 hb0 hb1 hgr k1 k2 e1 e2 ⊢
  generalize W.heap.size + 1 = b1 at c10 c11 c12 c13 c14 c15 hb1 ⊢
  generalize W.heap.size = b0 at c00 c01 c02 c03 c04 c05 hb0 ⊢
  have HGR := Lib.hid hgr
  clear hgr
  have KEEP : ∀ U, Below V.heap.size V U → (fun w' => w'.cell? ⟨b0, 0, none⟩ = some (.int .u16 x.id) ∧ w'.cell? ⟨b0, 1, none⟩ = some (.int .u16 x.part) ∧ w'.cell? ⟨b0, 2, none⟩ = some (.string x.name) ∧ w'.cell? ⟨b0, 3, none⟩ = some (.bool x.output) ∧ w'.cell? ⟨b0, 4, none⟩ = some (.bool x.queuing) ∧ w'.cell? ⟨b0, 5, none⟩ = some (.int .u32 x.size) ∧ w'.cell? ⟨b1, 0, none⟩ = some (.int .u16 y.id) ∧ w'.cell? ⟨b1, 1, none⟩ = some (.int .u16 y.part) ∧ w'.cell? ⟨b1, 2, none⟩ = some (.string y.name) ∧ w'.cell? ⟨b1, 3, none⟩ = some (.bool y.output) ∧ w'.cell? ⟨b1, 4, none⟩ = some (.bool y.queuing) ∧ w'.cell? ⟨b1, 5, none⟩ = some (.int .u32 y.size) ∧ w'.cell? ⟨d1, 0, none⟩ = some (.func (.func 48) #[] #[]) ∧ w'.cell? ⟨d2, 0, none⟩ = some (.func (.func 47) #[] #[])) U := fun U hU => by
    have q : ∀ b o, b < V.heap.size → U.cell? ⟨b, o, none⟩ = V.cell? ⟨b, o, none⟩ := fun b o h => hU.cell (p := ⟨b, o, none⟩) h
    exact ⟨(q _ _ hb0).trans c00, (q _ _ hb0).trans c01, (q _ _ hb0).trans c02, (q _ _ hb0).trans c03, (q _ _ hb0).trans c04, (q _ _ hb0).trans c05, (q _ _ hb1).trans c10, (q _ _ hb1).trans c11, (q _ _ hb1).trans c12, (q _ _ hb1).trans c13, (q _ _ hb1).trans c14, (q _ _ hb1).trans c15, (q _ _ e1).trans k1, (q _ _ e2).trans k2⟩
  have HKP := Lib.hid KEEP
  clear KEEP
  go_region_held3 (fun w' => w'.cell? ⟨b0, 0, none⟩ = some (.int .u16 x.id) ∧ w'.cell? ⟨b0, 1, none⟩ = some (.int .u16 x.part) ∧ w'.cell? ⟨b0, 2, none⟩ = some (.string x.name) ∧ w'.cell? ⟨b0, 3, none⟩ = some (.bool x.output) ∧ w'.cell? ⟨b0, 4, none⟩ = some (.bool x.queuing) ∧ w'.cell? ⟨b0, 5, none⟩ = some (.int .u32 x.size) ∧ w'.cell? ⟨b1, 0, none⟩ = some (.int .u16 y.id) ∧ w'.cell? ⟨b1, 1, none⟩ = some (.int .u16 y.part) ∧ w'.cell? ⟨b1, 2, none⟩ = some (.string y.name) ∧ w'.cell? ⟨b1, 3, none⟩ = some (.bool y.output) ∧ w'.cell? ⟨b1, 4, none⟩ = some (.bool y.queuing) ∧ w'.cell? ⟨b1, 5, none⟩ = some (.int .u32 y.size) ∧ w'.cell? ⟨d1, 0, none⟩ = some (.func (.func 48) #[] #[]) ∧ w'.cell? ⟨d2, 0, none⟩ = some (.func (.func 47) #[] #[]))
    (first | (refine HKP.out _ ?_; (repeat (first | with_reducible exact HBW.out | with_reducible exact Below.refl _ _ | with_reducible refine Below.drew ?_ | (with_reducible refine Below.alloc ?_ (by first | (simp; done) | (have hq := HBW.out.size; simp at hq ⊢; omega)) _) | (with_reducible refine Below.setCell ?_ (by first | (simp; done) | (have hq := HBW.out.size; simp at hq ⊢; omega)) _))); done) | go_keep)
    (first
    | (go_at_call 47; refine (wrapPrt_ok x _).mono ?_; rintro e w' ⟨rfl, hg⟩; have HGW := Lib.hid (Grown.trans (show Grown V _ from (by repeat (first | with_reducible exact HGW.out | with_reducible exact Grown.refl _ | with_reducible refine Grown.drew ?_ | with_reducible refine Grown.alloc ?_ _))) hg); have HBW := Lib.hid HGW.out.below; clear hg)
    | (go_at_call 47; refine (wrapPrt_ok y _).mono ?_; rintro e w' ⟨rfl, hg⟩; have HGW := Lib.hid (Grown.trans (show Grown V _ from (by repeat (first | with_reducible exact HGW.out | with_reducible exact Grown.refl _ | with_reducible refine Grown.drew ?_ | with_reducible refine Grown.alloc ?_ _))) hg); have HBW := Lib.hid HGW.out.below; clear hg)
    | (go_at_call 48; refine (methPrt_ok x y _).mono ?_; rintro e w' ⟨rfl, hg⟩; have HGW := Lib.hid (Grown.trans (show Grown V _ from (by repeat (first | with_reducible exact HGW.out | with_reducible exact Grown.refl _ | with_reducible refine Grown.drew ?_ | with_reducible refine Grown.alloc ?_ _))) hg); have HBW := Lib.hid HGW.out.below; clear hg))
  go_wp2
  go_ret
  exact ⟨rfl, HGR.out.trans (by repeat (first | with_reducible exact HGW.out | with_reducible exact Grown.refl _ | with_reducible refine Grown.drew ?_ | with_reducible refine Grown.alloc ?_ _))⟩
end Go.Proofs.YtldchpmilknlmaaGreat
namespace Go.Proofs.YtldchpmilknlmaaGreat
open Go.RowKit Go.Sort
attribute [local go_sem] ext_cell
def cmpChn (x y : Chn) : Int := orL [Lib.compareInt x.id y.id, Lib.compareInt x.source y.source, cmpL x.dests y.dests]
set_option maxRecDepth 100000 in
set_option maxHeartbeats 8000000 in
theorem methChn_ok (x y : Chn) (A B : Option Addr) (a b : Nat) (W : World) (hlx : x.dests.length ≤ 4194304) (hly : y.dests.length ≤ 4194304) (hA : Rd W W.heap.size 1 A x.dests.length (x.dests.map (Value.int .u16))) (hB : Rd W W.heap.size 1 B y.dests.length (y.dests.map (Value.int .u16))) : Calls Tryz.prog 52 #[.agg #[.int .u16 x.id, .int .u16 x.source, .slice A x.dests.length a], .agg #[.int .u16 y.id, .int .u16 y.source, .slice B y.dests.length b]] W fun e w' => e = .returned (.int .i64 (cmpChn x y)) ∧ Grown W w' := by
  have hu16 := cmpU16_ok
  have hsl := fun W hA hB => slCmp_ok x.dests y.dests A B a b W hlx hly hA hB
  have HA := Lib.hid hA
  have HB := Lib.hid hB
  clear hA hB
  unfold cmpChn
  generalize Lib.compareInt = cI at hu16 ⊢
  generalize cmpL = cL at hsl ⊢
  go_enter Tryz.func52, Tryz.ntmps52
  go_upto_region 1 with (fail)
  have c00 : ((W.alloc (.cells #[.int .u16 x.id, .int .u16 x.source, .slice A x.dests.length a] 105)).alloc (.cells #[.int .u16 y.id, .int .u16 y.source, .slice B y.dests.length b] 105)).cell? ⟨W.heap.size, 0, none⟩ = some (.int .u16 x.id) := by simp
  have c01 : ((W.alloc (.cells #[.int .u16 x.id, .int .u16 x.source, .slice A x.dests.length a] 105)).alloc (.cells #[.int .u16 y.id, .int .u16 y.source, .slice B y.dests.length b] 105)).cell? ⟨W.heap.size, 1, none⟩ = some (.int .u16 x.source) := by simp
  have c02 : ((W.alloc (.cells #[.int .u16 x.id, .int .u16 x.source, .slice A x.dests.length a] 105)).alloc (.cells #[.int .u16 y.id, .int .u16 y.source, .slice B y.dests.length b] 105)).cell? ⟨W.heap.size, 2, none⟩ = some (.slice A x.dests.length a) := by simp
  have c10 : ((W.alloc (.cells #[.int .u16 x.id, .int .u16 x.source, .slice A x.dests.length a] 105)).alloc (.cells #[.int .u16 y.id, .int .u16 y.source, .slice B y.dests.length b] 105)).cell? ⟨W.heap.size + 1, 0, none⟩ = some (.int .u16 y.id) := by simp
  have c11 : ((W.alloc (.cells #[.int .u16 x.id, .int .u16 x.source, .slice A x.dests.length a] 105)).alloc (.cells #[.int .u16 y.id, .int .u16 y.source, .slice B y.dests.length b] 105)).cell? ⟨W.heap.size + 1, 1, none⟩ = some (.int .u16 y.source) := by simp
  have c12 : ((W.alloc (.cells #[.int .u16 x.id, .int .u16 x.source, .slice A x.dests.length a] 105)).alloc (.cells #[.int .u16 y.id, .int .u16 y.source, .slice B y.dests.length b] 105)).cell? ⟨W.heap.size + 1, 2, none⟩ = some (.slice B y.dests.length b) := by simp
  have hsz : ((W.alloc (.cells #[.int .u16 x.id, .int .u16 x.source, .slice A x.dests.length a] 105)).alloc (.cells #[.int .u16 y.id, .int .u16 y.source, .slice B y.dests.length b] 105)).heap.size = W.heap.size + 2 := by simp
  have hgr : Grown W ((W.alloc (.cells #[.int .u16 x.id, .int .u16 x.source, .slice A x.dests.length a] 105)).alloc (.cells #[.int .u16 y.id, .int .u16 y.source, .slice B y.dests.length b] 105)) := ((Grown.refl W).alloc _).alloc _
  have hb0 : W.heap.size < ((W.alloc (.cells #[.int .u16 x.id, .int .u16 x.source, .slice A x.dests.length a] 105)).alloc (.cells #[.int .u16 y.id, .int .u16 y.source, .slice B y.dests.length b] 105)).heap.size := by rw [hsz]; omega
  have hb1 : W.heap.size + 1 < ((W.alloc (.cells #[.int .u16 x.id, .int .u16 x.source, .slice A x.dests.length a] 105)).alloc (.cells #[.int .u16 y.id, .int .u16 y.source, .slice B y.dests.length b] 105)).heap.size := by rw [hsz]; omega
  clear hsz
  have HW := Lib.hid hgr.below
  generalize World.alloc (World.alloc W _) _ = V at c00 c01 c02 c10 c11 c12 hb0 hb1 hgr HW ⊢
  have HA := Lib.hid (HA.out.up HW.out)
  have HB := Lib.hid (HB.out.up HW.out)
  generalize W.heap.size + 1 = b1 at c10 c11 c12 hb1 ⊢
  generalize W.heap.size = b0 at c00 c01 c02 hb0 HW ⊢
  have HGR := Lib.hid hgr
  clear hgr
  have KEEP : ∀ U, Below V.heap.size V U → (fun w' => w'.cell? ⟨b0, 0, none⟩ = some (.int .u16 x.id) ∧ w'.cell? ⟨b0, 1, none⟩ = some (.int .u16 x.source) ∧ w'.cell? ⟨b0, 2, none⟩ = some (.slice A x.dests.length a) ∧ w'.cell? ⟨b1, 0, none⟩ = some (.int .u16 y.id) ∧ w'.cell? ⟨b1, 1, none⟩ = some (.int .u16 y.source) ∧ w'.cell? ⟨b1, 2, none⟩ = some (.slice B y.dests.length b)) U := fun U hU => by
    have q : ∀ b o, b < V.heap.size → U.cell? ⟨b, o, none⟩ = V.cell? ⟨b, o, none⟩ := fun b o h => hU.cell (p := ⟨b, o, none⟩) h
    exact ⟨(q _ _ hb0).trans c00, (q _ _ hb0).trans c01, (q _ _ hb0).trans c02, (q _ _ hb1).trans c10, (q _ _ hb1).trans c11, (q _ _ hb1).trans c12⟩
  have HKP := Lib.hid KEEP
  clear KEEP
  go_region_held3 (fun w' => w'.cell? ⟨b0, 0, none⟩ = some (.int .u16 x.id) ∧ w'.cell? ⟨b0, 1, none⟩ = some (.int .u16 x.source) ∧ w'.cell? ⟨b0, 2, none⟩ = some (.slice A x.dests.length a) ∧ w'.cell? ⟨b1, 0, none⟩ = some (.int .u16 y.id) ∧ w'.cell? ⟨b1, 1, none⟩ = some (.int .u16 y.source) ∧ w'.cell? ⟨b1, 2, none⟩ = some (.slice B y.dests.length b))
    (first | (refine HKP.out _ ?_; (repeat (first | with_reducible exact HBW.out | with_reducible exact Below.refl _ _ | with_reducible refine Below.drew ?_ | (with_reducible refine Below.alloc ?_ (by first | (simp; done) | (have hq := HBW.out.size; simp at hq ⊢; omega)) _) | (with_reducible refine Below.setCell ?_ (by first | (simp; done) | (have hq := HBW.out.size; simp at hq ⊢; omega)) _))); done) | go_keep)
    (first
    | (go_at_call 84; refine (hu16 _ _ _).mono ?_; rintro e w' ⟨rfl, rfl⟩)
    | (go_at_call 102; refine (hsl _ (HA.out.up (by repeat (first | with_reducible exact Below.refl _ _ | with_reducible refine Below.drew ?_ | (with_reducible refine Below.alloc ?_ (by simp) _) | (with_reducible refine Below.setCell ?_ (by simp) _)))) (HB.out.up (by repeat (first | with_reducible exact Below.refl _ _ | with_reducible refine Below.drew ?_ | (with_reducible refine Below.alloc ?_ (by simp) _) | (with_reducible refine Below.setCell ?_ (by simp) _))))).mono ?_; rintro e w' ⟨rfl, rfl⟩)
    | (go_at_call 83; refine (orNew [cI x.id y.id, cI x.source y.source, cL x.dests y.dests] _ 3 rfl rfl (by simp) _ _ _ rfl (by simp)).mono ?_; rintro e w' ⟨rfl, rfl⟩))
  go_wp2
  go_ret
  refine ⟨rfl, ?_⟩
  have g := HGR.out
  repeat (first | exact g | refine Grown.drew ?_ | refine Grown.alloc ?_ _)
theorem wrapChn_ok (x : Chn) (A : Option Addr) (a : Nat) (W : World) : Calls Tryz.prog 51 #[.agg #[.int .u16 x.id, .int .u16 x.source, .slice A x.dests.length a]] W fun e w' => e = .returned (.agg #[.int .u16 x.id, .int .u16 x.source, .slice A x.dests.length a]) ∧ Grown W w' := by
  go_enter Tryz.func51, Tryz.ntmps51
  go_wp2
  refine bodyPost_ret (v := .agg #[.int .u16 x.id, .int .u16 x.source, .slice A x.dests.length a]) (by simp [results, Tryz.results51, go_sem]) rfl ⟨rfl, ?_⟩
  repeat (first | exact Grown.refl _ | refine Grown.drew ?_ | refine Grown.alloc ?_ _)
set_option maxRecDepth 100000 in
set_option maxHeartbeats 8000000 in
theorem closChn_ok (x y : Chn) (A B : Option Addr) (a b : Nat) (d1 d2 : Nat) (W : World) (h1 : W.cell? ⟨d1, 0, none⟩ = some (.func (.func 52) #[] #[])) (h2 : W.cell? ⟨d2, 0, none⟩ = some (.func (.func 51) #[] #[])) (l1 : d1 < W.heap.size) (l2 : d2 < W.heap.size) (hlx : x.dests.length ≤ 4194304) (hly : y.dests.length ≤ 4194304) (hA : Rd W W.heap.size 1 A x.dests.length (x.dests.map (Value.int .u16))) (hB : Rd W W.heap.size 1 B y.dests.length (y.dests.map (Value.int .u16))) :
    Calls Tryz.prog 101 #[.agg #[.int .u16 x.id, .int .u16 x.source, .slice A x.dests.length a], .agg #[.int .u16 y.id, .int .u16 y.source, .slice B y.dests.length b], .pointer (some ⟨d1, 0, none⟩), .pointer (some ⟨d2, 0, none⟩)] W fun e w' => e = .returned (.int .i64 (cmpChn x y)) ∧ Grown W w' := by
  have hent1 : ∀ a w, (callFunc 52 a).run Tryz.prog w = .ok (.enter 52 a) w := enters_of Tryz.func52 (by kernel_rfl) rfl
  have hent2 : ∀ a w, (callFunc 51 a).run Tryz.prog w = .ok (.enter 51 a) w := enters_of Tryz.func51 (by kernel_rfl) rfl
  have HA := Lib.hid hA
  have HB := Lib.hid hB
  clear hA hB
  go_enter Tryz.func101, Tryz.ntmps101
  go_upto_region 1 with (fail)
  have c00 : ((W.alloc (.cells #[.int .u16 x.id, .int .u16 x.source, .slice A x.dests.length a] 46)).alloc (.cells #[.int .u16 y.id, .int .u16 y.source, .slice B y.dests.length b] 46)).cell? ⟨W.heap.size, 0, none⟩ = some (.int .u16 x.id) := by simp
  have c01 : ((W.alloc (.cells #[.int .u16 x.id, .int .u16 x.source, .slice A x.dests.length a] 46)).alloc (.cells #[.int .u16 y.id, .int .u16 y.source, .slice B y.dests.length b] 46)).cell? ⟨W.heap.size, 1, none⟩ = some (.int .u16 x.source) := by simp
  have c02 : ((W.alloc (.cells #[.int .u16 x.id, .int .u16 x.source, .slice A x.dests.length a] 46)).alloc (.cells #[.int .u16 y.id, .int .u16 y.source, .slice B y.dests.length b] 46)).cell? ⟨W.heap.size, 2, none⟩ = some (.slice A x.dests.length a) := by simp
  have c10 : ((W.alloc (.cells #[.int .u16 x.id, .int .u16 x.source, .slice A x.dests.length a] 46)).alloc (.cells #[.int .u16 y.id, .int .u16 y.source, .slice B y.dests.length b] 46)).cell? ⟨W.heap.size + 1, 0, none⟩ = some (.int .u16 y.id) := by simp
  have c11 : ((W.alloc (.cells #[.int .u16 x.id, .int .u16 x.source, .slice A x.dests.length a] 46)).alloc (.cells #[.int .u16 y.id, .int .u16 y.source, .slice B y.dests.length b] 46)).cell? ⟨W.heap.size + 1, 1, none⟩ = some (.int .u16 y.source) := by simp
  have c12 : ((W.alloc (.cells #[.int .u16 x.id, .int .u16 x.source, .slice A x.dests.length a] 46)).alloc (.cells #[.int .u16 y.id, .int .u16 y.source, .slice B y.dests.length b] 46)).cell? ⟨W.heap.size + 1, 2, none⟩ = some (.slice B y.dests.length b) := by simp
  have hsz : ((W.alloc (.cells #[.int .u16 x.id, .int .u16 x.source, .slice A x.dests.length a] 46)).alloc (.cells #[.int .u16 y.id, .int .u16 y.source, .slice B y.dests.length b] 46)).heap.size = W.heap.size + 2 := by simp
  have hgr : Grown W ((W.alloc (.cells #[.int .u16 x.id, .int .u16 x.source, .slice A x.dests.length a] 46)).alloc (.cells #[.int .u16 y.id, .int .u16 y.source, .slice B y.dests.length b] 46)) := ((Grown.refl W).alloc _).alloc _
  have hb0 : W.heap.size < ((W.alloc (.cells #[.int .u16 x.id, .int .u16 x.source, .slice A x.dests.length a] 46)).alloc (.cells #[.int .u16 y.id, .int .u16 y.source, .slice B y.dests.length b] 46)).heap.size := by rw [hsz]; omega
  have hb1 : W.heap.size + 1 < ((W.alloc (.cells #[.int .u16 x.id, .int .u16 x.source, .slice A x.dests.length a] 46)).alloc (.cells #[.int .u16 y.id, .int .u16 y.source, .slice B y.dests.length b] 46)).heap.size := by rw [hsz]; omega
  have k1 := (hgr.below.cell (p := ⟨d1, 0, none⟩) l1).trans h1
  have k2 := (hgr.below.cell (p := ⟨d2, 0, none⟩) l2).trans h2
  have e1 := Nat.lt_of_lt_of_le l1 hgr.below.size
  have e2 := Nat.lt_of_lt_of_le l2 hgr.below.size
  clear hsz h1 h2 l1 l2
  have HA := Lib.hid (HA.out.up hgr.below)
  have HB := Lib.hid (HB.out.up hgr.below)
  generalize World.alloc (World.alloc W _) _ = V at c00 c01 c02 c10 c11 c12 hb0 hb1 hgr k1 k2 e1 e2 HA HB ⊢
  generalize W.heap.size + 1 = b1 at c10 c11 c12 hb1 ⊢
  generalize W.heap.size = b0 at c00 c01 c02 hb0 ⊢
  have HGR := Lib.hid hgr
  clear hgr
  have KEEP : ∀ U, Below V.heap.size V U → (fun w' => w'.cell? ⟨b0, 0, none⟩ = some (.int .u16 x.id) ∧ w'.cell? ⟨b0, 1, none⟩ = some (.int .u16 x.source) ∧ w'.cell? ⟨b0, 2, none⟩ = some (.slice A x.dests.length a) ∧ w'.cell? ⟨b1, 0, none⟩ = some (.int .u16 y.id) ∧ w'.cell? ⟨b1, 1, none⟩ = some (.int .u16 y.source) ∧ w'.cell? ⟨b1, 2, none⟩ = some (.slice B y.dests.length b) ∧ w'.cell? ⟨d1, 0, none⟩ = some (.func (.func 52) #[] #[]) ∧ w'.cell? ⟨d2, 0, none⟩ = some (.func (.func 51) #[] #[])) U := fun U hU => by
    have q : ∀ b o, b < V.heap.size → U.cell? ⟨b, o, none⟩ = V.cell? ⟨b, o, none⟩ := fun b o h => hU.cell (p := ⟨b, o, none⟩) h
    exact ⟨(q _ _ hb0).trans c00, (q _ _ hb0).trans c01, (q _ _ hb0).trans c02, (q _ _ hb1).trans c10, (q _ _ hb1).trans c11, (q _ _ hb1).trans c12, (q _ _ e1).trans k1, (q _ _ e2).trans k2⟩
  have HKP := Lib.hid KEEP
  clear KEEP
  go_region_held3 (fun w' => w'.cell? ⟨b0, 0, none⟩ = some (.int .u16 x.id) ∧ w'.cell? ⟨b0, 1, none⟩ = some (.int .u16 x.source) ∧ w'.cell? ⟨b0, 2, none⟩ = some (.slice A x.dests.length a) ∧ w'.cell? ⟨b1, 0, none⟩ = some (.int .u16 y.id) ∧ w'.cell? ⟨b1, 1, none⟩ = some (.int .u16 y.source) ∧ w'.cell? ⟨b1, 2, none⟩ = some (.slice B y.dests.length b) ∧ w'.cell? ⟨d1, 0, none⟩ = some (.func (.func 52) #[] #[]) ∧ w'.cell? ⟨d2, 0, none⟩ = some (.func (.func 51) #[] #[]))
    (first | (refine HKP.out _ ?_; (repeat (first | with_reducible exact HBW.out | with_reducible exact Below.refl _ _ | with_reducible refine Below.drew ?_ | (with_reducible refine Below.alloc ?_ (by first | (simp; done) | (have hq := HBW.out.size; simp at hq ⊢; omega)) _) | (with_reducible refine Below.setCell ?_ (by first | (simp; done) | (have hq := HBW.out.size; simp at hq ⊢; omega)) _))); done) | go_keep)
    (first
    | (go_at_call 51; refine (wrapChn_ok x A a _).mono ?_; rintro e w' ⟨rfl, hg⟩; have HGW := Lib.hid (Grown.trans (show Grown V _ from (by repeat (first | with_reducible exact HGW.out | with_reducible exact Grown.refl _ | with_reducible refine Grown.drew ?_ | with_reducible refine Grown.alloc ?_ _))) hg); have HBW := Lib.hid HGW.out.below; clear hg)
    | (go_at_call 51; refine (wrapChn_ok y B b _).mono ?_; rintro e w' ⟨rfl, hg⟩; have HGW := Lib.hid (Grown.trans (show Grown V _ from (by repeat (first | with_reducible exact HGW.out | with_reducible exact Grown.refl _ | with_reducible refine Grown.drew ?_ | with_reducible refine Grown.alloc ?_ _))) hg); have HBW := Lib.hid HGW.out.below; clear hg)
    | (go_at_call 52; refine (methChn_ok x y A B a b _ hlx hly (HA.out.up HBW.out) (HB.out.up HBW.out)).mono ?_; rintro e w' ⟨rfl, hg⟩; have HGW := Lib.hid (Grown.trans (show Grown V _ from (by repeat (first | with_reducible exact HGW.out | with_reducible exact Grown.refl _ | with_reducible refine Grown.drew ?_ | with_reducible refine Grown.alloc ?_ _))) hg); have HBW := Lib.hid HGW.out.below; clear hg))
  go_wp2
  go_ret
  exact ⟨rfl, HGR.out.trans (by repeat (first | with_reducible exact HGW.out | with_reducible exact Grown.refl _ | with_reducible refine Grown.drew ?_ | with_reducible refine Grown.alloc ?_ _))⟩
end Go.Proofs.YtldchpmilknlmaaGreat
