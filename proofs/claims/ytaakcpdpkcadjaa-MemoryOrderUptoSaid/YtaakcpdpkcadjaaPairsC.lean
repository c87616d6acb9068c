/-
  The order by which Pairs of package sweep sorts its pairs: cmp.Compare, cmp.Or and the function Pairs$2, walked; the sort at the call's own row.
-/
import Derived.BigRegion
import Derived.Deep.RegionHeld
import Derived.Test.YtaakcpdpkcadjaaRowK
import Derived.Test.YtaakcpdpkcadjaaPairs
import Derived.Test.YtaakcpdpkcadjaaLayQ
namespace Go.Proofs.Ytaakcpdpkcadjaa
open Go.RowKit Go.Shelf Go.Sort
instance : Inhabited Pr := ⟨⟨0, 0⟩⟩
def orI (a b : Int) : Int := if a = 0 then b else a
def prCmp (x y : Pr) : Int := orI (Lib.compareInt x.i y.i) (Lib.compareInt x.j y.j)
theorem prCmp_lt (x y : Pr) : ltOf prCmp x y = decide (x.i < y.i ∨ (x.i = y.i ∧ x.j < y.j)) := by
  unfold ltOf prCmp orI Lib.compareInt
  by_cases h1 : x.i < y.i
  · simp [h1]
  · by_cases h2 : y.i < x.i
    · simp [h1, h2, show ¬ x.i = y.i by omega]
    · have h3 : x.i = y.i := by omega
      by_cases h4 : x.j < y.j
      · simp [h3, h4]
      · by_cases h5 : y.j < x.j <;> simp [h3, h4, h5]
theorem prSWO : SWO (ltOf prCmp) where
  irrefl x := by rw [prCmp_lt]; simp
  trans x y z h1 h2 := by rw [prCmp_lt] at *; simp at *; omega
  ntrans x y z h1 h2 := by rw [prCmp_lt] at *; simp at *; omega
theorem cmpInt_ok (x y : Int) (w : World) : Calls Try.prog 59 #[.int .i64 x, .int .i64 y] w fun e w' => e = .returned (.int .i64 (Lib.compareInt x y)) ∧ w' = w := AnyG.cmp_Compare_int Try.layCmpInt x y w
set_option maxRecDepth 100000 in
set_option maxHeartbeats 1000000 in
theorem cmpOr_ok (a b : Int) (bl : Nat) (W : World) (h0 : W.cell? ⟨bl, 0, none⟩ = some (.int .i64 a)) (h1 : W.cell? ⟨bl, 1, none⟩ = some (.int .i64 b)) :
    Calls Try.prog 58 #[.slice (some ⟨bl, 0, none⟩) 2 2] W fun e w' => e = .returned (.int .i64 (orI a b)) ∧ w' = W := by
  by_cases ha : a = 0
  · subst ha
    by_cases hb : b = 0
    · subst hb
      go_enter Try.func58, Try.ntmps58
      go_wp2
      go_loopw [8] (fun i wr => ∃ k : Nat, k ≤ 2 ∧ i = .int .i64 k ∧ wr = W) (fun i _ => 2 - (intOf i).toNat)
      case atStart => exact ⟨0, by omega, rfl, rfl⟩
      case round =>
        obtain ⟨k, hk, rfl, rfl⟩ := hrel
        rcases (show k = 0 ∨ k = 1 ∨ k = 2 by omega) with rfl | rfl | rfl
        · go_wp2
          go_roundw
          case rel => exact ⟨1, by omega, by go_num, trivial⟩
          case measure => simp [intOf]
        · go_wp2
          go_roundw
          case rel => exact ⟨2, by omega, by go_num, trivial⟩
          case measure => simp [intOf]
        · go_wp2
          go_ret
          exact ⟨rfl, rfl⟩
    · go_enter Try.func58, Try.ntmps58
      go_wp2
      go_loopw [8] (fun i wr => ∃ k : Nat, k ≤ 1 ∧ i = .int .i64 k ∧ wr = W) (fun i _ => 2 - (intOf i).toNat)
      case atStart => exact ⟨0, by omega, rfl, rfl⟩
      case round =>
        obtain ⟨k, hk, rfl, rfl⟩ := hrel
        rcases (show k = 0 ∨ k = 1 by omega) with rfl | rfl
        · go_wp2
          go_roundw
          case rel => exact ⟨1, by omega, by go_num, trivial⟩
          case measure => simp [intOf]
        · go_wp2
          go_ret
          exact ⟨rfl, rfl⟩
  · go_enter Try.func58, Try.ntmps58
    go_wp2
    go_loopw [8] (fun i wr => i = .int .i64 (0 : Nat) ∧ wr = W) (fun i _ => 2 - (intOf i).toNat)
    case atStart => exact ⟨rfl, rfl⟩
    case round =>
      obtain ⟨rfl, rfl⟩ := hrel
      go_wp2
      go_ret
      exact ⟨by simp [orI, ha], rfl⟩
theorem cmpOr_new (a b : Int) (W0 : World) (bl : Nat) (hbl : bl = W0.heap.size) (t : TypeId) :
    Calls Try.prog 58 #[.slice (some ⟨bl, 0, none⟩) 2 2] (W0.alloc (.cells #[.int .i64 a, .int .i64 b] t)).drew fun e w' => e = .returned (.int .i64 (orI a b)) ∧ w' = (W0.alloc (.cells #[.int .i64 a, .int .i64 b] t)).drew := by
  subst hbl
  exact cmpOr_ok a b _ _ (by show (W0.alloc _).cell? _ = _; simp) (by show (W0.alloc _).cell? _ = _; simp)
set_option maxRecDepth 100000 in
set_option maxHeartbeats 2000000 in
theorem prClosure_ok (x y : Pr) (W : World) : Calls Try.prog 57 #[.agg #[.int .i64 x.i, .int .i64 x.j], .agg #[.int .i64 y.i, .int .i64 y.j]] W fun e w' => e = .returned (.int .i64 (prCmp x y)) ∧ ∃ q os', w' = grow (W.drewN q) os' := by
  have hcmp := cmpInt_ok
  unfold prCmp
  generalize Lib.compareInt = cI at hcmp ⊢
  go_enter Try.func57, Try.ntmps57
  go_upto_region 1 with (fail)
  have c0 : ((W.alloc (.cells #[.int .i64 x.i, .int .i64 x.j] 106)).alloc (.cells #[.int .i64 y.i, .int .i64 y.j] 106)).cell? ⟨W.heap.size, 0, none⟩ = some (.int .i64 x.i) := by simp
  have c1 : ((W.alloc (.cells #[.int .i64 x.i, .int .i64 x.j] 106)).alloc (.cells #[.int .i64 y.i, .int .i64 y.j] 106)).cell? ⟨W.heap.size, 1, none⟩ = some (.int .i64 x.j) := by simp
  have c2 : ((W.alloc (.cells #[.int .i64 x.i, .int .i64 x.j] 106)).alloc (.cells #[.int .i64 y.i, .int .i64 y.j] 106)).cell? ⟨W.heap.size + 1, 0, none⟩ = some (.int .i64 y.i) := by simp
  have c3 : ((W.alloc (.cells #[.int .i64 x.i, .int .i64 x.j] 106)).alloc (.cells #[.int .i64 y.i, .int .i64 y.j] 106)).cell? ⟨W.heap.size + 1, 1, none⟩ = some (.int .i64 y.j) := by simp
  have hsz : ((W.alloc (.cells #[.int .i64 x.i, .int .i64 x.j] 106)).alloc (.cells #[.int .i64 y.i, .int .i64 y.j] 106)).heap.size = W.heap.size + 2 := by simp
  have hgr : ((W.alloc (.cells #[.int .i64 x.i, .int .i64 x.j] 106)).alloc (.cells #[.int .i64 y.i, .int .i64 y.j] 106)) = grow (W.drewN 0) #[.cells #[.int .i64 x.i, .int .i64 x.j] 106, .cells #[.int .i64 y.i, .int .i64 y.j] 106] := by
    rw [alloc_eq_grow, alloc_eq_grow, grow_grow]; rfl
  have hb0 : W.heap.size < ((W.alloc (.cells #[.int .i64 x.i, .int .i64 x.j] 106)).alloc (.cells #[.int .i64 y.i, .int .i64 y.j] 106)).heap.size := by rw [hsz]; omega
  have hb1 : W.heap.size + 1 < ((W.alloc (.cells #[.int .i64 x.i, .int .i64 x.j] 106)).alloc (.cells #[.int .i64 y.i, .int .i64 y.j] 106)).heap.size := by rw [hsz]; omega
  clear hsz
  generalize World.alloc (World.alloc W _) _ = V at c0 c1 c2 c3 hb0 hb1 hgr ⊢
  generalize W.heap.size + 1 = b1 at c2 c3 hb1 ⊢
  generalize W.heap.size = b0 at c0 c1 hb0 ⊢
  have HGR := Lib.hid hgr
  clear hgr
  have KEEP : ∀ U, Below V.heap.size V U → (fun w' => w'.cell? ⟨b0, 0, none⟩ = some (.int .i64 x.i) ∧ w'.cell? ⟨b0, 1, none⟩ = some (.int .i64 x.j) ∧ w'.cell? ⟨b1, 0, none⟩ = some (.int .i64 y.i) ∧ w'.cell? ⟨b1, 1, none⟩ = some (.int .i64 y.j)) U := fun U hU => by
    have q : ∀ b o, b < V.heap.size → U.cell? ⟨b, o, none⟩ = V.cell? ⟨b, o, none⟩ := fun b o h => hU.cell (p := ⟨b, o, none⟩) h
    exact ⟨(q _ _ hb0).trans c0, (q _ _ hb0).trans c1, (q _ _ hb1).trans c2, (q _ _ hb1).trans c3⟩
  have HKP := Lib.hid KEEP
  clear KEEP
  go_region_held3 (fun w' => w'.cell? ⟨b0, 0, none⟩ = some (.int .i64 x.i) ∧ w'.cell? ⟨b0, 1, none⟩ = some (.int .i64 x.j) ∧ w'.cell? ⟨b1, 0, none⟩ = some (.int .i64 y.i) ∧ w'.cell? ⟨b1, 1, none⟩ = some (.int .i64 y.j))
    (first | (refine HKP.out _ ?_; (repeat (first | with_reducible exact HBW.out | with_reducible exact Below.refl _ _ | with_reducible refine Below.drew ?_ | (with_reducible refine Below.alloc ?_ (by first | (simp; done) | (have hq := HBW.out.size; simp at hq ⊢; omega)) _) | (with_reducible refine Below.setCell ?_ (by first | (simp; done) | (have hq := HBW.out.size; simp at hq ⊢; omega)) _))); done) | go_keep)
    (first
    | (go_at_call 59; refine (hcmp _ _ _).mono ?_; rintro e w' ⟨rfl, rfl⟩)
    | (go_at_call 58; refine (cmpOr_new _ _ _ _ (by simp) _).mono ?_; rintro e w' ⟨rfl, rfl⟩))
  go_wp2
  go_ret
  exact ⟨rfl, 1, _, by rw [HGR.out, alloc_eq_grow, grow_grow]; rfl⟩
end Go.Proofs.Ytaakcpdpkcadjaa
