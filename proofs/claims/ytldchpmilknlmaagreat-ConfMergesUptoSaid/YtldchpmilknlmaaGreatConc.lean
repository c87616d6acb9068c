/-
  slices.Grow of the nil slice and slices.Concat of two rows, walked, at each kind of record: a new row in memory of the call's own.
-/
import Derived.BigQuiet
import Derived.Lib.AppendZeros
import Derived.Test.YtldchpmilknlmaaGreatMrgSt
import Derived.Test.YtldchpmilknlmaaGreatOwnG
namespace Go.Proofs.YtldchpmilknlmaaGreat
open Go.RowKit
theorem run_grow_nil {P : Program} (w : World) (t tn ty e : TypeId) (i : TypeInfo) (z : Value) (sz bytes : Nat) (ht : P.underlying t = some (.slice e)) (htn : P.underlying tn = some (.int .i64)) (hi : P.info? e = some i) (hz : i.zero = some z) (hs : i.size = sz) (hby : i.bytes = bytes) (hzs : z.cells.size = sz) (hs0 : 0 < sz)
    (n : Nat) (h0 : 0 < n) (h63 : n ≤ 16777216) (h48 : bytes ≤ 1024) :
    ∃ C W1, (Builtin.append_ #[t, tn] ty #[.slice none 0 0, .int .i64 n]).run P w = .ok (.slice (some ⟨w.heap.size, 0, none⟩) n C) W1 ∧ 0 < C ∧ W1.ownsRow w.heap.size e sz (.slice (some ⟨w.heap.size, 0, none⟩) 0 C) 0 [] ∧ Below w.heap.size w W1 := by
  subst hs hby
  have h := Lib.run_append_nil_zeros (P := P) w t tn ty e i z .i64 .i64 ht htn hi hz n h0 hs0 (by omega) (by
    have := Nat.mul_le_mul h63 h48
    omega)
  refine ⟨_, _, h, Nat.lt_of_lt_of_le h0 (grownCap_ge w n 0 e), ⟨by simp, .inr ⟨w.heap.size, _, _, rfl, Nat.le_refl _, heap_alloc_new w.drew _, Nat.zero_le _, grownCap_le_maxLen w n 0 e (by unfold maxLen; omega), ?_, by simp⟩⟩, ((Below.refl _ _).drew).alloc (Nat.le_refl _) _⟩
  have hge := grownCap_ge w n 0 e
  rw [Array.size_append, size_zeroCells, size_zeroCells, hzs, ← Nat.add_mul]
  congr 1
  omega
theorem slice_zero {P : Program} {t : TypeId} {sz : Nat} (ht : P.underlying t = some (.slice (P.elem t))) (hz : ∀ W, (sizeOf (P.elem t)).run P W = .ok sz W) (g n C : Nat) (h0 : 0 < C) (W : World) : (Instr.slice t (.slice (some ⟨g, 0, none⟩) n C) none (some (.int .i64 0)) none).run P W = .ok (.slice (some ⟨g, 0, none⟩) 0 C) W := by
  have h := run_slice_h (P := P) W t (some ⟨g, 0, none⟩) n C ht .i64 0 (by omega) (by omega)
  rw [h, hz]
  simp [Result.andThen, sliced, addr_add]
theorem run_sizeOfC {P : Program} {e : TypeId} {i : TypeInfo} {sz : Nat} (hi : P.info? e = some i) (hs : i.size = sz) (W : World) : (sizeOf e).run P W = .ok sz W := by
  simp [sizeOf, typeInfo, hi, hs]
theorem int_und : Tryz.prog.underlying 3 = some (.int .i64) := by kernel_rfl
set_option maxRecDepth 100000 in
set_option maxHeartbeats 2000000 in
theorem growPar_ok (n : Nat) (hn : n ≤ 16777216) (w : World) : Calls Tryz.prog 63 #[.slice none 0 0, .int .i64 n] w fun e w' => ∃ v, e = .returned v ∧ w'.ownsRow w.heap.size 36 4 v 0 [] ∧ Below w.heap.size w w' := by
  obtain ⟨i0, hi, hz0, hz1, hz2⟩ := info_parts infoPartition
  by_cases h0 : n = 0
  · subst h0
    go_enter Tryz.func63, Tryz.ntmps63
    go_wp2
    go_ret
    exact ⟨_, rfl, World.ownsRow_nil _ _ _ _, Below.refl _ _⟩
  · have hp : (0 : Int) < (n : Int) := by omega
    obtain ⟨C, W1, hr, hC, hown, hb⟩ := run_grow_nil (P := Tryz.prog) w 23 3 23 36 i0 (.agg #[.int .u16 0, .string .empty, .int .u64 0, .int .u64 0]) 4 40 Tryz.underlying23 int_und hi hz0 hz1 hz2 rfl (by decide) n (by omega) hn (by decide)
    have HR := Lib.hid hr
    have HO := Lib.hid hown
    have HB := Lib.hid hb
    have hsl := slice_zero (P := Tryz.prog) (t := 23) (sz := 4) Tryz.underlying23 (run_sizeOfC hi hz1) w.heap.size n C hC
    clear hr hown hb h0
    go_enter Tryz.func63, Tryz.ntmps63
    go_wp2_with (at_builtin; go_loud (refine Lib.wpList_append_run _ rfl (.tmp 20) (.tmp 21) _ _ rfl (.slice none 0 0) (.int .i64 n) rfl rfl _ _ HR.out ?_))
    go_ret
    exact ⟨_, rfl, HO.out, HB.out⟩
set_option maxRecDepth 100000 in
set_option maxHeartbeats 4000000 in
theorem concatPar_ok (A B : Option Addr) (n m a b g : Nat) (xs ys : List Value) (w : World) (c0 : w.cell? ⟨g, 0, none⟩ = some (.slice A n a)) (c1 : w.cell? ⟨g, 1, none⟩ = some (.slice B m b)) (hg : g < w.heap.size) (hA : Rd w w.heap.size 4 A n xs) (hB : Rd w w.heap.size 4 B m ys) (h1 : ∀ u ∈ xs, u.oneCell' = true) (h2 : ∀ u ∈ ys, u.oneCell' = true) (hn : n ≤ 4194304) (hm : m ≤ 4194304) :
    Calls Tryz.prog 17 #[.slice (some ⟨g, 0, none⟩) 2 2] w fun e w' => ∃ v, e = .returned v ∧ w'.ownsRow w.heap.size 36 4 v (n + m) (xs ++ ys) ∧ Below w.heap.size w w' := by
  obtain ⟨i0, hi, hz0, hz1, hz2⟩ := info_parts infoPartition
  have HA := Lib.hid hA
  have HB := Lib.hid hB
  have H1 := Lib.hid h1
  have H2 := Lib.hid h2
  have C0 := Lib.hid c0
  have C1 := Lib.hid c1
  have HG := Lib.hid hg
  clear hA hB h1 h2
  go_enter Tryz.func17, Tryz.ntmps17
  go_wp2
  go_loop [3, 11] (fun s i => (s = .int .i64 (0 : Nat) ∧ i = .int .i64 (0 : Nat)) ∨ (s = .int .i64 n ∧ i = .int .i64 (1 : Nat)) ∨ (s = .int .i64 (n + m : Nat) ∧ i = .int .i64 (2 : Nat))) (fun _ i => 2 - (intOf i).toNat)
  case atStart => exact .inl ⟨rfl, rfl⟩
  case round =>
    rcases hrel with ⟨rfl, rfl⟩ | ⟨rfl, rfl⟩ | ⟨rfl, rfl⟩
    · go_wp2
      go_round
      case rel => exact .inr (.inl ⟨by simp, by simp⟩)
      case measure => simp [intOf]
    · go_wp2
      go_round
      case rel => exact .inr (.inr ⟨by simp, by simp⟩)
      case measure => simp [intOf]
    · clear c0 c1 hg
      go_wp2_with fail
      refine (growPar_ok (n + m) (by omega) w).mono ?_
      rintro e w1 ⟨v, rfl, ho, hb⟩
      have HO := Lib.hid ho
      have HBl := Lib.hid hb
      obtain ⟨vA, vc, rfl, _⟩ := own_form ho
      clear ho hb
      go_wp2
      go_loopw [6, 27] (fun s i wr => (i = .int .i64 (0 : Nat) ∧ Hid (wr.ownsRow w.heap.size 36 4 s 0 []) ∧ Hid (Below w.heap.size w wr)) ∨ (i = .int .i64 (1 : Nat) ∧ Hid (wr.ownsRow w.heap.size 36 4 s n xs) ∧ Hid (Below w.heap.size w wr)) ∨ (i = .int .i64 (2 : Nat) ∧ Hid (wr.ownsRow w.heap.size 36 4 s (n + m) (xs ++ ys)) ∧ Hid (Below w.heap.size w wr))) (fun _ i _ => 2 - (intOf i).toNat)
      case atStart => exact .inl ⟨rfl, HO, HBl⟩
      case round =>
        clear HO HBl
        rcases hrel with ⟨rfl, HO, HBl⟩ | ⟨rfl, HO, HBl⟩ | ⟨rfl, HO, HBl⟩
        · have g0 := (HBl.out.cell (p := ⟨g, 0, none⟩) HG.out).trans C0.out
          have HAr := Lib.hid (HA.out.below HBl.out)
          obtain ⟨vA, vc, rfl, _⟩ := own_form HO.out
          have hszr := HBl.out.size
          go_wp2_with (at_builtin; go_loud (refine wpList_append_rd _ rfl (.tmp 31) (.tmp 32) _ rfl w.heap.size 36 i0 (.agg #[.int .u16 0, .string .empty, .int .u64 0, .int .u64 0]) 4 40 Tryz.underlying23 hi hz0 hz1 hz2 rfl (by decide) _ 0 [] rfl HO.out w.heap.size A n a xs rfl HAr.out H1.out (by unfold maxLen; omega) (by omega) hszr ?_); intro v' w3 hown hgr)
          have HB3 := Lib.hid (below_own HBl.out hgr HO.out hszr)
          have HO3 := Lib.hid (show w3.ownsRow w.heap.size 36 4 v' n xs by simpa using hown)
          clear hown hgr
          go_roundw
          case rel => exact .inr (.inl ⟨by simp, HO3, HB3⟩)
          case measure => simp [intOf]
        · have g1 := (HBl.out.cell (p := ⟨g, 1, none⟩) HG.out).trans C1.out
          have HAr := Lib.hid (HB.out.below HBl.out)
          obtain ⟨vA, vc, rfl, _⟩ := own_form HO.out
          have hszr := HBl.out.size
          go_wp2_with (at_builtin; go_loud (refine wpList_append_rd _ rfl (.tmp 31) (.tmp 32) _ rfl w.heap.size 36 i0 (.agg #[.int .u16 0, .string .empty, .int .u64 0, .int .u64 0]) 4 40 Tryz.underlying23 hi hz0 hz1 hz2 rfl (by decide) _ n xs rfl HO.out w.heap.size B m b ys rfl HAr.out H2.out (by unfold maxLen; omega) (by omega) hszr ?_); intro v' w3 hown hgr)
          have HB3 := Lib.hid (below_own HBl.out hgr HO.out hszr)
          have HO3 := Lib.hid hown
          clear hown hgr
          go_roundw
          case rel => exact .inr (.inr ⟨by simp, HO3, HB3⟩)
          case measure => simp [intOf]
        · obtain ⟨vA, vc, rfl, _⟩ := own_form HO.out
          go_wp2
          go_ret
          exact ⟨_, rfl, HO.out, HBl.out⟩
set_option maxRecDepth 100000 in
set_option maxHeartbeats 2000000 in
theorem growWin_ok (n : Nat) (hn : n ≤ 16777216) (w : World) : Calls Tryz.prog 64 #[.slice none 0 0, .int .i64 n] w fun e w' => ∃ v, e = .returned v ∧ w'.ownsRow w.heap.size 38 3 v 0 [] ∧ Below w.heap.size w w' := by
  obtain ⟨i0, hi, hz0, hz1, hz2⟩ := info_parts infoWindow
  by_cases h0 : n = 0
  · subst h0
    go_enter Tryz.func64, Tryz.ntmps64
    go_wp2
    go_ret
    exact ⟨_, rfl, World.ownsRow_nil _ _ _ _, Below.refl _ _⟩
  · have hp : (0 : Int) < (n : Int) := by omega
    obtain ⟨C, W1, hr, hC, hown, hb⟩ := run_grow_nil (P := Tryz.prog) w 24 3 24 38 i0 (.agg #[.int .u64 0, .int .u64 0, .int .u16 0]) 3 24 Tryz.underlying24 int_und hi hz0 hz1 hz2 rfl (by decide) n (by omega) hn (by decide)
    have HR := Lib.hid hr
    have HO := Lib.hid hown
    have HB := Lib.hid hb
    have hsl := slice_zero (P := Tryz.prog) (t := 24) (sz := 3) Tryz.underlying24 (run_sizeOfC hi hz1) w.heap.size n C hC
    clear hr hown hb h0
    go_enter Tryz.func64, Tryz.ntmps64
    go_wp2_with (at_builtin; go_loud (refine Lib.wpList_append_run _ rfl (.tmp 20) (.tmp 21) _ _ rfl (.slice none 0 0) (.int .i64 n) rfl rfl _ _ HR.out ?_))
    go_ret
    exact ⟨_, rfl, HO.out, HB.out⟩
set_option maxRecDepth 100000 in
set_option maxHeartbeats 4000000 in
theorem concatWin_ok (A B : Option Addr) (n m a b g : Nat) (xs ys : List Value) (w : World) (c0 : w.cell? ⟨g, 0, none⟩ = some (.slice A n a)) (c1 : w.cell? ⟨g, 1, none⟩ = some (.slice B m b)) (hg : g < w.heap.size) (hA : Rd w w.heap.size 3 A n xs) (hB : Rd w w.heap.size 3 B m ys) (h1 : ∀ u ∈ xs, u.oneCell' = true) (h2 : ∀ u ∈ ys, u.oneCell' = true) (hn : n ≤ 4194304) (hm : m ≤ 4194304) :
    Calls Tryz.prog 18 #[.slice (some ⟨g, 0, none⟩) 2 2] w fun e w' => ∃ v, e = .returned v ∧ w'.ownsRow w.heap.size 38 3 v (n + m) (xs ++ ys) ∧ Below w.heap.size w w' := by
  obtain ⟨i0, hi, hz0, hz1, hz2⟩ := info_parts infoWindow
  have HA := Lib.hid hA
  have HB := Lib.hid hB
  have H1 := Lib.hid h1
  have H2 := Lib.hid h2
  have C0 := Lib.hid c0
  have C1 := Lib.hid c1
  have HG := Lib.hid hg
  clear hA hB h1 h2
  go_enter Tryz.func18, Tryz.ntmps18
  go_wp2
  go_loop [3, 11] (fun s i => (s = .int .i64 (0 : Nat) ∧ i = .int .i64 (0 : Nat)) ∨ (s = .int .i64 n ∧ i = .int .i64 (1 : Nat)) ∨ (s = .int .i64 (n + m : Nat) ∧ i = .int .i64 (2 : Nat))) (fun _ i => 2 - (intOf i).toNat)
  case atStart => exact .inl ⟨rfl, rfl⟩
  case round =>
    rcases hrel with ⟨rfl, rfl⟩ | ⟨rfl, rfl⟩ | ⟨rfl, rfl⟩
    · go_wp2
      go_round
      case rel => exact .inr (.inl ⟨by simp, by simp⟩)
      case measure => simp [intOf]
    · go_wp2
      go_round
      case rel => exact .inr (.inr ⟨by simp, by simp⟩)
      case measure => simp [intOf]
    · clear c0 c1 hg
      go_wp2_with fail
      refine (growWin_ok (n + m) (by omega) w).mono ?_
      rintro e w1 ⟨v, rfl, ho, hb⟩
      have HO := Lib.hid ho
      have HBl := Lib.hid hb
      obtain ⟨vA, vc, rfl, _⟩ := own_form ho
      clear ho hb
      go_wp2
      go_loopw [6, 27] (fun s i wr => (i = .int .i64 (0 : Nat) ∧ Hid (wr.ownsRow w.heap.size 38 3 s 0 []) ∧ Hid (Below w.heap.size w wr)) ∨ (i = .int .i64 (1 : Nat) ∧ Hid (wr.ownsRow w.heap.size 38 3 s n xs) ∧ Hid (Below w.heap.size w wr)) ∨ (i = .int .i64 (2 : Nat) ∧ Hid (wr.ownsRow w.heap.size 38 3 s (n + m) (xs ++ ys)) ∧ Hid (Below w.heap.size w wr))) (fun _ i _ => 2 - (intOf i).toNat)
      case atStart => exact .inl ⟨rfl, HO, HBl⟩
      case round =>
        clear HO HBl
        rcases hrel with ⟨rfl, HO, HBl⟩ | ⟨rfl, HO, HBl⟩ | ⟨rfl, HO, HBl⟩
        · have g0 := (HBl.out.cell (p := ⟨g, 0, none⟩) HG.out).trans C0.out
          have HAr := Lib.hid (HA.out.below HBl.out)
          obtain ⟨vA, vc, rfl, _⟩ := own_form HO.out
          have hszr := HBl.out.size
          go_wp2_with (at_builtin; go_loud (refine wpList_append_rd _ rfl (.tmp 31) (.tmp 32) _ rfl w.heap.size 38 i0 (.agg #[.int .u64 0, .int .u64 0, .int .u16 0]) 3 24 Tryz.underlying24 hi hz0 hz1 hz2 rfl (by decide) _ 0 [] rfl HO.out w.heap.size A n a xs rfl HAr.out H1.out (by unfold maxLen; omega) (by omega) hszr ?_); intro v' w3 hown hgr)
          have HB3 := Lib.hid (below_own HBl.out hgr HO.out hszr)
          have HO3 := Lib.hid (show w3.ownsRow w.heap.size 38 3 v' n xs by simpa using hown)
          clear hown hgr
          go_roundw
          case rel => exact .inr (.inl ⟨by simp, HO3, HB3⟩)
          case measure => simp [intOf]
        · have g1 := (HBl.out.cell (p := ⟨g, 1, none⟩) HG.out).trans C1.out
          have HAr := Lib.hid (HB.out.below HBl.out)
          obtain ⟨vA, vc, rfl, _⟩ := own_form HO.out
          have hszr := HBl.out.size
          go_wp2_with (at_builtin; go_loud (refine wpList_append_rd _ rfl (.tmp 31) (.tmp 32) _ rfl w.heap.size 38 i0 (.agg #[.int .u64 0, .int .u64 0, .int .u16 0]) 3 24 Tryz.underlying24 hi hz0 hz1 hz2 rfl (by decide) _ n xs rfl HO.out w.heap.size B m b ys rfl HAr.out H2.out (by unfold maxLen; omega) (by omega) hszr ?_); intro v' w3 hown hgr)
          have HB3 := Lib.hid (below_own HBl.out hgr HO.out hszr)
          have HO3 := Lib.hid hown
          clear hown hgr
          go_roundw
          case rel => exact .inr (.inr ⟨by simp, HO3, HB3⟩)
          case measure => simp [intOf]
        · obtain ⟨vA, vc, rfl, _⟩ := own_form HO.out
          go_wp2
          go_ret
          exact ⟨_, rfl, HO.out, HBl.out⟩
set_option maxRecDepth 100000 in
set_option maxHeartbeats 2000000 in
theorem growReg_ok (n : Nat) (hn : n ≤ 16777216) (w : World) : Calls Tryz.prog 65 #[.slice none 0 0, .int .i64 n] w fun e w' => ∃ v, e = .returned v ∧ w'.ownsRow w.heap.size 40 5 v 0 [] ∧ Below w.heap.size w w' := by
  obtain ⟨i0, hi, hz0, hz1, hz2⟩ := info_parts infoRegion
  by_cases h0 : n = 0
  · subst h0
    go_enter Tryz.func65, Tryz.ntmps65
    go_wp2
    go_ret
    exact ⟨_, rfl, World.ownsRow_nil _ _ _ _, Below.refl _ _⟩
  · have hp : (0 : Int) < (n : Int) := by omega
    obtain ⟨C, W1, hr, hC, hown, hb⟩ := run_grow_nil (P := Tryz.prog) w 25 3 25 40 i0 (.agg #[.int .u64 0, .int .u64 0, .int .u16 0, .int .u8 0, .bool false]) 5 24 Tryz.underlying25 int_und hi hz0 hz1 hz2 rfl (by decide) n (by omega) hn (by decide)
    have HR := Lib.hid hr
    have HO := Lib.hid hown
    have HB := Lib.hid hb
    have hsl := slice_zero (P := Tryz.prog) (t := 25) (sz := 5) Tryz.underlying25 (run_sizeOfC hi hz1) w.heap.size n C hC
    clear hr hown hb h0
    go_enter Tryz.func65, Tryz.ntmps65
    go_wp2_with (at_builtin; go_loud (refine Lib.wpList_append_run _ rfl (.tmp 20) (.tmp 21) _ _ rfl (.slice none 0 0) (.int .i64 n) rfl rfl _ _ HR.out ?_))
    go_ret
    exact ⟨_, rfl, HO.out, HB.out⟩
set_option maxRecDepth 100000 in
set_option maxHeartbeats 4000000 in
theorem concatReg_ok (A B : Option Addr) (n m a b g : Nat) (xs ys : List Value) (w : World) (c0 : w.cell? ⟨g, 0, none⟩ = some (.slice A n a)) (c1 : w.cell? ⟨g, 1, none⟩ = some (.slice B m b)) (hg : g < w.heap.size) (hA : Rd w w.heap.size 5 A n xs) (hB : Rd w w.heap.size 5 B m ys) (h1 : ∀ u ∈ xs, u.oneCell' = true) (h2 : ∀ u ∈ ys, u.oneCell' = true) (hn : n ≤ 4194304) (hm : m ≤ 4194304) :
    Calls Tryz.prog 19 #[.slice (some ⟨g, 0, none⟩) 2 2] w fun e w' => ∃ v, e = .returned v ∧ w'.ownsRow w.heap.size 40 5 v (n + m) (xs ++ ys) ∧ Below w.heap.size w w' := by
  obtain ⟨i0, hi, hz0, hz1, hz2⟩ := info_parts infoRegion
  have HA := Lib.hid hA
  have HB := Lib.hid hB
  have H1 := Lib.hid h1
  have H2 := Lib.hid h2
  have C0 := Lib.hid c0
  have C1 := Lib.hid c1
  have HG := Lib.hid hg
  clear hA hB h1 h2
  go_enter Tryz.func19, Tryz.ntmps19
  go_wp2
  go_loop [3, 11] (fun s i => (s = .int .i64 (0 : Nat) ∧ i = .int .i64 (0 : Nat)) ∨ (s = .int .i64 n ∧ i = .int .i64 (1 : Nat)) ∨ (s = .int .i64 (n + m : Nat) ∧ i = .int .i64 (2 : Nat))) (fun _ i => 2 - (intOf i).toNat)
  case atStart => exact .inl ⟨rfl, rfl⟩
  case round =>
    rcases hrel with ⟨rfl, rfl⟩ | ⟨rfl, rfl⟩ | ⟨rfl, rfl⟩
    · go_wp2
      go_round
      case rel => exact .inr (.inl ⟨by simp, by simp⟩)
      case measure => simp [intOf]
    · go_wp2
      go_round
      case rel => exact .inr (.inr ⟨by simp, by simp⟩)
      case measure => simp [intOf]
    · clear c0 c1 hg
      go_wp2_with fail
      refine (growReg_ok (n + m) (by omega) w).mono ?_
      rintro e w1 ⟨v, rfl, ho, hb⟩
      have HO := Lib.hid ho
      have HBl := Lib.hid hb
      obtain ⟨vA, vc, rfl, _⟩ := own_form ho
      clear ho hb
      go_wp2
      go_loopw [6, 27] (fun s i wr => (i = .int .i64 (0 : Nat) ∧ Hid (wr.ownsRow w.heap.size 40 5 s 0 []) ∧ Hid (Below w.heap.size w wr)) ∨ (i = .int .i64 (1 : Nat) ∧ Hid (wr.ownsRow w.heap.size 40 5 s n xs) ∧ Hid (Below w.heap.size w wr)) ∨ (i = .int .i64 (2 : Nat) ∧ Hid (wr.ownsRow w.heap.size 40 5 s (n + m) (xs ++ ys)) ∧ Hid (Below w.heap.size w wr))) (fun _ i _ => 2 - (intOf i).toNat)
      case atStart => exact .inl ⟨rfl, HO, HBl⟩
      case round =>
        clear HO HBl
        rcases hrel with ⟨rfl, HO, HBl⟩ | ⟨rfl, HO, HBl⟩ | ⟨rfl, HO, HBl⟩
        · have g0 := (HBl.out.cell (p := ⟨g, 0, none⟩) HG.out).trans C0.out
          have HAr := Lib.hid (HA.out.below HBl.out)
          obtain ⟨vA, vc, rfl, _⟩ := own_form HO.out
          have hszr := HBl.out.size
          go_wp2_with (at_builtin; go_loud (refine wpList_append_rd _ rfl (.tmp 31) (.tmp 32) _ rfl w.heap.size 40 i0 (.agg #[.int .u64 0, .int .u64 0, .int .u16 0, .int .u8 0, .bool false]) 5 24 Tryz.underlying25 hi hz0 hz1 hz2 rfl (by decide) _ 0 [] rfl HO.out w.heap.size A n a xs rfl HAr.out H1.out (by unfold maxLen; omega) (by omega) hszr ?_); intro v' w3 hown hgr)
          have HB3 := Lib.hid (below_own HBl.out hgr HO.out hszr)
          have HO3 := Lib.hid (show w3.ownsRow w.heap.size 40 5 v' n xs by simpa using hown)
          clear hown hgr
          go_roundw
          case rel => exact .inr (.inl ⟨by simp, HO3, HB3⟩)
          case measure => simp [intOf]
        · have g1 := (HBl.out.cell (p := ⟨g, 1, none⟩) HG.out).trans C1.out
          have HAr := Lib.hid (HB.out.below HBl.out)
          obtain ⟨vA, vc, rfl, _⟩ := own_form HO.out
          have hszr := HBl.out.size
          go_wp2_with (at_builtin; go_loud (refine wpList_append_rd _ rfl (.tmp 31) (.tmp 32) _ rfl w.heap.size 40 i0 (.agg #[.int .u64 0, .int .u64 0, .int .u16 0, .int .u8 0, .bool false]) 5 24 Tryz.underlying25 hi hz0 hz1 hz2 rfl (by decide) _ n xs rfl HO.out w.heap.size B m b ys rfl HAr.out H2.out (by unfold maxLen; omega) (by omega) hszr ?_); intro v' w3 hown hgr)
          have HB3 := Lib.hid (below_own HBl.out hgr HO.out hszr)
          have HO3 := Lib.hid hown
          clear hown hgr
          go_roundw
          case rel => exact .inr (.inr ⟨by simp, HO3, HB3⟩)
          case measure => simp [intOf]
        · obtain ⟨vA, vc, rfl, _⟩ := own_form HO.out
          go_wp2
          go_ret
          exact ⟨_, rfl, HO.out, HBl.out⟩
set_option maxRecDepth 100000 in
set_option maxHeartbeats 2000000 in
theorem growPrt_ok (n : Nat) (hn : n ≤ 16777216) (w : World) : Calls Tryz.prog 66 #[.slice none 0 0, .int .i64 n] w fun e w' => ∃ v, e = .returned v ∧ w'.ownsRow w.heap.size 43 6 v 0 [] ∧ Below w.heap.size w w' := by
  obtain ⟨i0, hi, hz0, hz1, hz2⟩ := info_parts infoPort
  by_cases h0 : n = 0
  · subst h0
    go_enter Tryz.func66, Tryz.ntmps66
    go_wp2
    go_ret
    exact ⟨_, rfl, World.ownsRow_nil _ _ _ _, Below.refl _ _⟩
  · have hp : (0 : Int) < (n : Int) := by omega
    obtain ⟨C, W1, hr, hC, hown, hb⟩ := run_grow_nil (P := Tryz.prog) w 26 3 26 43 i0 (.agg #[.int .u16 0, .int .u16 0, .string .empty, .bool false, .bool false, .int .u32 0]) 6 32 Tryz.underlying26 int_und hi hz0 hz1 hz2 rfl (by decide) n (by omega) hn (by decide)
    have HR := Lib.hid hr
    have HO := Lib.hid hown
    have HB := Lib.hid hb
    have hsl := slice_zero (P := Tryz.prog) (t := 26) (sz := 6) Tryz.underlying26 (run_sizeOfC hi hz1) w.heap.size n C hC
    clear hr hown hb h0
    go_enter Tryz.func66, Tryz.ntmps66
    go_wp2_with (at_builtin; go_loud (refine Lib.wpList_append_run _ rfl (.tmp 20) (.tmp 21) _ _ rfl (.slice none 0 0) (.int .i64 n) rfl rfl _ _ HR.out ?_))
    go_ret
    exact ⟨_, rfl, HO.out, HB.out⟩
set_option maxRecDepth 100000 in
set_option maxHeartbeats 4000000 in
theorem concatPrt_ok (A B : Option Addr) (n m a b g : Nat) (xs ys : List Value) (w : World) (c0 : w.cell? ⟨g, 0, none⟩ = some (.slice A n a)) (c1 : w.cell? ⟨g, 1, none⟩ = some (.slice B m b)) (hg : g < w.heap.size) (hA : Rd w w.heap.size 6 A n xs) (hB : Rd w w.heap.size 6 B m ys) (h1 : ∀ u ∈ xs, u.oneCell' = true) (h2 : ∀ u ∈ ys, u.oneCell' = true) (hn : n ≤ 4194304) (hm : m ≤ 4194304) :
    Calls Tryz.prog 20 #[.slice (some ⟨g, 0, none⟩) 2 2] w fun e w' => ∃ v, e = .returned v ∧ w'.ownsRow w.heap.size 43 6 v (n + m) (xs ++ ys) ∧ Below w.heap.size w w' := by
  obtain ⟨i0, hi, hz0, hz1, hz2⟩ := info_parts infoPort
  have HA := Lib.hid hA
  have HB := Lib.hid hB
  have H1 := Lib.hid h1
  have H2 := Lib.hid h2
  have C0 := Lib.hid c0
  have C1 := Lib.hid c1
  have HG := Lib.hid hg
  clear hA hB h1 h2
  go_enter Tryz.func20, Tryz.ntmps20
  go_wp2
  go_loop [3, 11] (fun s i => (s = .int .i64 (0 : Nat) ∧ i = .int .i64 (0 : Nat)) ∨ (s = .int .i64 n ∧ i = .int .i64 (1 : Nat)) ∨ (s = .int .i64 (n + m : Nat) ∧ i = .int .i64 (2 : Nat))) (fun _ i => 2 - (intOf i).toNat)
  case atStart => exact .inl ⟨rfl, rfl⟩
  case round =>
    rcases hrel with ⟨rfl, rfl⟩ | ⟨rfl, rfl⟩ | ⟨rfl, rfl⟩
    · go_wp2
      go_round
      case rel => exact .inr (.inl ⟨by simp, by simp⟩)
      case measure => simp [intOf]
    · go_wp2
      go_round
      case rel => exact .inr (.inr ⟨by simp, by simp⟩)
      case measure => simp [intOf]
    · clear c0 c1 hg
      go_wp2_with fail
      refine (growPrt_ok (n + m) (by omega) w).mono ?_
      rintro e w1 ⟨v, rfl, ho, hb⟩
      have HO := Lib.hid ho
      have HBl := Lib.hid hb
      obtain ⟨vA, vc, rfl, _⟩ := own_form ho
      clear ho hb
      go_wp2
      go_loopw [6, 27] (fun s i wr => (i = .int .i64 (0 : Nat) ∧ Hid (wr.ownsRow w.heap.size 43 6 s 0 []) ∧ Hid (Below w.heap.size w wr)) ∨ (i = .int .i64 (1 : Nat) ∧ Hid (wr.ownsRow w.heap.size 43 6 s n xs) ∧ Hid (Below w.heap.size w wr)) ∨ (i = .int .i64 (2 : Nat) ∧ Hid (wr.ownsRow w.heap.size 43 6 s (n + m) (xs ++ ys)) ∧ Hid (Below w.heap.size w wr))) (fun _ i _ => 2 - (intOf i).toNat)
      case atStart => exact .inl ⟨rfl, HO, HBl⟩
      case round =>
        clear HO HBl
        rcases hrel with ⟨rfl, HO, HBl⟩ | ⟨rfl, HO, HBl⟩ | ⟨rfl, HO, HBl⟩
        · have g0 := (HBl.out.cell (p := ⟨g, 0, none⟩) HG.out).trans C0.out
          have HAr := Lib.hid (HA.out.below HBl.out)
          obtain ⟨vA, vc, rfl, _⟩ := own_form HO.out
          have hszr := HBl.out.size
          go_wp2_with (at_builtin; go_loud (refine wpList_append_rd _ rfl (.tmp 31) (.tmp 32) _ rfl w.heap.size 43 i0 (.agg #[.int .u16 0, .int .u16 0, .string .empty, .bool false, .bool false, .int .u32 0]) 6 32 Tryz.underlying26 hi hz0 hz1 hz2 rfl (by decide) _ 0 [] rfl HO.out w.heap.size A n a xs rfl HAr.out H1.out (by unfold maxLen; omega) (by omega) hszr ?_); intro v' w3 hown hgr)
          have HB3 := Lib.hid (below_own HBl.out hgr HO.out hszr)
          have HO3 := Lib.hid (show w3.ownsRow w.heap.size 43 6 v' n xs by simpa using hown)
          clear hown hgr
          go_roundw
          case rel => exact .inr (.inl ⟨by simp, HO3, HB3⟩)
          case measure => simp [intOf]
        · have g1 := (HBl.out.cell (p := ⟨g, 1, none⟩) HG.out).trans C1.out
          have HAr := Lib.hid (HB.out.below HBl.out)
          obtain ⟨vA, vc, rfl, _⟩ := own_form HO.out
          have hszr := HBl.out.size
          go_wp2_with (at_builtin; go_loud (refine wpList_append_rd _ rfl (.tmp 31) (.tmp 32) _ rfl w.heap.size 43 i0 (.agg #[.int .u16 0, .int .u16 0, .string .empty, .bool false, .bool false, .int .u32 0]) 6 32 Tryz.underlying26 hi hz0 hz1 hz2 rfl (by decide) _ n xs rfl HO.out w.heap.size B m b ys rfl HAr.out H2.out (by unfold maxLen; omega) (by omega) hszr ?_); intro v' w3 hown hgr)
          have HB3 := Lib.hid (below_own HBl.out hgr HO.out hszr)
          have HO3 := Lib.hid hown
          clear hown hgr
          go_roundw
          case rel => exact .inr (.inr ⟨by simp, HO3, HB3⟩)
          case measure => simp [intOf]
        · obtain ⟨vA, vc, rfl, _⟩ := own_form HO.out
          go_wp2
          go_ret
          exact ⟨_, rfl, HO.out, HBl.out⟩
set_option maxRecDepth 100000 in
set_option maxHeartbeats 2000000 in
theorem growChn_ok (n : Nat) (hn : n ≤ 16777216) (w : World) : Calls Tryz.prog 67 #[.slice none 0 0, .int .i64 n] w fun e w' => ∃ v, e = .returned v ∧ w'.ownsRow w.heap.size 46 3 v 0 [] ∧ Below w.heap.size w w' := by
  obtain ⟨i0, hi, hz0, hz1, hz2⟩ := info_parts infoChannel
  by_cases h0 : n = 0
  · subst h0
    go_enter Tryz.func67, Tryz.ntmps67
    go_wp2
    go_ret
    exact ⟨_, rfl, World.ownsRow_nil _ _ _ _, Below.refl _ _⟩
  · have hp : (0 : Int) < (n : Int) := by omega
    obtain ⟨C, W1, hr, hC, hown, hb⟩ := run_grow_nil (P := Tryz.prog) w 27 3 27 46 i0 (.agg #[.int .u16 0, .int .u16 0, .slice none 0 0]) 3 32 Tryz.underlying27 int_und hi hz0 hz1 hz2 rfl (by decide) n (by omega) hn (by decide)
    have HR := Lib.hid hr
    have HO := Lib.hid hown
    have HB := Lib.hid hb
    have hsl := slice_zero (P := Tryz.prog) (t := 27) (sz := 3) Tryz.underlying27 (run_sizeOfC hi hz1) w.heap.size n C hC
    clear hr hown hb h0
    go_enter Tryz.func67, Tryz.ntmps67
    go_wp2_with (at_builtin; go_loud (refine Lib.wpList_append_run _ rfl (.tmp 20) (.tmp 21) _ _ rfl (.slice none 0 0) (.int .i64 n) rfl rfl _ _ HR.out ?_))
    go_ret
    exact ⟨_, rfl, HO.out, HB.out⟩
set_option maxRecDepth 100000 in
set_option maxHeartbeats 4000000 in
theorem concatChn_ok (A B : Option Addr) (n m a b g : Nat) (xs ys : List Value) (w : World) (c0 : w.cell? ⟨g, 0, none⟩ = some (.slice A n a)) (c1 : w.cell? ⟨g, 1, none⟩ = some (.slice B m b)) (hg : g < w.heap.size) (hA : Rd w w.heap.size 3 A n xs) (hB : Rd w w.heap.size 3 B m ys) (h1 : ∀ u ∈ xs, u.oneCell' = true) (h2 : ∀ u ∈ ys, u.oneCell' = true) (hn : n ≤ 4194304) (hm : m ≤ 4194304) :
    Calls Tryz.prog 21 #[.slice (some ⟨g, 0, none⟩) 2 2] w fun e w' => ∃ v, e = .returned v ∧ w'.ownsRow w.heap.size 46 3 v (n + m) (xs ++ ys) ∧ Below w.heap.size w w' := by
  obtain ⟨i0, hi, hz0, hz1, hz2⟩ := info_parts infoChannel
  have HA := Lib.hid hA
  have HB := Lib.hid hB
  have H1 := Lib.hid h1
  have H2 := Lib.hid h2
  have C0 := Lib.hid c0
  have C1 := Lib.hid c1
  have HG := Lib.hid hg
  clear hA hB h1 h2
  go_enter Tryz.func21, Tryz.ntmps21
  go_wp2
  go_loop [3, 11] (fun s i => (s = .int .i64 (0 : Nat) ∧ i = .int .i64 (0 : Nat)) ∨ (s = .int .i64 n ∧ i = .int .i64 (1 : Nat)) ∨ (s = .int .i64 (n + m : Nat) ∧ i = .int .i64 (2 : Nat))) (fun _ i => 2 - (intOf i).toNat)
  case atStart => exact .inl ⟨rfl, rfl⟩
  case round =>
    rcases hrel with ⟨rfl, rfl⟩ | ⟨rfl, rfl⟩ | ⟨rfl, rfl⟩
    · go_wp2
      go_round
      case rel => exact .inr (.inl ⟨by simp, by simp⟩)
      case measure => simp [intOf]
    · go_wp2
      go_round
      case rel => exact .inr (.inr ⟨by simp, by simp⟩)
      case measure => simp [intOf]
    · clear c0 c1 hg
      go_wp2_with fail
      refine (growChn_ok (n + m) (by omega) w).mono ?_
      rintro e w1 ⟨v, rfl, ho, hb⟩
      have HO := Lib.hid ho
      have HBl := Lib.hid hb
      obtain ⟨vA, vc, rfl, _⟩ := own_form ho
      clear ho hb
      go_wp2
      go_loopw [6, 27] (fun s i wr => (i = .int .i64 (0 : Nat) ∧ Hid (wr.ownsRow w.heap.size 46 3 s 0 []) ∧ Hid (Below w.heap.size w wr)) ∨ (i = .int .i64 (1 : Nat) ∧ Hid (wr.ownsRow w.heap.size 46 3 s n xs) ∧ Hid (Below w.heap.size w wr)) ∨ (i = .int .i64 (2 : Nat) ∧ Hid (wr.ownsRow w.heap.size 46 3 s (n + m) (xs ++ ys)) ∧ Hid (Below w.heap.size w wr))) (fun _ i _ => 2 - (intOf i).toNat)
      case atStart => exact .inl ⟨rfl, HO, HBl⟩
      case round =>
        clear HO HBl
        rcases hrel with ⟨rfl, HO, HBl⟩ | ⟨rfl, HO, HBl⟩ | ⟨rfl, HO, HBl⟩
        · have g0 := (HBl.out.cell (p := ⟨g, 0, none⟩) HG.out).trans C0.out
          have HAr := Lib.hid (HA.out.below HBl.out)
          obtain ⟨vA, vc, rfl, _⟩ := own_form HO.out
          have hszr := HBl.out.size
          go_wp2_with (at_builtin; go_loud (refine wpList_append_rd _ rfl (.tmp 31) (.tmp 32) _ rfl w.heap.size 46 i0 (.agg #[.int .u16 0, .int .u16 0, .slice none 0 0]) 3 32 Tryz.underlying27 hi hz0 hz1 hz2 rfl (by decide) _ 0 [] rfl HO.out w.heap.size A n a xs rfl HAr.out H1.out (by unfold maxLen; omega) (by omega) hszr ?_); intro v' w3 hown hgr)
          have HB3 := Lib.hid (below_own HBl.out hgr HO.out hszr)
          have HO3 := Lib.hid (show w3.ownsRow w.heap.size 46 3 v' n xs by simpa using hown)
          clear hown hgr
          go_roundw
          case rel => exact .inr (.inl ⟨by simp, HO3, HB3⟩)
          case measure => simp [intOf]
        · have g1 := (HBl.out.cell (p := ⟨g, 1, none⟩) HG.out).trans C1.out
          have HAr := Lib.hid (HB.out.below HBl.out)
          obtain ⟨vA, vc, rfl, _⟩ := own_form HO.out
          have hszr := HBl.out.size
          go_wp2_with (at_builtin; go_loud (refine wpList_append_rd _ rfl (.tmp 31) (.tmp 32) _ rfl w.heap.size 46 i0 (.agg #[.int .u16 0, .int .u16 0, .slice none 0 0]) 3 32 Tryz.underlying27 hi hz0 hz1 hz2 rfl (by decide) _ n xs rfl HO.out w.heap.size B m b ys rfl HAr.out H2.out (by unfold maxLen; omega) (by omega) hszr ?_); intro v' w3 hown hgr)
          have HB3 := Lib.hid (below_own HBl.out hgr HO.out hszr)
          have HO3 := Lib.hid hown
          clear hown hgr
          go_roundw
          case rel => exact .inr (.inr ⟨by simp, HO3, HB3⟩)
          case measure => simp [intOf]
        · obtain ⟨vA, vc, rfl, _⟩ := own_form HO.out
          go_wp2
          go_ret
          exact ⟨_, rfl, HO.out, HBl.out⟩
end Go.Proofs.YtldchpmilknlmaaGreat
