/-
  The references of layers 14 and 17: Span, Last, Valid, Has, Meet, walked.
-/
import Derived.Test.YtaakcpdpkcadjaaMem2
import Derived.Test.YtaakcpdpkcadjaaWire
import Derived.Test.YtaakcpdpkcadjaaRef13b
namespace Go.Proofs.Ytaakcpdpkcadjaa
open Go.RowKit
attribute [local go_sem] ext_cell
theorem ret_pairM {p q : Int × Int} (h : p = q) : Ending.returned (.tuple #[.int .i64 p.1, .int .i64 p.2]) = .returned (.tuple #[.int .i64 q.1, .int .i64 q.2]) := by rw [h]
theorem rSpan_ok (x : Reg) (w : World) : Calls Try.prog 23 #[.agg #[.int .u64 x.base, .int .u64 x.size, .int .u16 x.part, .int .u8 x.rights, .bool x.shared]] w fun e w' => e = .returned (.agg #[.int .u64 x.base, .int .u64 x.size]) ∧ Below w.heap.size w w' := by
  obtain ⟨W1, hW, rb, hb1⟩ := RgBox.new w x 43
  obtain ⟨p0, p1, _, _, _, hz⟩ := rb
  have hb2 := below_one W1 (.cells #[.int .u64 x.base, .int .u64 x.size] 62)
  go_enter Try.func23, Try.ntmps23
  go_wp2
  refine bodyPost_ret (v := .agg #[.int .u64 x.base, .int .u64 x.size]) (by simp [results, Try.results23, go_sem]) rfl ⟨rfl, ?_⟩
  exact Below.then_ hb1 hb2
theorem rLast_ok (lo len : Int) (w : World) (h : okSp lo len) : Calls Try.prog 34 #[.agg #[.int .u64 lo, .int .u64 len]] w fun e w' => e = .returned (.int .u64 (lo + len - 1)) ∧ Below w.heap.size w w' := by
  obtain ⟨h0, h1, h2⟩ := h
  have e1 : IntKind.u64.wrap (lo + IntKind.u64.wrap (len - 1)) = lo + len - 1 := by
    rw [IntKind.wrap_u64, IntKind.wrap_u64]; omega
  have E := Lib.hid e1
  clear e1
  go_enter Try.func34, Try.ntmps34
  go_wp2
  go_ret
  exact ⟨ret_int (by omega), below_one _ _⟩
theorem rLast_over (lo len : Int) (w : World) (h0 : wU64 lo) (h1 : wU64 len) (h : 18446744073709551616 < lo + len) : Calls Try.prog 34 #[.agg #[.int .u64 lo, .int .u64 len]] w fun e w' => e = .returned (.int .u64 (lo + len - 1 - 18446744073709551616)) ∧ Below w.heap.size w w' := by
  have a0 := Go.bounds_u64 h0
  have a1 := Go.bounds_u64 h1
  have e1 : IntKind.u64.wrap (lo + (len - 1)) = lo + len - 1 - 18446744073709551616 := by
    rw [IntKind.wrap_u64]; omega
  have E := Lib.hid e1
  clear e1
  go_enter Try.func34, Try.ntmps34
  go_wp2
  go_ret
  exact ⟨ret_int E.out, below_one _ _⟩
set_option maxRecDepth 100000 in
set_option maxHeartbeats 1000000 in
theorem rValid_ok (lo len : Int) (w : World) (h0 : wU64 lo) (h1 : wU64 len) : Calls Try.prog 22 #[.agg #[.int .u64 lo, .int .u64 len]] w fun e w' => e = .returned (.bool (validB lo len)) ∧ Below w.heap.size w w' := by
  have a0 := Go.bounds_u64 h0
  have a1 := Go.bounds_u64 h1
  have hb := below_one w (.cells #[.int .u64 lo, .int .u64 len] 62)
  by_cases hl : len = 0
  · subst hl
    have HV := Lib.hid (show validB lo 0 = false by simp [validB])
    go_enter Try.func22, Try.ntmps22
    go_wp2
    go_quiet (fail)
    go_wp2
    go_ret
    exact ⟨ret_bool HV.out.symm, below_drewN hb _⟩
  · have hg : decide (1 ≤ len) = true := decide_eq_true (by omega)
    have hg2 : 1 ≤ len := by omega
    by_cases hv : lo + len ≤ 18446744073709551616
    · have HV := Lib.hid (show validB lo len = true by unfold validB; exact decide_eq_true ⟨by omega, hv⟩)
      have hge : decide (lo ≤ lo + len - 1) = true := decide_eq_true (by omega)
      have hge2 : lo ≤ lo + len - 1 := by omega
      go_enter Try.func22, Try.ntmps22
      go_upto_region 1 with (fail)
      refine wp_region_ext (by kernel_rfl) (by kernel_rfl) ?_
      repeat (go_big_quiet_step ((go_at_call 34; exact Calls.quiet_ext (rLast_ok lo len _ ⟨a0.1, by omega, hv⟩))))
      refine wpQuiet_nil ?_
      intro xq
      go_wp2
      go_ret
      exact ⟨ret_bool HV.out.symm, Below.then_ hb (ext_below _ _)⟩
    · have HV := Lib.hid (show validB lo len = false by unfold validB; exact decide_eq_false (by omega))
      have hge : decide (lo ≤ lo + len - 1 - 18446744073709551616) = false := decide_eq_false (by omega)
      go_enter Try.func22, Try.ntmps22
      go_upto_region 1 with (fail)
      refine wp_region_ext (by kernel_rfl) (by kernel_rfl) ?_
      repeat (go_big_quiet_step ((go_at_call 34; exact Calls.quiet_ext (rLast_over lo len _ h0 h1 (by omega)))))
      refine wpQuiet_nil ?_
      intro xq
      go_wp2
      go_ret
      exact ⟨ret_bool HV.out.symm, Below.then_ hb (ext_below _ _)⟩
/-- a valid span has a number; two valid spans have a number in common -/
def hasS (s : Spn) (v : Int) : Bool := decide (s.lo ≤ v) && decide (v ≤ s.lo + s.len - 1)
def meetS (a b : Spn) : Bool := hasS a b.lo || hasS b a.lo
theorem rHas_ok (s : Spn) (v : Int) (w : World) (h : okSp s.lo s.len) : Calls Try.prog 30 #[.agg #[.int .u64 s.lo, .int .u64 s.len], .int .u64 v] w fun e w' => e = .returned (.bool (hasS s v)) ∧ Below w.heap.size w w' := by
  have hb := below_one w (.cells #[.int .u64 s.lo, .int .u64 s.len] 62)
  by_cases h1 : s.lo ≤ v
  · have HV := Lib.hid (show hasS s v = decide (v ≤ s.lo + s.len - 1) by unfold hasS; rw [decide_eq_true h1, Bool.true_and])
    go_enter Try.func30, Try.ntmps30
    go_wp2_with fail
    refine (rLast_ok s.lo s.len _ h).mono ?_
    rintro e w1 ⟨rfl, hb1⟩
    have HB := Lib.hid (Below.then_ hb hb1)
    clear hb hb1
    rcases Decidable.em (v ≤ s.lo + s.len - 1) with h2 | h2
    · go_wp2
      go_ret
      exact ⟨ret_bool (by rw [HV.out]; first | done | simp [h2]), HB.out⟩
    · go_wp2
      go_ret
      exact ⟨ret_bool (by rw [HV.out]; first | done | simp [h2]), HB.out⟩
  · have HV := Lib.hid (show hasS s v = false by unfold hasS; rw [decide_eq_false h1, Bool.false_and])
    go_enter Try.func30, Try.ntmps30
    go_wp2
    go_ret
    exact ⟨ret_bool HV.out.symm, hb⟩
theorem rMeet_ok (a b : Spn) (w : World) (ha : okSp a.lo a.len) (hb : okSp b.lo b.len) : Calls Try.prog 24 #[.agg #[.int .u64 a.lo, .int .u64 a.len], .agg #[.int .u64 b.lo, .int .u64 b.len]] w fun e w' => e = .returned (.bool (meetS a b)) ∧ Below w.heap.size w w' := by
  have hb0 := below_one w (.cells #[.int .u64 a.lo, .int .u64 a.len] 62)
  have hb1 := below_one (w.alloc (.cells #[.int .u64 a.lo, .int .u64 a.len] 62)) (.cells #[.int .u64 b.lo, .int .u64 b.len] 62)
  have HB := Lib.hid (Below.then_ hb0 hb1)
  obtain ⟨v1, hv1⟩ : ∃ v, hasS a b.lo = v := ⟨_, rfl⟩
  obtain ⟨v2, hv2⟩ : ∃ v, hasS b a.lo = v := ⟨_, rfl⟩
  have HV := Lib.hid (show meetS a b = (v1 || v2) by unfold meetS; rw [hv1, hv2])
  have H1 := Lib.hid hv1
  have H2 := Lib.hid hv2
  have hk0 : ((w.alloc (.cells #[.int .u64 a.lo, .int .u64 a.len] 62)).alloc (.cells #[.int .u64 b.lo, .int .u64 b.len] 62)).cell? ⟨w.heap.size, 0, none⟩ = some (.int .u64 a.lo) := by simp
  have hk2 : ((w.alloc (.cells #[.int .u64 a.lo, .int .u64 a.len] 62)).alloc (.cells #[.int .u64 b.lo, .int .u64 b.len] 62)).cell? ⟨w.heap.size + 1, 0, none⟩ = some (.int .u64 b.lo) := by simp
  have hk3 : ((w.alloc (.cells #[.int .u64 a.lo, .int .u64 a.len] 62)).alloc (.cells #[.int .u64 b.lo, .int .u64 b.len] 62)).cell? ⟨w.heap.size + 1, 1, none⟩ = some (.int .u64 b.len) := by simp
  have hsz : ((w.alloc (.cells #[.int .u64 a.lo, .int .u64 a.len] 62)).alloc (.cells #[.int .u64 b.lo, .int .u64 b.len] 62)).heap.size = w.heap.size + 2 := by simp
  clear hv1 hv2 hb0 hb1
  cases v1
  · go_enter Try.func24, Try.ntmps24
    go_wp2_with fail
    refine (rHas_ok a b.lo _ ha).mono ?_
    rw [H1.out]
    rintro e w1 ⟨rfl, hb1⟩
    have q0 := (hb1.cell (p := ⟨w.heap.size, 0, none⟩) (by show w.heap.size < _; rw [hsz]; omega)).trans hk0
    have q2 := (hb1.cell (p := ⟨w.heap.size + 1, 0, none⟩) (by show w.heap.size + 1 < _; rw [hsz]; omega)).trans hk2
    have q3 := (hb1.cell (p := ⟨w.heap.size + 1, 1, none⟩) (by show w.heap.size + 1 < _; rw [hsz]; omega)).trans hk3
    have HB1 := Lib.hid (Below.then_ HB.out hb1)
    clear hb1 hk0 hk2 hk3 hsz
    go_wp2_with fail
    refine (rHas_ok b a.lo _ hb).mono ?_
    rw [H2.out]
    rintro e w2 ⟨rfl, hb2⟩
    have HB2 := Lib.hid (Below.then_ HB1.out hb2)
    clear hb2 q0 q2 q3
    go_wp2
    go_ret
    exact ⟨ret_bool (by rw [HV.out]; rfl), HB2.out⟩
  · go_enter Try.func24, Try.ntmps24
    go_wp2_with fail
    refine (rHas_ok a b.lo _ ha).mono ?_
    rw [H1.out]
    rintro e w1 ⟨rfl, hb1⟩
    have HB1 := Lib.hid (Below.then_ HB.out hb1)
    clear hb1 hk0 hk2 hk3 hsz
    go_wp2
    go_ret
    exact ⟨ret_bool (by rw [HV.out]; rfl), HB1.out⟩
end Go.Proofs.Ytaakcpdpkcadjaa
