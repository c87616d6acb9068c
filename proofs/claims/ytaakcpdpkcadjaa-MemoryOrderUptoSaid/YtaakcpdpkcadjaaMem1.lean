/-
  Package memory: span, spans, the checker's region, the function that Check passes to sweep.First; sweep.Valid: walked.
-/
import Derived.BigQuiet
import Derived.OpenShut
import Derived.Test.YtaakcpdpkcadjaaSt
import Derived.Test.YtaakcpdpkcadjaaIndex
import Derived.Test.YtaakcpdpkcadjaaVisitP
namespace Go.Proofs.Ytaakcpdpkcadjaa
open Go.RowKit
attribute [local go_sem] ext_cell
theorem bool_cases (b : Bool) : b = true ∨ b = false := by cases b <;> simp
structure RgBox (w : World) (g : Nat) (x : Reg) : Prop where
  h0 : w.cell? ⟨g, 0, none⟩ = some (.int .u64 x.base)
  h1 : w.cell? ⟨g, 1, none⟩ = some (.int .u64 x.size)
  h2 : w.cell? ⟨g, 2, none⟩ = some (.int .u16 x.part)
  h3 : w.cell? ⟨g, 3, none⟩ = some (.int .u8 x.rights)
  h4 : w.cell? ⟨g, 4, none⟩ = some (.bool x.shared)
  lt : g < w.heap.size
theorem RgBox.up {w w' : World} {g : Nat} {x : Reg} (h : RgBox w g x) (hb : Below w.heap.size w w') : RgBox w' g x := by
  obtain ⟨h0, h1, h2, h3, h4, hg⟩ := h
  have q : ∀ j, w'.cell? ⟨g, j, none⟩ = w.cell? ⟨g, j, none⟩ := fun j => hb.cell (p := ⟨g, j, none⟩) hg
  exact ⟨(q 0).trans h0, (q 1).trans h1, (q 2).trans h2, (q 3).trans h3, (q 4).trans h4, Nat.lt_of_lt_of_le hg hb.size⟩
theorem RgBox.new (w : World) (x : Reg) (t : TypeId) : ∃ W, w.alloc (.cells #[.int .u64 x.base, .int .u64 x.size, .int .u16 x.part, .int .u8 x.rights, .bool x.shared] t) = W ∧ RgBox W w.heap.size x ∧ Below w.heap.size w W :=
  ⟨_, rfl, ⟨by simp, by simp, by simp, by simp, by simp, by simp⟩, below_one _ _⟩
def Reg.val (x : Reg) : Value := .agg #[.int .u64 x.base, .int .u64 x.size, .int .u16 x.part, .int .u8 x.rights, .bool x.shared]
def spnOf (x : Reg) : Spn := ⟨x.base, x.size⟩
theorem memSpan_ok (x : Reg) (w : World) : Calls Try.prog 46 #[.agg #[.int .u64 x.base, .int .u64 x.size, .int .u16 x.part, .int .u8 x.rights, .bool x.shared]] w fun e w' => e = .returned (.agg #[.int .u64 x.base, .int .u64 x.size]) ∧ Below w.heap.size w w' := by
  obtain ⟨W1, hW, rb, hb1⟩ := RgBox.new w x 43
  obtain ⟨p0, p1, _, _, _, hz⟩ := rb
  go_enter Try.func46, Try.ntmps46
  have hb2 := below_one W1 (.cells #[.int .u64 x.base, .int .u64 x.size] 75)
  go_wp2
  refine bodyPost_ret (v := .agg #[.int .u64 x.base, .int .u64 x.size]) (by simp [results, Try.results46, go_sem]) rfl ⟨rfl, ?_⟩
  exact Below.then_ hb1 hb2
/-- a span is valid: it has a number, and its last one is no less than its first -/
def validB (lo len : Int) : Bool := decide (1 ≤ len ∧ lo + len ≤ 18446744073709551616)
theorem validB_ok {lo len : Int} (h0 : 0 ≤ lo) (h : validB lo len = true) : okSp lo len := by
  have := of_decide_eq_true h
  exact ⟨h0, this.1, this.2⟩
theorem spanLast_over (lo len : Int) (w : World) (h0 : wU64 lo) (h1 : wU64 len) (h : 18446744073709551616 < lo + len) : Calls Try.prog 48 #[.agg #[.int .u64 lo, .int .u64 len]] w fun e w' => e = .returned (.int .u64 (lo + len - 1 - 18446744073709551616)) ∧ Below w.heap.size w w' := by
  have a0 : 0 ≤ lo ∧ lo ≤ 18446744073709551615 := Go.bounds_u64 h0
  have a1 : 0 ≤ len ∧ len ≤ 18446744073709551615 := Go.bounds_u64 h1
  have e1 : IntKind.u64.wrap (IntKind.u64.wrap (lo + len) - 1) = lo + len - 1 - 18446744073709551616 := by
    rw [IntKind.wrap_u64, IntKind.wrap_u64]; omega
  have E := Lib.hid e1
  clear e1
  go_enter Try.func48, Try.ntmps48
  go_wp2
  go_ret
  exact ⟨ret_int E.out, below_one _ _⟩
set_option maxRecDepth 100000 in
set_option maxHeartbeats 1000000 in
theorem swpValid_ok (lo len : Int) (w : World) (h0 : wU64 lo) (h1 : wU64 len) : Calls Try.prog 31 #[.agg #[.int .u64 lo, .int .u64 len]] w fun e w' => e = .returned (.bool (validB lo len)) ∧ Below w.heap.size w w' := by
  have a0 := Go.bounds_u64 h0
  have a1 := Go.bounds_u64 h1
  have hb := below_one w (.cells #[.int .u64 lo, .int .u64 len] 75)
  by_cases hl : len = 0
  · subst hl
    have HV := Lib.hid (show validB lo 0 = false by simp [validB])
    go_enter Try.func31, Try.ntmps31
    go_wp2
    go_quiet (fail)
    go_wp2
    go_ret
    exact ⟨ret_bool HV.out.symm, below_drewN hb _⟩
  · have hg : decide (0 < len) = true := decide_eq_true (by omega)
    by_cases hv : lo + len ≤ 18446744073709551616
    · have HV := Lib.hid (show validB lo len = true by unfold validB; exact decide_eq_true ⟨by omega, hv⟩)
      have HL := spanLast_ok lo len (w.alloc (.cells #[.int .u64 lo, .int .u64 len] 75)) ⟨a0.1, by omega, hv⟩
      have hge : decide (lo ≤ lo + len - 1) = true := decide_eq_true (by omega)
      go_enter Try.func31, Try.ntmps31
      go_upto_region 1 with (fail)
      refine wp_region_ext (by kernel_rfl) (by kernel_rfl) ?_
      repeat (go_big_quiet_step ((go_at_call 48; exact Calls.quiet_ext (spanLast_ok lo len _ ⟨a0.1, by omega, hv⟩))))
      refine wpQuiet_nil ?_
      intro xq
      go_wp2
      go_ret
      exact ⟨ret_bool HV.out.symm, Below.then_ hb (ext_below _ _)⟩
    · have HV := Lib.hid (show validB lo len = false by unfold validB; exact decide_eq_false (by omega))
      have hge : decide (lo ≤ lo + len - 1 - 18446744073709551616) = false := decide_eq_false (by omega)
      go_enter Try.func31, Try.ntmps31
      go_upto_region 1 with (fail)
      refine wp_region_ext (by kernel_rfl) (by kernel_rfl) ?_
      repeat (go_big_quiet_step ((go_at_call 48; exact Calls.quiet_ext (spanLast_over lo len _ h0 h1 (by omega)))))
      refine wpQuiet_nil ?_
      intro xq
      go_wp2
      go_ret
      exact ⟨ret_bool HV.out.symm, Below.then_ hb (ext_below _ _)⟩
theorem iPart_valM (c : Cfg) (g : Nat) (id : Int) (w : World) (h : IdxAt w w.heap.size g c) (hid : wU16 id) (v : Int) (hv : Hid (idx (fun x => x.id == id) c.parts = v)) :
    Calls Try.prog 45 #[.pointer (some ⟨g, 0, none⟩), .int .u16 id] w fun e w' => e = .returned (.int .i64 v) ∧ Below w.heap.size w w' := by
  have h := iPartition_ok c g id w h hid
  rwa [hv.out] at h
def regCode (c : Cfg) (r : Reg) : Int := if idx (fun y => y.id == r.part) c.parts < 0 then 19 else if validB r.base r.size then 0 else 24
set_option maxRecDepth 100000 in
set_option maxHeartbeats 1000000 in
theorem memRegion_ok (c : Cfg) (gi : Nat) (w : World) (hI : IdxAt w w.heap.size gi c) (r : Reg) (hr : r.ok) :
    Calls Try.prog 26 #[.agg #[.pointer (some ⟨gi, 0, none⟩)], .agg #[.int .u64 r.base, .int .u64 r.size, .int .u16 r.part, .int .u8 r.rights, .bool r.shared]] w fun e w' => e = .returned (.int .i64 (regCode c r)) ∧ Below w.heap.size w w' := by
  have hb0 := below_one w (.cells #[.pointer (some ⟨gi, 0, none⟩)] 69)
  have hc0 : (w.alloc (.cells #[.pointer (some ⟨gi, 0, none⟩)] 69)).cell? ⟨w.heap.size, 0, none⟩ = some (.pointer (some ⟨gi, 0, none⟩)) := by simp
  obtain ⟨W1, hW1, rb, hb1⟩ := RgBox.new (w.alloc (.cells #[.pointer (some ⟨gi, 0, none⟩)] 69)) r 43
  rw [World.size_alloc] at rb
  have k0 := (hb1.cell (p := ⟨w.heap.size, 0, none⟩) (by rw [World.size_alloc]; exact Nat.lt_succ_self _)).trans hc0
  have HB := Lib.hid (Below.then_ hb0 hb1)
  have HI := Lib.hid (hI.up HB.out)
  have HRB := Lib.hid rb
  have HW := Lib.hid hW1
  have HRO := Lib.hid hr
  obtain ⟨p0, p1, p2, p3, p4, hz⟩ := rb
  have hz0 : w.heap.size < W1.heap.size := Nat.lt_of_lt_of_le (Nat.lt_succ_self _) (Nat.le_of_lt hz)
  clear hb0 hc0 hb1 hW1 hI hr
  obtain ⟨v, hv⟩ : ∃ v, idx (fun y => y.id == r.part) c.parts = v := ⟨_, rfl⟩
  have HV := Lib.hid hv
  by_cases hi : v < 0
  · have HC := Lib.hid (show regCode c r = 19 by unfold regCode; rw [hv, if_pos hi])
    clear hv
    go_enter Try.func26, Try.ntmps26
    go_upto_region 1 with (fail)
    rw [HW.out]
    go_wp2_with fail
    refine (iPart_valM c gi r.part W1 HI.out HRO.out.part v HV).mono ?_
    rintro e w2 ⟨rfl, hb2⟩
    have HB2 := Lib.hid (Below.then_ HB.out hb2)
    clear hb2 k0 p0 p1 p2 p3 p4
    go_wp2
    go_ret
    exact ⟨ret_int HC.out.symm, HB2.out⟩
  · obtain ⟨vb, hvb⟩ : ∃ vb, validB r.base r.size = vb := ⟨_, rfl⟩
    have HVB := Lib.hid hvb
    have HC := Lib.hid (show regCode c r = if vb then 0 else 24 by unfold regCode; rw [hv, if_neg hi, hvb])
    have hi2 : decide (v < 0) = false := decide_eq_false hi
    clear hv hvb
    go_enter Try.func26, Try.ntmps26
    go_upto_region 1 with (fail)
    rw [HW.out]
    go_wp2_with fail
    refine (iPart_valM c gi r.part W1 HI.out HRO.out.part v HV).mono ?_
    rintro e w2 ⟨rfl, hb2⟩
    have HB2 := Lib.hid (Below.then_ HB.out hb2)
    have HRB2 := Lib.hid (HRB.out.up hb2)
    clear hb2 k0 p0 p1 p2 p3 p4 hz
    obtain ⟨p0, p1, p2, p3, p4, hz⟩ := HRB2.out
    go_wp2_with fail
    refine (memSpan_ok r w2).mono ?_
    rintro e w3 ⟨rfl, hb3⟩
    have HB3 := Lib.hid (Below.then_ HB2.out hb3)
    clear hb3 p0 p1 p2 p3 p4 hz
    go_wp2_with fail
    refine (swpValid_ok r.base r.size w3 HRO.out.base HRO.out.size).mono ?_
    rw [HVB.out]
    rintro e w4 ⟨rfl, hb4⟩
    have HB4 := Lib.hid (Below.then_ HB3.out hb4)
    clear hb4
    cases vb
    · go_wp2
      go_ret
      exact ⟨ret_int HC.out.symm, HB4.out⟩
    · go_wp2
      go_ret
      exact ⟨ret_int HC.out.symm, HB4.out⟩
end Go.Proofs.Ytaakcpdpkcadjaa
