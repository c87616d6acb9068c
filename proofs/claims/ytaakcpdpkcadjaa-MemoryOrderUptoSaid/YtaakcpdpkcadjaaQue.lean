/-
  The queue of package sweep in memory; its methods Len and Less; the two orders. No condition but on sizes.
-/
import Derived.Test.YtaakcpdpkcadjaaHeapP
import Derived.Test.YtaakcpdpkcadjaaOwnG
import Derived.Test.YtaakcpdpkcadjaaSt
import Derived.IntWalk
import Derived.Shelf.Abstract
namespace Go.Proofs.Ytaakcpdpkcadjaa
open Go.RowKit Go.Shelf
attribute [local go_sem] ext_cell
def Itm.cells (x : Itm) : List Value := [.int .u64 x.lo, .int .u64 x.len, .int .i64 x.idx]
@[reducible] def Itm.val (x : Itm) : Value := .agg #[.int .u64 x.lo, .int .u64 x.len, .int .i64 x.idx]
theorem oneItm (l : List Itm) : ∀ u ∈ l.flatMap Itm.cells, u.oneCell' = true := by
  intro u hu
  obtain ⟨x, _, hx⟩ := List.mem_flatMap.1 hu
  simp [Itm.cells] at hx
  rcases hx with rfl | rfl | rfl <;> rfl
theorem itm_at {w : World} {B : Nat} {A : Option Addr} {l : List Itm} {k : Nat} {x : Itm} (h : Rd w B 3 A l.length (l.flatMap Itm.cells)) (hk : l[k]? = some x) :
    ∃ b o, A = some ⟨b, o, none⟩ ∧ b < B ∧ w.cell? ⟨b, o + k * 3, none⟩ = some (.int .u64 x.lo) ∧ w.cell? ⟨b, o + k * 3 + 1, none⟩ = some (.int .u64 x.len) ∧ w.cell? ⟨b, o + k * 3 + 2, none⟩ = some (.int .i64 x.idx) := by
  obtain ⟨b, o, e, hb, hc⟩ := Rd.get (f := Itm.cells) (sz := 3) (fun _ => rfl) h hk
  exact ⟨b, o, e, hb, hc 0 _ rfl, hc 1 _ rfl, hc 2 _ rfl⟩
/-- a span that is not empty and does not run over the end -/
def okSp (lo len : Int) : Prop := 0 ≤ lo ∧ 1 ≤ len ∧ lo + len ≤ 18446744073709551616
theorem spanLast_ok (lo len : Int) (w : World) (h : okSp lo len) : Calls Try.prog 48 #[.agg #[.int .u64 lo, .int .u64 len]] w fun e w' => e = .returned (.int .u64 (lo + len - 1)) ∧ Below w.heap.size w w' := by
  obtain ⟨h0, h1, h2⟩ := h
  have e1 : IntKind.u64.wrap (IntKind.u64.wrap (lo + len) - 1) = lo + len - 1 := by
    rw [IntKind.wrap_u64, IntKind.wrap_u64]; omega
  have E := Lib.hid e1
  clear e1
  go_enter Try.func48, Try.ntmps48
  go_wp2
  go_ret
  exact ⟨ret_int E.out, below_one _ _⟩
/-- a function value that compares items by a key -/
def LessF (f : FuncId) (key : Itm → Int) (ok : Itm → Prop) : Prop := ∀ (x y : Itm) (W : World), ok x → ok y → Calls Try.prog f #[x.val, y.val] W fun e w' => e = .returned (.bool (decide (key x < key y))) ∧ Below W.heap.size W w'
def okItm (x : Itm) : Prop := okSp x.lo x.len
def lastOf (x : Itm) : Int := x.lo + x.len - 1
theorem byLo_ok : LessF 61 (·.lo) okItm := fun x y W _ _ => by
  go_enter Try.func61, Try.ntmps61
  go_wp2
  go_ret
  exact ⟨rfl, Below.then_ (below_one _ _) (below_one _ _)⟩
set_option maxRecDepth 100000 in
set_option maxHeartbeats 1000000 in
theorem byLast_ok : LessF 62 lastOf okItm := fun x y W hx hy => by
  have HX := Lib.hid hx
  have HY := Lib.hid hy
  clear hx hy
  go_enter Try.func62, Try.ntmps62
  go_wp2
  refine wp_region_ext (by kernel_rfl) (by kernel_rfl) ?_
  repeat (go_big_quiet_step ((first
    | (go_at_call 48; exact Calls.quiet_ext (spanLast_ok _ _ _ HX.out))
    | (go_at_call 48; exact Calls.quiet_ext (spanLast_ok _ _ _ HY.out)))))
  refine wpQuiet_nil ?_
  intro xq
  go_wp2
  go_ret
  exact ⟨ret_bool (by unfold lastOf; exact decide_eq_decide.2 (by omega)), Below.then_ (Below.then_ (below_one _ _) (below_one _ _)) (ext_below _ xq)⟩
/-- a queue: its block, and the row of its items, in memory of the call's own -/
structure Que (W : World) (q base : Nat) (f : FuncId) (v : Value) (l : List Itm) : Prop where
  bk : Blk W q 127 #[v, .func (.func f) #[] #[]]
  own : W.ownsRow base 115 3 v l.length (l.flatMap Itm.cells)
  qb : q < base
  len : l.length ≤ 4194304
section
variable {W V : World} {q base : Nat} {f : FuncId} {v : Value} {l : List Itm}
theorem Que.up (h : Que W q base f v l) (hb : Below W.heap.size W V) : Que V q base f v l := ⟨h.bk.below hb h.bk.lt, own_below h.own hb, h.qb, h.len⟩
theorem Que.form (h : Que W q base f v l) : ∃ A c, v = .slice A l.length c ∧ Rd W W.heap.size 3 A l.length (l.flatMap Itm.cells) := by
  obtain ⟨A, c, e, _, _, h3⟩ := own_form h.own
  exact ⟨A, c, e, h3⟩
theorem Que.cells (h : Que W q base f v l) : W.cell? ⟨q, 0, none⟩ = some v ∧ W.cell? ⟨q, 1, none⟩ = some (.func (.func f) #[] #[]) ∧ q < W.heap.size := by
  refine ⟨?_, ?_, h.bk.lt⟩
  · have := h.bk.cell 0; simpa using this
  · have := h.bk.cell 1; simpa using this
theorem qLen_ok (h : Que W q base f v l) : Calls Try.prog 65 #[.pointer (some ⟨q, 0, none⟩)] W fun e w' => e = .returned (.int .i64 l.length) ∧ W = w' := by
  obtain ⟨A, c, rfl, _⟩ := h.form
  obtain ⟨x0, x1, hz⟩ := h.cells
  clear h
  go_enter Try.func65, Try.ntmps65
  go_wp2
  go_ret
  exact ⟨rfl, rfl⟩
end
set_option maxRecDepth 100000 in
set_option maxHeartbeats 2000000 in
theorem qLess_ok {W : World} {q base : Nat} {f : FuncId} {v : Value} {l : List Itm} {key : Itm → Int} {ok : Itm → Prop} (h : Que W q base f v l) (hL : LessF f key ok) (hf : ∀ a w, (callFunc f a).run Try.prog w = .ok (.enter f a) w) (hall : ∀ x ∈ l, ok x) (i j : Nat) (hi : i < l.length) (hj : j < l.length) :
    Calls Try.prog 108 #[.pointer (some ⟨q, 0, none⟩), .int .i64 i, .int .i64 j] W fun e w' => e = .returned (.bool (decide (kv key l i < kv key l j))) ∧ Below W.heap.size W w' := by
  obtain ⟨x, hx⟩ := get_lt hi
  obtain ⟨y, hy⟩ := get_lt hj
  rw [kv_at hx, kv_at hy]
  obtain ⟨A, c, rfl, hr⟩ := h.form
  obtain ⟨x0, x1, hz⟩ := h.cells
  obtain ⟨b, o, rfl, hb, p0, p1, p2⟩ := itm_at hr hx
  obtain ⟨b', o', e', hb', r0, r1, r2⟩ := itm_at hr hy
  obtain ⟨rfl, rfl⟩ : b = b' ∧ o = o' := by simpa using e'
  have HX := Lib.hid (hall x (List.mem_of_getElem? hx))
  have HY := Lib.hid (hall y (List.mem_of_getElem? hy))
  have HL := Lib.hid hL
  have hlen := h.len
  have i0 : (0 : Int) ≤ (i : Int) := by omega
  have i1 : (i : Int) < (l.length : Int) := by omega
  have j0 : (0 : Int) ≤ (j : Int) := by omega
  have j1 : (j : Int) < (l.length : Int) := by omega
  clear h hx hy hr e' hall hL hi hj
  go_enter Try.func108, Try.ntmps108
  go_wp2
  refine wp_region_ext (by kernel_rfl) (by kernel_rfl) ?_
  repeat (go_big_quiet_step ((go_at_fn f; exact Calls.quiet_ext (HL.out x y _ HX.out HY.out))))
  refine wpQuiet_nil ?_
  intro xq
  go_wp2
  go_ret
  exact ⟨rfl, ext_below _ xq⟩
end Go.Proofs.Ytaakcpdpkcadjaa
