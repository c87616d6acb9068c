/-
  The queue's methods Push and Pop. No condition but on sizes.
-/
import Derived.Test.YtaakcpdpkcadjaaQueS
import Derived.Deep.AppendLies
import Derived.Deep.RegionLaw
namespace Go.Proofs.Ytaakcpdpkcadjaa
open Go.RowKit Go.Shelf
/-- what a method of a queue turns: the queue's block, the row of its items, new blocks -/
structure QStep (W V : World) (q : Nat) (v v' : Value) : Prop where
  os : V.os = W.os
  tape : V.tape = W.tape
  output : V.output = W.output
  size : W.heap.size ≤ V.heap.size
  block : ∀ k, k < W.heap.size → k ≠ q → some k ≠ v.ownBlock → V.heap[k]? = W.heap[k]?
  own : ∀ g, v'.ownBlock = some g → v.ownBlock = some g ∨ W.heap.size ≤ g
section
variable {W V U : World} {q q2 base : Nat} {f f2 : FuncId} {v v' v'' v2 : Value} {l l2 : List Itm}
theorem QStep.of_grown (h : W.grownBy V v.ownBlock) : QStep W V q v v := ⟨h.os, h.tape, h.output, h.size, fun k hk _ hne => h.block k hk hne, fun _ e => .inl e⟩
theorem QStep.of_below (h : Below W.heap.size W V) : QStep W V q v v := ⟨h.os, h.tape, h.output, h.size, fun k hk _ _ => h.block k hk, fun _ e => .inl e⟩
theorem QStep.trans (h : QStep W V q v v') (k : QStep V U q v' v'') : QStep W U q v v'' :=
  ⟨k.os.trans h.os, k.tape.trans h.tape, k.output.trans h.output, Nat.le_trans h.size k.size, fun b hb h1 h2 => (k.block b (Nat.lt_of_lt_of_le hb h.size) h1 (fun e => by
    rcases h.own b e.symm with e2 | e2
    · exact h2 e2.symm
    · omega)).trans (h.block b hb h1 h2), fun g e => by
    rcases k.own g e with e2 | e2
    · exact h.own g e2
    · exact .inr (Nat.le_trans h.size e2)⟩
theorem QStep.below {B : Nat} (h : QStep W V q v v') (hq : B ≤ q) (hv : ∀ g, v.ownBlock = some g → B ≤ g) (hB : B ≤ W.heap.size) : Below B W V :=
  ⟨h.os, h.tape, h.output, h.size, fun k hk => h.block k (by omega) (by omega) (fun e => by have := hv k e.symm; omega)⟩
/-- another queue stays as it is -/
theorem Que.other (h2 : Que W q2 base f2 v2 l2) (h : QStep W V q v v') (hq : q ≠ q2) (hqb : q < base) (hv : ∀ g, v.ownBlock = some g → base ≤ g ∧ v2.ownBlock ≠ some g) : Que V q2 base f2 v2 l2 ∧ ∀ g, v'.ownBlock = some g → v2.ownBlock ≠ some g := by
  have hqb2 := h2.qb
  refine ⟨⟨(h.block q2 h2.bk.lt (fun e => hq e.symm) (fun e => by have := (hv _ e.symm).1; omega)).trans h2.bk, ?_, h2.qb, h2.len⟩, fun g e e2 => ?_⟩
  · refine ⟨h2.own.1, ?_⟩
    rcases h2.own.2 with h3 | ⟨g, cap, cur, rfl, hb, hh, r⟩
    · exact .inl h3
    · exact .inr ⟨g, cap, cur, rfl, hb, (h.block g (Array.getElem?_eq_some_iff.1 hh).1 (by omega) (fun e => (hv g e.symm).2 rfl)).trans hh, r⟩
  · rcases h.own g e with e3 | e3
    · exact (hv g e3).2 e2
    · have := (own_lt0 h2.own e2).2
      omega
end
theorem infoItem : (Try.prog.info? 115).map (fun i => (i.zero, i.size, i.bytes)) = some (some (.agg #[.int .u64 0, .int .u64 0, .int .i64 0]), 3, 24) := by kernel_rfl
theorem assertItem (v : Value) (w : World) : (Instr.typeAssert (.iface 115 v) 20 115 false).run Try.prog w = .ok v w := by kernel_rfl
section
variable {W W1 V : World} {q base : Nat} {f : FuncId} {v : Value} {l : List Itm}
theorem push_bk (h : Que W q base f v l) (hb : Below W.heap.size W W1) (hg : W1.grownBy V v.ownBlock) : V.cell? ⟨q, 0, none⟩ = some v ∧ V.frozen? ⟨q, 0, none⟩ = false := by
  have h1 := h.up hb
  have hbk : Blk V q 127 #[v, .func (.func f) #[] #[]] := (hg.block q h1.bk.lt (fun e => by have := (own_lt0 h1.own e.symm).1; have := h.qb; omega)).trans h1.bk
  have := hbk.cell 0
  exact ⟨by simpa using this, hbk.frozen 0⟩
theorem push_row {g2 cap : Nat} {x : Itm} (h : Que W q base f v l) (hb : Below W.heap.size W W1) (hown : V.ownsRow base 115 3 (.slice (some ⟨g2, 0, none⟩) (l.length + 1) cap) (l.length + 1) (l.flatMap Itm.cells ++ x.cells)) (hg : W1.grownBy V v.ownBlock)
    (hat : v.ownBlock = some g2 ∨ g2 = W1.heap.size) (hl : l.length < 4194304) :
    Que (V.setCell ⟨q, 0, none⟩ (.slice (some ⟨g2, 0, none⟩) (l.length + 1) cap)) q base f (.slice (some ⟨g2, 0, none⟩) (l.length + 1) cap) (l ++ [x]) ∧ QStep W (V.setCell ⟨q, 0, none⟩ (.slice (some ⟨g2, 0, none⟩) (l.length + 1) cap)) q v (.slice (some ⟨g2, 0, none⟩) (l.length + 1) cap) := by
  have h1 := h.up hb
  have hqb := h.qb
  have hbk : Blk V q 127 #[v, .func (.func f) #[] #[]] := (hg.block q h1.bk.lt (fun e => by have := (own_lt0 h1.own e.symm).1; omega)).trans h1.bk
  refine ⟨⟨by have := hbk.set_ 0 (.slice (some ⟨g2, 0, none⟩) (l.length + 1) cap); simpa using this, ?_, hqb, by simp; omega⟩, ?_⟩
  · have := own_set hown (p := ⟨q, 0, none⟩) (by show q < base; omega) (.slice (some ⟨g2, 0, none⟩) (l.length + 1) cap)
    simpa using this
  · refine ⟨hg.os.trans hb.os, hg.tape.trans hb.tape, hg.output.trans hb.output, Nat.le_trans hb.size (by simpa [World.setCell] using hg.size), fun k hk h2 h3 => ?_, fun g e => ?_⟩
    · exact (Below.heap_setCell _ _ _ k h2).trans ((hg.block k (Nat.lt_of_lt_of_le hk hb.size) h3).trans (hb.block k hk))
    · have e2 : g2 = g := by simpa [Value.ownBlock] using e
      subst e2
      rcases hat with h4 | h4
      · exact .inl h4
      · exact .inr (by rw [h4]; exact hb.size)
end
set_option maxRecDepth 100000 in
set_option maxHeartbeats 4000000 in
theorem qPush_ok {W : World} {q base : Nat} {f : FuncId} {v : Value} {l : List Itm} (h : Que W q base f v l) (x : Itm) (hl : l.length < 4194304) (hbs : base ≤ W.heap.size) :
    Calls Try.prog 64 #[.pointer (some ⟨q, 0, none⟩), .iface 115 x.val] W fun e w' => e = .returned (.tuple #[]) ∧ ∃ v', Que w' q base f v' (l ++ [x]) ∧ QStep W w' q v v' := by
  obtain ⟨ii, hi, hz0, hz1, hz2⟩ := info_parts infoItem
  have HQ := Lib.hid h
  obtain ⟨x0, x1, hz⟩ := h.cells
  obtain ⟨A, c, rfl, _⟩ := h.form
  have hlen := h.len
  have hta : ∀ w, (Instr.typeAssert (.iface 115 x.val) 20 115 false).run Try.prog w = .ok x.val w := fun w => assertItem _ w
  clear h
  go_enter Try.func64, Try.ntmps64
  go_wp2
  go_region_law ((refine step_append_lies _ (by rfl) (.tmp 8) (.tmp 11) _ (by rfl) base 115 ii (.agg #[.int .u64 0, .int .u64 0, .int .i64 0]) 3 24 Try.underlying116 hi hz0 hz1 hz2 rfl (by decide) _ l.length _ (by rfl) ((HQ.out.up (show Below W.heap.size W _ from (by repeat (first | with_reducible exact Below.refl _ _ | with_reducible refine Below.drew ?_ | (with_reducible refine Below.alloc ?_ (by simp) _) | (with_reducible refine Below.setCell ?_ (by simp) _))))).own) ⟨W.heap.size, 0, none⟩ 1 1 x.cells (by rfl) (by rfl) (World.news_of_block (heap_alloc_new W _)) (by intro u hu; simp [Itm.cells] at hu; rcases hu with rfl | rfl | rfl <;> rfl) (by omega) (by unfold maxLen; omega) (by omega) (by simp; omega) _ rfl ?_; intro g2 cap w7 hown hgrow hat hlt7; have hb7 := push_bk HQ.out (show Below W.heap.size W _ from (by repeat (first | with_reducible exact Below.refl _ _ | with_reducible refine Below.drew ?_ | (with_reducible refine Below.alloc ?_ (by simp) _) | (with_reducible refine Below.setCell ?_ (by simp) _)))) hgrow; have HP := Lib.hid (push_row HQ.out (show Below W.heap.size W _ from (by repeat (first | with_reducible exact Below.refl _ _ | with_reducible refine Below.drew ?_ | (with_reducible refine Below.alloc ?_ (by simp) _) | (with_reducible refine Below.setCell ?_ (by simp) _)))) hown hgrow hat hl); have c7 := hb7.1; have f7 := hb7.2; clear hown hgrow hat hb7))
  all_goals (go_end0; exact ⟨rfl, _, HP.out.1, HP.out.2⟩)
theorem own_init {w : World} {base : Nat} {e : TypeId} {A : Option Addr} {cap : Nat} {l : List Itm} {x : Itm} (h : w.ownsRow base e 3 (.slice A (l.length + 1) cap) (l.length + 1) ((l ++ [x]).flatMap Itm.cells)) : w.ownsRow base e 3 (.slice A l.length cap) l.length (l.flatMap Itm.cells) := by
  have hl := flat_len Itm.cells 3 (fun _ => rfl) l
  rcases h.2 with ⟨e1, _⟩ | ⟨g, cap', cur, e1, hb, hh, h1, h2, h3, h4⟩
  · cases e1
  · injection e1 with e1 _ e3
    subst e1 e3
    refine ⟨hl, .inr ⟨g, cap, cur, rfl, hb, hh, by omega, h2, h3, ?_⟩⟩
    have := congrArg (List.take (l.length * 3)) h4
    rw [List.take_take, show min (l.length * 3) ((l.length + 1) * 3) = l.length * 3 from by omega] at this
    rw [this, List.flatMap_append, List.take_append_of_le_length (by rw [hl]; exact Nat.le_refl _), List.take_of_length_le (by rw [hl]; exact Nat.le_refl _)]
theorem Que.pop {W V : World} {q base cap : Nat} {f : FuncId} {A : Option Addr} {l : List Itm} {x : Itm} (h : Que W q base f (.slice A (l.length + 1) cap) (l ++ [x])) (hb : Below W.heap.size W V) :
    Que (V.setCell ⟨q, 0, none⟩ (.slice A l.length cap)) q base f (.slice A l.length cap) l ∧ QStep W (V.setCell ⟨q, 0, none⟩ (.slice A l.length cap)) q (.slice A (l.length + 1) cap) (.slice A l.length cap) := by
  have h1 := h.up hb
  have hqb := h.qb
  have hle := h.len
  rw [List.length_append, List.length_singleton] at hle
  have ho := h1.own
  rw [List.length_append, List.length_singleton] at ho
  refine ⟨⟨by have := h1.bk.set_ 0 (.slice A l.length cap); simpa using this, own_set (own_init ho) (p := ⟨q, 0, none⟩) (by show q < base; omega) _, hqb, by omega⟩, ?_⟩
  refine ⟨hb.os, hb.tape, hb.output, by simpa [World.setCell] using hb.size, fun k hk h2 h3 => (Below.heap_setCell _ _ _ k h2).trans (hb.block k hk), fun g e => .inl ?_⟩
  cases A with
  | none => simp [Value.ownBlock] at e
  | some a => simpa [Value.ownBlock] using e
set_option maxRecDepth 100000 in
set_option maxHeartbeats 4000000 in
theorem qPop_ok {W : World} {q base : Nat} {f : FuncId} {v : Value} {l : List Itm} {x : Itm} (h : Que W q base f v (l ++ [x])) :
    Calls Try.prog 109 #[.pointer (some ⟨q, 0, none⟩)] W fun e w' => e = .returned (.iface 115 x.val) ∧ ∃ v', Que w' q base f v' l ∧ QStep W w' q v v' := by
  have HQ := Lib.hid h
  obtain ⟨x0, x1, hz⟩ := h.cells
  obtain ⟨A, c, rfl, hr⟩ := h.form
  have hle := h.len
  have hlast : (l ++ [x])[l.length]? = some x := by simp
  obtain ⟨b, o, rfl, hb, p0, p1, p2⟩ := itm_at hr hlast
  obtain ⟨q1, q2⟩ := (own_slice h.own).1
  have hfr := h.bk.frozen 0
  rw [List.length_append, List.length_singleton] at x0 hle HQ q1
  have n1 : (l.length : Int) < ((l.length + 1 : Nat) : Int) := by omega
  clear h hr hlast
  go_enter Try.func109, Try.ntmps109
  go_wp2
  go_ret
  obtain ⟨k1, k2⟩ := HQ.out.pop (Below.refl _ _)
  exact ⟨rfl, _, k1.up (below_one _ _), by rw [List.length_append, List.length_singleton]; exact k2.trans (.of_below (below_one _ _))⟩
end Go.Proofs.Ytaakcpdpkcadjaa
