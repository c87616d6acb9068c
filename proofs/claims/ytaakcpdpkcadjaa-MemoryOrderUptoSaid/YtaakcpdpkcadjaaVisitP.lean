/-
  What visit of package sweep keeps while it runs. No condition.
-/
import Derived.Test.YtaakcpdpkcadjaaHeapX
namespace Go.Proofs.Ytaakcpdpkcadjaa
open Go.RowKit Go.Shelf
structure Spn where
  lo : Int
  len : Int
def Spn.cells (x : Spn) : List Value := [.int .u64 x.lo, .int .u64 x.len]
theorem oneSpn (l : List Spn) : ∀ u ∈ l.flatMap Spn.cells, u.oneCell' = true := by
  intro u hu
  obtain ⟨x, _, hx⟩ := List.mem_flatMap.1 hu
  simp [Spn.cells] at hx
  rcases hx with rfl | rfl <;> rfl
theorem spn_at {w : World} {B : Nat} {A : Option Addr} {l : List Spn} {k : Nat} {x : Spn} (h : Rd w B 2 A l.length (l.flatMap Spn.cells)) (hk : l[k]? = some x) :
    ∃ b o, A = some ⟨b, o, none⟩ ∧ b < B ∧ w.cell? ⟨b, o + k * 2, none⟩ = some (.int .u64 x.lo) ∧ w.cell? ⟨b, o + k * 2 + 1, none⟩ = some (.int .u64 x.len) := by
  obtain ⟨b, o, e, hb, hc⟩ := Rd.get (f := Spn.cells) (sz := 2) (fun _ => rfl) h hk
  exact ⟨b, o, e, hb, hc 0 _ rfl, hc 1 _ rfl⟩
def itemsOf (l : List Spn) : List Itm := l.mapIdx fun i s => ⟨s.lo, s.len, (i : Int)⟩
theorem itemsOf_next {l : List Spn} {k : Nat} {x : Spn} (h : l[k]? = some x) : itemsOf (l.take (k + 1)) = itemsOf (l.take k) ++ [⟨x.lo, x.len, (k : Int)⟩] := by
  have hk := (List.getElem?_eq_some_iff.1 h).1
  rw [take_next h]
  unfold itemsOf
  rw [List.mapIdx_concat]
  simp [Nat.min_eq_left (Nat.le_of_lt hk)]
theorem itemsOf_len (l : List Spn) : (itemsOf l).length = l.length := by simp [itemsOf]
theorem itemsOf_at {l : List Spn} {k : Nat} {x : Itm} : (itemsOf l)[k]? = some x ↔ ∃ s, l[k]? = some s ∧ x = ⟨s.lo, s.len, (k : Int)⟩ := by
  unfold itemsOf
  rw [List.getElem?_mapIdx]
  cases l[k]? <;> simp [eq_comm]
theorem itemsOf_ok {l : List Spn} (h : ∀ s ∈ l, okSp s.lo s.len) : ∀ x ∈ itemsOf l, okItm x := by
  intro x hx
  obtain ⟨k, hk⟩ := List.mem_iff_getElem?.1 hx
  obtain ⟨s, hs, rfl⟩ := itemsOf_at.1 hk
  exact h s (List.mem_of_getElem? hs)
/-- blocks of queues and of items may have turned, from B on; all else stands -/
structure OffQ (B : Nat) (W V : World) : Prop where
  os : V.os = W.os
  tape : V.tape = W.tape
  output : V.output = W.output
  size : W.heap.size ≤ V.heap.size
  block : ∀ k, k < W.heap.size → (k < B ∨ ((∀ cs fr, W.heap[k]? ≠ some (.cells cs 127 fr)) ∧ (∀ cs fr, W.heap[k]? ≠ some (.cells cs 115 fr)))) → V.heap[k]? = W.heap[k]?
/-- blocks of queues and of items stand -/
structure KeepQ (W V : World) : Prop where
  os : V.os = W.os
  tape : V.tape = W.tape
  output : V.output = W.output
  size : W.heap.size ≤ V.heap.size
  block : ∀ (k : Nat) (cs : Array Value) (t : TypeId) (fr : Nat × Nat), W.heap[k]? = some (.cells cs t fr) → (t = 127 ∨ t = 115) → V.heap[k]? = W.heap[k]?
theorem OffQ.of_below {B : Nat} {W V : World} (h : Below W.heap.size W V) : OffQ B W V := ⟨h.os, h.tape, h.output, h.size, fun k hk _ => h.block k hk⟩
theorem KeepQ.of_below {W V : World} (h : Below W.heap.size W V) : KeepQ W V := ⟨h.os, h.tape, h.output, h.size, fun k _ _ _ hh _ => h.block k (Array.getElem?_eq_some_iff.1 hh).1⟩
theorem KeepQ.trans {W V U : World} (h : KeepQ W V) (k : KeepQ V U) : KeepQ W U := ⟨k.os.trans h.os, k.tape.trans h.tape, k.output.trans h.output, Nat.le_trans h.size k.size, fun b cs t fr hh ht => (k.block b cs t fr ((h.block b cs t fr hh ht).trans hh) ht).trans (h.block b cs t fr hh ht)⟩
theorem QStep.offq {W V : World} {q base B : Nat} {f : FuncId} {v v' : Value} {l : List Itm} (h : Que W q base f v l) (hs : QStep W V q v v') (hB : B ≤ q) : OffQ B W V := by
  have hqb := h.qb
  refine ⟨hs.os, hs.tape, hs.output, hs.size, fun k hk hc => hs.block k hk (fun e => ?_) (fun e => ?_)⟩
  · subst e
    rcases hc with hc | ⟨hc, _⟩
    · omega
    · exact hc _ _ h.bk
  · rcases h.own.2 with ⟨rfl, _⟩ | ⟨g, cap, cur, rfl, hb, hh, _⟩
    · simp [Value.ownBlock] at e
    · have e2 : k = g := by simpa [Value.ownBlock] using e
      subst e2
      rcases hc with hc | ⟨_, hc⟩
      · omega
      · exact hc _ _ hh
theorem own_keepq {W V : World} {base n : Nat} {v : Value} {xs : List Value} (h : W.ownsRow base 115 3 v n xs) (hk : KeepQ W V) : V.ownsRow base 115 3 v n xs := by
  refine ⟨h.1, ?_⟩
  rcases h.2 with h2 | ⟨g, cap, cur, rfl, hb, hh, r⟩
  · exact .inl h2
  · exact .inr ⟨g, cap, cur, rfl, hb, (hk.block g _ _ _ hh (.inr rfl)).trans hh, r⟩
theorem Que.keepq {W V : World} {q base : Nat} {f : FuncId} {v : Value} {l : List Itm} (h : Que W q base f v l) (hk : KeepQ W V) : Que V q base f v l := by
  refine ⟨(hk.block q _ _ _ h.bk (.inl rfl)).trans h.bk, ⟨h.own.1, ?_⟩, h.qb, h.len⟩
  rcases h.own.2 with h2 | ⟨g, cap, cur, rfl, hb, hh, r⟩
  · exact .inl h2
  · exact .inr ⟨g, cap, cur, rfl, hb, (hk.block g _ _ _ hh (.inr rfl)).trans hh, r⟩
/-- what visit asks of the function that it passes spans to -/
structure Cb (fv : FuncId) (lb : Array Value) (B : Nat) (its : List Itm) (J : List Itm → World → Prop) : Prop where
  ent : ∀ a w, (callFunc fv a).run Try.prog w = .ok (.enter fv a) w
  st : ∀ d W V, J d W → OffQ B W V → J d V
  call : ∀ (d op r : List Itm) (x : Itm) (A : Option Addr) (c : Nat) (W : World), okItm x → (∀ y ∈ d, y.lo ≤ x.lo) → op.Perm (d.filter fun y => decide (x.lo ≤ lastOf y)) → (d ++ x :: r).Perm its → B ≤ W.heap.size → J d W → W.ownsRow 0 115 3 (.slice A op.length c) op.length (op.flatMap Itm.cells) →
    Calls Try.prog fv (#[x.val, .slice A op.length c] ++ lb) W fun e W' => e = .returned (.tuple #[]) ∧ J (d ++ [x]) W' ∧ KeepQ W W'
/-- where visit stands between two items -/
structure VSt (W : World) (q : Nat) (its : List Itm) (J : List Itm → World → Prop) (d lw lo : List Itm) (v1 v2 : Value) (m : Int) : Prop where
  q1 : Que W q (q + 2) 61 v1 lw
  q2 : Que W (q + 1) (q + 2) 62 v2 lo
  sep : ∀ g, v1.ownBlock = some g → v2.ownBlock ≠ some g
  h1 : HeapFrom (·.lo) lw lw.length 0
  h2 : HeapFrom lastOf lo lo.length 0
  perm : (d ++ lw).Perm its
  bw : ∀ y ∈ lw, m ≤ y.lo
  bd : ∀ y ∈ d, y.lo ≤ m
  op : lo.Perm (d.filter fun y => decide (m ≤ lastOf y))
  j : J d W
/-- where visit stands while it takes items out that end ahead of x -/
structure VIn (W : World) (q : Nat) (its : List Itm) (J : List Itm → World → Prop) (d lw : List Itm) (x : Itm) (cur : List Itm) (v1 v2 : Value) : Prop where
  q1 : Que W q (q + 2) 61 v1 lw
  q2 : Que W (q + 1) (q + 2) 62 v2 cur
  sep : ∀ g, v1.ownBlock = some g → v2.ownBlock ≠ some g
  h1 : HeapFrom (·.lo) lw lw.length 0
  h2 : HeapFrom lastOf cur cur.length 0
  perm : (d ++ x :: lw).Perm its
  bw : ∀ y ∈ lw, x.lo ≤ y.lo
  bd : ∀ y ∈ d, y.lo ≤ x.lo
  sub : ∀ y ∈ cur, y ∈ d
  op : ∃ pp, (∀ y ∈ pp, lastOf y < x.lo) ∧ ((pp ++ cur).filter fun y => decide (x.lo ≤ lastOf y)).Perm (d.filter fun y => decide (x.lo ≤ lastOf y))
  j : J d W
section
variable {W V : World} {q B : Nat} {its d lw lw' lo cur cur' : List Itm} {J : List Itm → World → Prop} {v1 v2 v' : Value} {m : Int} {x y : Itm} {fv : FuncId} {lb : Array Value}
theorem VSt.up (h : VSt W q its J d lw lo v1 v2 m) (hc : Cb fv lb B its J) (hb : Below W.heap.size W V) : VSt V q its J d lw lo v1 v2 m :=
  ⟨h.q1.up hb, h.q2.up hb, h.sep, h.h1, h.h2, h.perm, h.bw, h.bd, h.op, hc.st _ _ _ h.j (.of_below hb)⟩
theorem VIn.up (h : VIn W q its J d lw x cur v1 v2) (hc : Cb fv lb B its J) (hb : Below W.heap.size W V) : VIn V q its J d lw x cur v1 v2 :=
  ⟨h.q1.up hb, h.q2.up hb, h.sep, h.h1, h.h2, h.perm, h.bw, h.bd, h.sub, h.op, hc.st _ _ _ h.j (.of_below hb)⟩
/-- an item is taken out of those that wait -/
theorem VSt.take_ (h : VSt W q its J d lw lo v1 v2 m) (hc : Cb fv lb B its J) (hB : B ≤ q) (hq : Que V q (q + 2) 61 v' lw') (hs : QStep W V q v1 v') (hp : (x :: lw').Perm lw) (hh : HeapFrom (·.lo) lw' lw'.length 0) (hm : ∀ y ∈ lw, x.lo ≤ y.lo) : VIn V q its J d lw' x lo v' v2 := by
  obtain ⟨k1, k2⟩ := h.q2.other hs (by omega) (by have := h.q1.qb; omega) (fun g e => ⟨(own_lt0 h.q1.own e).1, h.sep g e⟩)
  have hxm : m ≤ x.lo := h.bw x (hp.mem_iff.1 (by simp))
  refine ⟨hq, k1, k2, hh, h.h2, ((List.Perm.append_left d hp).trans h.perm), fun y hy => hm y (hp.mem_iff.1 (by simp [hy])), fun y hy => Int.le_trans (h.bd y hy) hxm, fun y hy => (List.mem_filter.1 (h.op.mem_iff.1 hy)).1, ⟨[], by simp, ?_⟩, hc.st _ _ _ h.j (hs.offq h.q1 hB)⟩
  rw [List.nil_append]
  have := h.op.filter (fun y => decide (x.lo ≤ lastOf y))
  rw [List.filter_filter] at this
  refine this.trans (List.Perm.of_eq ?_)
  congr 1
  funext y
  by_cases hy : x.lo ≤ lastOf y
  · simp [hy, Int.le_trans hxm hy]
  · simp [hy]
/-- the head of those that are open ends ahead of x and is taken out -/
theorem VIn.drop_ (h : VIn W q its J d lw x cur v1 v2) (hc : Cb fv lb B its J) (hB : B ≤ q) (hq : Que V (q + 1) (q + 2) 62 v' cur') (hs : QStep W V (q + 1) v2 v') (hp : (y :: cur').Perm cur) (hh : HeapFrom lastOf cur' cur'.length 0) (hy : lastOf y < x.lo) : VIn V q its J d lw x cur' v1 v' := by
  obtain ⟨k1, k2⟩ := h.q1.other hs (by omega) (by have := h.q2.qb; omega) (fun g e => ⟨(own_lt0 h.q2.own e).1, fun e2 => h.sep g e2 e⟩)
  obtain ⟨pp, hpp, hperm⟩ := h.op
  refine ⟨k1, hq, fun g e e2 => k2 g e2 e, h.h1, hh, h.perm, h.bw, h.bd, fun z hz => h.sub z (hp.mem_iff.1 (by simp [hz])), ⟨pp ++ [y], fun z hz => ?_, ?_⟩, hc.st _ _ _ h.j (hs.offq h.q2 (by omega))⟩
  · rcases List.mem_append.1 hz with hz | hz
    · exact hpp z hz
    · rw [List.mem_singleton] at hz; rw [hz]; exact hy
  · refine List.Perm.trans ?_ hperm
    rw [List.append_assoc]
    exact (List.Perm.append_left pp hp).filter _
theorem VIn.allOk (h : VIn W q its J d lw x cur v1 v2) (ha : ∀ y ∈ its, okItm y) : ∀ y ∈ cur, okItm y := fun y hy => ha y (h.perm.mem_iff.1 (by simp [h.sub y hy]))
theorem Blk.qstep {k : Nat} {t : TypeId} {cs : Array Value} {v : Value} (h : Blk W k t cs) (hs : QStep W V q v v') (h1 : k ≠ q) (h2 : v.ownBlock ≠ some k) : Blk V k t cs := (hs.block k h.lt h1 (fun e => h2 e.symm)).trans h
theorem Blk.keepq {k : Nat} {cs : Array Value} (h : Blk W k 115 cs) (hk : KeepQ W V) : Blk V k 115 cs := (hk.block k _ _ _ h (.inr rfl)).trans h
theorem VIn.opened (h : VIn W q its J d lw x cur v1 v2) (hx : ∀ y ∈ cur, x.lo ≤ lastOf y) : cur.Perm (d.filter fun y => decide (x.lo ≤ lastOf y)) := by
  obtain ⟨pp, hpp, hperm⟩ := h.op
  refine List.Perm.trans (List.Perm.of_eq ?_) hperm
  rw [List.filter_append, List.filter_eq_nil_iff.2 (fun z hz => by have := hpp z hz; simp; omega), List.nil_append, List.filter_eq_self.2 (fun z hz => by simpa using hx z hz)]
theorem VIn.called (h : VIn W q its J d lw x cur v1 v2) (hk : KeepQ W V) (hj : J (d ++ [x]) V) : Que V q (q + 2) 61 v1 lw ∧ Que V (q + 1) (q + 2) 62 v2 cur ∧ J (d ++ [x]) V := ⟨h.q1.keepq hk, h.q2.keepq hk, hj⟩
theorem VIn.next {U : World} (h : VIn W q its J d lw x cur v1 v2) (hx : ∀ y ∈ cur, x.lo ≤ lastOf y) (hox : okItm x) (hc : Cb fv lb B its J) (hB : B ≤ q) (q1 : Que V q (q + 2) 61 v1 lw) (q2 : Que V (q + 1) (q + 2) 62 v2 cur) (hj : J (d ++ [x]) V)
    (hq : Que U (q + 1) (q + 2) 62 v' lo) (hs : QStep V U (q + 1) v2 v') (hp : lo.Perm (cur ++ [x])) (hh : HeapFrom lastOf lo lo.length 0) : VSt U q its J (d ++ [x]) lw lo v1 v' x.lo := by
  obtain ⟨k1, k2⟩ := q1.other hs (by omega) (by have := q2.qb; omega) (fun g e => ⟨(own_lt0 q2.own e).1, fun e2 => h.sep g e2 e⟩)
  refine ⟨k1, hq, fun g e e2 => k2 g e2 e, h.h1, hh, by rw [List.append_assoc]; exact h.perm, h.bw, fun y hy => ?_, ?_, hc.st _ _ _ hj (hs.offq q2 (by omega))⟩
  · rcases List.mem_append.1 hy with hy | hy
    · exact h.bd y hy
    · rw [List.mem_singleton] at hy; rw [hy]; exact Int.le_refl _
  · refine hp.trans ?_
    rw [List.filter_append]
    have e : [x].filter (fun y => decide (x.lo ≤ lastOf y)) = [x] := by
      have h1 := hox.2.1
      have : x.lo ≤ lastOf x := by unfold lastOf; omega
      simp [this]
    rw [e]
    exact List.Perm.append_right _ (h.opened hx)
end
end Go.Proofs.Ytaakcpdpkcadjaa
