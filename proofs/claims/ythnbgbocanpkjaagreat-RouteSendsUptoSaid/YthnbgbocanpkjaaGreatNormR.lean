/-
  Normal of the reference of layer 5, walked: records in order, destinations in order.
-/
import Derived.BigQuiet
import Derived.Deep.RegionHeld3
import Derived.Test.YthnbgbocanpkjaaGreatKeyZ
import Derived.Test.YthnbgbocanpkjaaGreatNormS
import Derived.Test.YthnbgbocanpkjaaGreatIsN
import Derived.Test.YthnbgbocanpkjaaGreatInvA
namespace Go.Proofs.YthnbgbocanpkjaaGreat
open Go.RowKit
attribute [local go_sem] ext_cell
attribute [local simp] drew_heapK
theorem own_litS (w : World) (base : Nat) (E : TypeId) (sz : Nat) (l : List Value) (b n : Nat) (hb : base ≤ w.heap.size) (hbk : w.heap.size = b) (hl : n ≤ maxLen) (hn : l.length = n * sz) (cs : Array Value) (hc : cs = l.toArray) :
    (w.alloc (.cells cs E)).ownsRow base E sz (.slice (some ⟨b, 0, none⟩) n n) n l := by
  subst hbk hc
  exact ⟨hn, .inr ⟨w.heap.size, n, l.toArray, rfl, hb, heap_alloc_new w _, Nat.le_refl _, hl, by simp [hn], by rw [List.take_of_length_le (by simp [hn])]⟩⟩
/-- an append of a row of the call's own to another one, at a step of a region that draws its order -/
theorem step_appS {P : Program} (V : World) {w : World} {o : Oper} {a : Act} {K : Act → World → Prop} {Q : Exit → Act → World → Prop} {ys : Nat → Option Bool} (T E : TypeId) (sz : Nat) (i : TypeInfo) (z : Value) (bytes : Nat) (hT : P.underlying T = some (.slice E)) (hi : P.info? E = some i) (hz0 : i.zero = some z) (hz1 : i.size = sz) (hz2 : i.bytes = bytes) (hzs : z.cells.size = sz) (hsz : 0 < sz)
    (hwt : Region.wanted o ys = true) (s x : Operand) (ho : o.op = .call { callee := .builtin .append, args := #[s, x], argTypes := #[T, T] })
    (base : Nat) (n : Nat) (xs : List Value) (hown : w.ownsRow base E sz (a.eval s) n xs)
    (m : Nat) (news : List Value) (hr : w.ownsRow V.heap.size E sz (a.eval x) m news) (h1 : ∀ u ∈ news, u.oneCell' = true)
    (hlen : (n + m) * bytes ≤ 140737488355328) (hlen2 : n + m ≤ maxLen) (hB : Below V.heap.size V w) (hbase : base ≤ V.heap.size)
    (h : ∀ v' w', w'.ownsRow base E sz v' (n + m) (xs ++ news) → w.grownBy w' (a.eval s).ownBlock → Off E w w' → Below base V w' → K (a.put o.dst v') w') :
    if Region.wanted o ys = true then Oper.wp P o a w K Q else K (a.put o.dst undef) w := by
  rw [if_pos hwt]
  obtain ⟨A, c, hx, _, _, hrd⟩ := own_form hr
  obtain ⟨v', w', hrun, h2, h3⟩ := run_append_rd (P := P) w base T o.type E i z sz bytes hT hi hz0 hz1 hz2 hzs hsz (a.eval s) n _ hown w.heap.size A m c _ hrd h1 hlen2 hlen (Nat.le_trans hbase hB.size)
  unfold Oper.wp execOp
  simp only [ho, resolve, invoke, builtin, Sem.run_bind, Sem.run_pure, Result.andThen_ok, List.map_toArray, List.map_cons, List.map_nil, hx, hrun]
  exact h _ _ h2 h3 (Off.of_own hown h3) (below_own (hB.mono hbase) h3 hown (Nat.le_trans hbase hB.size))
/-- records taken in order are the sorted ones -/
def pick {α : Type} (l : List α) (o : List Nat) : List α := o.filterMap (fun i => l[i]?)
theorem pick_take {α : Type} {l : List α} {o : List Nat} {j i : Nat} {x : α} (hj : o[j]? = some i) (hx : l[i]? = some x) : pick l (o.take (j + 1)) = pick l (o.take j) ++ [x] := by
  unfold pick
  rw [take_next hj, List.filterMap_append]
  simp [hx]
theorem pick_range {α : Type} : ∀ l : List α, pick l (List.range l.length) = l := by
  intro l
  have : ∀ n, n ≤ l.length → pick l (List.range n) = l.take n := by
    intro n
    induction n with
    | zero => intro _; simp [pick]
    | succ n ih =>
      intro h
      obtain ⟨x, hx⟩ := get_lt (l := l) (k := n) (by omega)
      rw [List.range_succ, take_next hx, ← ih (by omega)]
      unfold pick
      rw [List.filterMap_append]
      simp [hx]
  rw [this _ (Nat.le_refl _), List.take_length]
theorem pick_len {α : Type} {l : List α} : ∀ {o : List Nat}, (∀ i ∈ o, i < l.length) → (pick l o).length = o.length
  | [], _ => rfl
  | i :: o, h => by
    obtain ⟨x, hx⟩ := get_lt (l := l) (k := i) (h i (by simp))
    have := pick_len (l := l) (o := o) (fun j hj => h j (by simp [hj]))
    unfold pick at this ⊢
    rw [List.filterMap_cons, hx]
    simp [this]
theorem pick_perm {α : Type} {l : List α} {o : List Nat} (h : o.Perm (List.range l.length)) : (pick l o).Perm l := by
  have := h.filterMap (fun i => l[i]?)
  have e := pick_range l
  unfold pick at e ⊢
  rwa [e] at this
theorem pick_mem {α : Type} {l : List α} {o : List Nat} {x : α} (h : x ∈ pick l o) : x ∈ l := by
  unfold pick at h
  obtain ⟨i, _, hi⟩ := List.mem_filterMap.1 h
  exact List.mem_of_getElem? hi
theorem pick_asc {α : Type} {key : α → List Int} {l : List α} {o : List Nat} (h : o.Pairwise (leAt (l.map key))) : Asc key (pick l o) := by
  unfold Asc pick
  rw [List.pairwise_filterMap]
  refine h.imp_of_mem ?_
  intro a b ha hb hab x hx y hy
  unfold leAt at hab
  rw [keyAt_eq (k := key x) (by simp [hx]), keyAt_eq (k := key y) (by simp [hy])] at hab
  exact hab
theorem pick_norm {α : Type} {key : α → List Int} (hinj : ∀ x y, key x = key y → x = y) {l : List α} {o : List Nat} (h : OrdTo (l.map key) l.length o) : pick l o = normK key l :=
  normK_unique key hinj (pick_perm h.perm) (pick_asc h.asc)
theorem sortD_ok {x : Chn} (h : x.ok) : (sortD x).ok := ⟨h.id, h.source, fun d hd => h.dests d (by
  unfold sortD at hd
  exact (List.mergeSort_perm _ _).mem_iff.1 hd)⟩
/-- the configuration whose destinations are in order -/
def Cfg.srt (c : Cfg) : Cfg := { c with chans := c.chans.map sortD }
theorem Cfg.srt_ok {c : Cfg} (h : c.ok) : c.srt.ok := ⟨h.frame, h.parts, h.wins, h.regs, h.ports, fun p hp => by
  obtain ⟨x, hx, rfl⟩ := List.mem_map.1 hp
  exact sortD_ok (h.chans x hx)⟩
theorem Cfg.srt_small {c : Cfg} (h : c.small) : c.srt.small := by
  refine ⟨?_, h.pnames, h.tnames⟩
  have := h.total
  unfold Cfg.total at this ⊢
  unfold Cfg.srt
  simp only [List.length_map, sumDests_sort]
  exact this
/-- each channel's destinations lie in memory of the call's own -/
def DO (W : World) (B : Nat) (L : List CE) : Prop := ∀ e ∈ L, W.ownsRow B 34 1 e.v e.x.dests.length (e.x.dests.map (Value.int .u16))
theorem DO.below {W V : World} {B : Nat} {L : List CE} (h : DO W B L) (hb : Below W.heap.size W V) : DO V B L := fun e he => own_below (h e he) hb
theorem DO.off {W V : World} {B : Nat} {L : List CE} {ty : TypeId} (h : DO W B L) (ho : Off ty W V) (hne : 34 ≠ ty) : DO V B L := fun e he => own_off (h e he) ho hne
theorem DO.set_ {W : World} {B : Nat} {L : List CE} (h : DO W B L) {p : Addr} (hp : p.block < B) (u : Value) : DO (W.setCell p u) B L := fun e he => own_set (h e he) hp u
theorem DO.snoc {W : World} {B : Nat} {L : List CE} {e : CE} (h : DO W B L) (ho : W.ownsRow B 34 1 e.v e.x.dests.length (e.x.dests.map (Value.int .u16))) : DO W B (L ++ [e]) := fun a ha => by
  rcases List.mem_append.1 ha with ha | ha
  · exact h a ha
  · rw [List.mem_singleton] at ha; rw [ha]; exact ho
theorem DO.chns {W : World} {B : Nat} {L : List CE} (h : DO W B L) : ChnsC W W.heap.size (L.map (·.x)) (L.flatMap CE.cells) := rows_chns (rows_map (fun _ _ hx => ChnT.toC hx) (ChnsO.rows h))
/-- the boxes of the walk: the argument, the result, the local record -/
structure N1 (w W : World) (c : Cfg) (A1 A2 A3 A4 A5 : Option Addr) (c1 c2 c3 c4 c5 : Nat) : Prop where
  bel : Below w.heap.size w W
  sz : w.heap.size + 1 + 1 + 1 ≤ W.heap.size
  box : Blk W w.heap.size 29 #[.int .u64 c.frame, .slice A1 c.parts.length c1, .slice A2 c.wins.length c2, .slice A3 c.regs.length c3, .slice A4 c.ports.length c4, .slice A5 c.chans.length c5]
  res : Blk W (w.heap.size + 1) 29 #[.int .u64 0, .slice none 0 0, .slice none 0 0, .slice none 0 0, .slice none 0 0, .slice none 0 0]
  out : Blk W (w.heap.size + 1 + 1) 29 #[.int .u64 c.frame, .slice none 0 0, .slice none 0 0, .slice none 0 0, .slice none 0 0, .slice none 0 0]
theorem N1.up {w W V : World} {c : Cfg} {A1 A2 A3 A4 A5 : Option Addr} {c1 c2 c3 c4 c5 : Nat} (h : N1 w W c A1 A2 A3 A4 A5 c1 c2 c3 c4 c5) (hb : Below (w.heap.size + 1 + 1 + 1) W V) : N1 w V c A1 A2 A3 A4 A5 c1 c2 c3 c4 c5 :=
  ⟨h.bel.trans (hb.mono (by omega)), Nat.le_trans h.sz hb.size, h.box.below hb (by omega), h.res.below hb (by omega), h.out.below hb (by omega)⟩
theorem N1.start (w : World) (c : Cfg) (A1 A2 A3 A4 A5 : Option Addr) (c1 c2 c3 c4 c5 : Nat) : ∃ V, ((w.alloc (.cells #[.int .u64 c.frame, .slice A1 c.parts.length c1, .slice A2 c.wins.length c2, .slice A3 c.regs.length c3, .slice A4 c.ports.length c4, .slice A5 c.chans.length c5] 29)).alloc (.cells #[.int .u64 0, .slice none 0 0, .slice none 0 0, .slice none 0 0, .slice none 0 0, .slice none 0 0] 29)).alloc (.cells #[.int .u64 c.frame, .slice none 0 0, .slice none 0 0, .slice none 0 0, .slice none 0 0, .slice none 0 0] 29) = V ∧ N1 w V c A1 A2 A3 A4 A5 c1 c2 c3 c4 c5 := by
  refine ⟨_, rfl, ((Below.refl _ _).alloc (Nat.le_refl _) _).alloc (by simp) _ |>.alloc (by simp; omega) _, by simp, ((Blk.new w _ _).alloc _).alloc _, ?_, ?_⟩
  · have := (Blk.new (w.alloc (.cells #[.int .u64 c.frame, .slice A1 c.parts.length c1, .slice A2 c.wins.length c2, .slice A3 c.regs.length c3, .slice A4 c.ports.length c4, .slice A5 c.chans.length c5] 29)) 29 #[.int .u64 0, .slice none 0 0, .slice none 0 0, .slice none 0 0, .slice none 0 0, .slice none 0 0]).alloc (.cells #[.int .u64 c.frame, .slice none 0 0, .slice none 0 0, .slice none 0 0, .slice none 0 0, .slice none 0 0] 29)
    simpa using this
  · have := Blk.new ((w.alloc (.cells #[.int .u64 c.frame, .slice A1 c.parts.length c1, .slice A2 c.wins.length c2, .slice A3 c.regs.length c3, .slice A4 c.ports.length c4, .slice A5 c.chans.length c5] 29)).alloc (.cells #[.int .u64 0, .slice none 0 0, .slice none 0 0, .slice none 0 0, .slice none 0 0, .slice none 0 0] 29)) 29 #[.int .u64 c.frame, .slice none 0 0, .slice none 0 0, .slice none 0 0, .slice none 0 0, .slice none 0 0]
    simpa using this
/-- the channels with their destinations in order, up to k -/
structure NC (w V0 W : World) (c : Cfg) (k : Nat) (v : Value) (L : List CE) : Prop where
  bel : Below (w.heap.size + 1 + 1 + 1) V0 W
  lx : L.map (·.x) = (c.chans.take k).map sortD
  own : W.ownsRow (w.heap.size + 1 + 1 + 1) 64 3 v L.length (L.flatMap CE.cells)
  dst : DO W (w.heap.size + 1 + 1 + 1) L
theorem NC.len {w V0 W : World} {c : Cfg} {k : Nat} {v : Value} {L : List CE} (h : NC w V0 W c k v L) (hk : k ≤ c.chans.length) : L.length = k := by
  have := congrArg List.length h.lx
  simp at this
  omega
/-- all channels are in place, and the box has them -/
structure N2 (w W2 : World) (c : Cfg) (A1 A2 A3 A4 A5 : Option Addr) (c1 c2 c3 c4 c5 : Nat) (L : List CE) : Prop where
  n1 : N1 w W2 c A1 A2 A3 A4 A5 c1 c2 c3 c4 c5
  lx : L.map (·.x) = c.srt.chans
  own : W2.ownsRow (w.heap.size + 1 + 1 + 1) 64 3 (.slice A5 c.chans.length c5) c.chans.length (L.flatMap CE.cells)
  dst : DO W2 (w.heap.size + 1 + 1 + 1) L
theorem N2.start {w V0 W : World} {c : Cfg} {A1 A2 A3 A4 A5 B5 : Option Addr} {c1 c2 c3 c4 c5 d5 : Nat} {L : List CE} (h0 : N1 w V0 c A1 A2 A3 A4 A5 c1 c2 c3 c4 c5) (h : NC w V0 W c c.chans.length (.slice B5 c.chans.length d5) L) : N2 w (W.setCell ⟨w.heap.size, 5, none⟩ (.slice B5 c.chans.length d5)) c A1 A2 A3 A4 B5 c1 c2 c3 c4 d5 L := by
  have hn := h0.up h.bel
  have hl := h.len (Nat.le_refl _)
  refine ⟨⟨hn.bel.setCell (Nat.le_refl _) _, by have := hn.sz; simpa using this, ?_, hn.res.far (by show w.heap.size + 1 ≠ w.heap.size; omega) _, hn.out.far (by show w.heap.size + 1 + 1 ≠ w.heap.size; omega) _⟩, ?_, ?_, h.dst.set_ (by show w.heap.size < _; omega) _⟩
  · have := hn.box.set_ 5 (.slice B5 c.chans.length d5); simpa using this
  · rw [h.lx, List.take_length]; rfl
  · have := own_set h.own (p := ⟨w.heap.size, 5, none⟩) (by show w.heap.size < _; omega) (.slice B5 c.chans.length d5)
    rwa [hl] at this
/-- the records that are in order so far -/
structure NQ (w W2 W : World) (F : Int) (v1 v2 v3 v4 v5 : Value) (P : List Par) (N : List Win) (R : List Reg) (T : List Prt) (X : List CE) : Prop where
  bel : Below w.heap.size w W
  g : w.heap.size + 1 + 1 + 1 ≤ W2.heap.size
  kp : ∀ b, b < W2.heap.size → b ≠ w.heap.size + 1 + 1 → W.heap[b]? = W2.heap[b]?
  sz : W2.heap.size ≤ W.heap.size
  out : Blk W (w.heap.size + 1 + 1) 29 #[.int .u64 F, v1, v2, v3, v4, v5]
  o1 : W.ownsRow W2.heap.size 66 4 v1 P.length (P.flatMap Par.cells)
  o2 : W.ownsRow W2.heap.size 128 3 v2 N.length (N.flatMap Win.cells)
  o3 : W.ownsRow W2.heap.size 138 5 v3 R.length (R.flatMap Reg.cells)
  o4 : W.ownsRow W2.heap.size 41 6 v4 T.length (T.flatMap Prt.cells)
  o5 : W.ownsRow W2.heap.size 64 3 v5 X.length (X.flatMap CE.cells)
section
variable {w W2 W W1 V : World} {F : Int} {v1 v2 v3 v4 v5 v' : Value} {P P' : List Par} {N N' : List Win} {R R' : List Reg} {T T' : List Prt} {X X' L : List CE} {c : Cfg} {A1 A2 A3 A4 A5 : Option Addr} {c1 c2 c3 c4 c5 : Nat}
theorem NQ.start (h : N2 w W2 c A1 A2 A3 A4 A5 c1 c2 c3 c4 c5 L) : NQ w W2 W2 c.frame (.slice none 0 0) (.slice none 0 0) (.slice none 0 0) (.slice none 0 0) (.slice none 0 0) [] [] [] [] [] :=
  ⟨h.n1.bel, h.n1.sz, fun _ _ _ => rfl, Nat.le_refl _, h.n1.out, World.ownsRow_nil _ _ _ _, World.ownsRow_nil _ _ _ _, World.ownsRow_nil _ _ _ _, World.ownsRow_nil _ _ _ _, World.ownsRow_nil _ _ _ _⟩
theorem NQ.up (h : NQ w W2 W F v1 v2 v3 v4 v5 P N R T X) (hb : Below W.heap.size W V) : NQ w W2 V F v1 v2 v3 v4 v5 P N R T X :=
  ⟨h.bel.trans (hb.mono h.bel.size), h.g, fun b hb1 hb2 => (hb.block b (Nat.lt_of_lt_of_le hb1 h.sz)).trans (h.kp b hb1 hb2), Nat.le_trans h.sz hb.size, h.out.below hb h.out.lt, own_below h.o1 hb, own_below h.o2 hb, own_below h.o3 hb, own_below h.o4 hb, own_below h.o5 hb⟩
theorem NQ.app1 (h : NQ w W2 W F v1 v2 v3 v4 v5 P N R T X) (hc : Below W.heap.size W W1) (hb : Below W2.heap.size W V) (hof : Off 66 W1 V) (ho : V.ownsRow W2.heap.size 66 4 v' P'.length (P'.flatMap Par.cells)) : NQ w W2 (V.setCell ⟨w.heap.size + 1 + 1, 1, none⟩ v') F v' v2 v3 v4 v5 P' N R T X := by
  have hg := h.g
  have far : ∀ {e : TypeId} {size n : Nat} {v : Value} {ys : List Value}, V.ownsRow W2.heap.size e size v n ys → (V.setCell ⟨w.heap.size + 1 + 1, 1, none⟩ v').ownsRow W2.heap.size e size v n ys := fun ho => own_set ho (p := ⟨w.heap.size + 1 + 1, 1, none⟩) (by show w.heap.size + 1 + 1 < _; omega) _
  refine ⟨(h.bel.trans (hb.mono (by omega))).setCell (by show w.heap.size ≤ w.heap.size + 1 + 1; omega) _, h.g, fun b h1 h2 => (Below.heap_setCell _ _ _ b h2).trans ((hb.block b h1).trans (h.kp b h1 h2)), by have := h.sz; have := hb.size; simp; omega, ?_, far ho, far (own_off (own_below h.o2 hc) hof (by decide)), far (own_off (own_below h.o3 hc) hof (by decide)), far (own_off (own_below h.o4 hc) hof (by decide)), far (own_off (own_below h.o5 hc) hof (by decide))⟩
  have := (h.out.below hb (by omega)).set_ 1 v'
  simpa using this
theorem NQ.app2 (h : NQ w W2 W F v1 v2 v3 v4 v5 P N R T X) (hc : Below W.heap.size W W1) (hb : Below W2.heap.size W V) (hof : Off 128 W1 V) (ho : V.ownsRow W2.heap.size 128 3 v' N'.length (N'.flatMap Win.cells)) : NQ w W2 (V.setCell ⟨w.heap.size + 1 + 1, 2, none⟩ v') F v1 v' v3 v4 v5 P N' R T X := by
  have hg := h.g
  have far : ∀ {e : TypeId} {size n : Nat} {v : Value} {ys : List Value}, V.ownsRow W2.heap.size e size v n ys → (V.setCell ⟨w.heap.size + 1 + 1, 2, none⟩ v').ownsRow W2.heap.size e size v n ys := fun ho => own_set ho (p := ⟨w.heap.size + 1 + 1, 2, none⟩) (by show w.heap.size + 1 + 1 < _; omega) _
  refine ⟨(h.bel.trans (hb.mono (by omega))).setCell (by show w.heap.size ≤ w.heap.size + 1 + 1; omega) _, h.g, fun b h1 h2 => (Below.heap_setCell _ _ _ b h2).trans ((hb.block b h1).trans (h.kp b h1 h2)), by have := h.sz; have := hb.size; simp; omega, ?_, far (own_off (own_below h.o1 hc) hof (by decide)), far ho, far (own_off (own_below h.o3 hc) hof (by decide)), far (own_off (own_below h.o4 hc) hof (by decide)), far (own_off (own_below h.o5 hc) hof (by decide))⟩
  have := (h.out.below hb (by omega)).set_ 2 v'
  simpa using this
theorem NQ.app3 (h : NQ w W2 W F v1 v2 v3 v4 v5 P N R T X) (hc : Below W.heap.size W W1) (hb : Below W2.heap.size W V) (hof : Off 138 W1 V) (ho : V.ownsRow W2.heap.size 138 5 v' R'.length (R'.flatMap Reg.cells)) : NQ w W2 (V.setCell ⟨w.heap.size + 1 + 1, 3, none⟩ v') F v1 v2 v' v4 v5 P N R' T X := by
  have hg := h.g
  have far : ∀ {e : TypeId} {size n : Nat} {v : Value} {ys : List Value}, V.ownsRow W2.heap.size e size v n ys → (V.setCell ⟨w.heap.size + 1 + 1, 3, none⟩ v').ownsRow W2.heap.size e size v n ys := fun ho => own_set ho (p := ⟨w.heap.size + 1 + 1, 3, none⟩) (by show w.heap.size + 1 + 1 < _; omega) _
  refine ⟨(h.bel.trans (hb.mono (by omega))).setCell (by show w.heap.size ≤ w.heap.size + 1 + 1; omega) _, h.g, fun b h1 h2 => (Below.heap_setCell _ _ _ b h2).trans ((hb.block b h1).trans (h.kp b h1 h2)), by have := h.sz; have := hb.size; simp; omega, ?_, far (own_off (own_below h.o1 hc) hof (by decide)), far (own_off (own_below h.o2 hc) hof (by decide)), far ho, far (own_off (own_below h.o4 hc) hof (by decide)), far (own_off (own_below h.o5 hc) hof (by decide))⟩
  have := (h.out.below hb (by omega)).set_ 3 v'
  simpa using this
theorem NQ.app4 (h : NQ w W2 W F v1 v2 v3 v4 v5 P N R T X) (hc : Below W.heap.size W W1) (hb : Below W2.heap.size W V) (hof : Off 41 W1 V) (ho : V.ownsRow W2.heap.size 41 6 v' T'.length (T'.flatMap Prt.cells)) : NQ w W2 (V.setCell ⟨w.heap.size + 1 + 1, 4, none⟩ v') F v1 v2 v3 v' v5 P N R T' X := by
  have hg := h.g
  have far : ∀ {e : TypeId} {size n : Nat} {v : Value} {ys : List Value}, V.ownsRow W2.heap.size e size v n ys → (V.setCell ⟨w.heap.size + 1 + 1, 4, none⟩ v').ownsRow W2.heap.size e size v n ys := fun ho => own_set ho (p := ⟨w.heap.size + 1 + 1, 4, none⟩) (by show w.heap.size + 1 + 1 < _; omega) _
  refine ⟨(h.bel.trans (hb.mono (by omega))).setCell (by show w.heap.size ≤ w.heap.size + 1 + 1; omega) _, h.g, fun b h1 h2 => (Below.heap_setCell _ _ _ b h2).trans ((hb.block b h1).trans (h.kp b h1 h2)), by have := h.sz; have := hb.size; simp; omega, ?_, far (own_off (own_below h.o1 hc) hof (by decide)), far (own_off (own_below h.o2 hc) hof (by decide)), far (own_off (own_below h.o3 hc) hof (by decide)), far ho, far (own_off (own_below h.o5 hc) hof (by decide))⟩
  have := (h.out.below hb (by omega)).set_ 4 v'
  simpa using this
theorem NQ.app5 (h : NQ w W2 W F v1 v2 v3 v4 v5 P N R T X) (hc : Below W.heap.size W W1) (hb : Below W2.heap.size W V) (hof : Off 64 W1 V) (ho : V.ownsRow W2.heap.size 64 3 v' X'.length (X'.flatMap CE.cells)) : NQ w W2 (V.setCell ⟨w.heap.size + 1 + 1, 5, none⟩ v') F v1 v2 v3 v4 v' P N R T X' := by
  have hg := h.g
  have far : ∀ {e : TypeId} {size n : Nat} {v : Value} {ys : List Value}, V.ownsRow W2.heap.size e size v n ys → (V.setCell ⟨w.heap.size + 1 + 1, 5, none⟩ v').ownsRow W2.heap.size e size v n ys := fun ho => own_set ho (p := ⟨w.heap.size + 1 + 1, 5, none⟩) (by show w.heap.size + 1 + 1 < _; omega) _
  refine ⟨(h.bel.trans (hb.mono (by omega))).setCell (by show w.heap.size ≤ w.heap.size + 1 + 1; omega) _, h.g, fun b h1 h2 => (Below.heap_setCell _ _ _ b h2).trans ((hb.block b h1).trans (h.kp b h1 h2)), by have := h.sz; have := hb.size; simp; omega, ?_, far (own_off (own_below h.o1 hc) hof (by decide)), far (own_off (own_below h.o2 hc) hof (by decide)), far (own_off (own_below h.o3 hc) hof (by decide)), far (own_off (own_below h.o4 hc) hof (by decide)), far ho⟩
  have := (h.out.below hb (by omega)).set_ 5 v'
  simpa using this
theorem NQ.keepO {e : TypeId} {size n : Nat} {v : Value} {ys : List Value} (h : NQ w W2 W F v1 v2 v3 v4 v5 P N R T X) (ho : W2.ownsRow (w.heap.size + 1 + 1 + 1) e size v n ys) : W.ownsRow (w.heap.size + 1 + 1 + 1) e size v n ys :=
  own_block ho fun g h1 h2 => h.kp g h2 (by omega)
theorem NQ.box (h : NQ w W2 W F v1 v2 v3 v4 v5 P N R T X) (h2 : N2 w W2 c A1 A2 A3 A4 A5 c1 c2 c3 c4 c5 L) : Blk W w.heap.size 29 #[.int .u64 c.frame, .slice A1 c.parts.length c1, .slice A2 c.wins.length c2, .slice A3 c.regs.length c3, .slice A4 c.ports.length c4, .slice A5 c.chans.length c5] :=
  (h.kp _ (by have := h.g; omega) (by omega)).trans h2.n1.box
theorem NQ.res (h : NQ w W2 W F v1 v2 v3 v4 v5 P N R T X) (h2 : N2 w W2 c A1 A2 A3 A4 A5 c1 c2 c3 c4 c5 L) : Blk W (w.heap.size + 1) 29 #[.int .u64 0, .slice none 0 0, .slice none 0 0, .slice none 0 0, .slice none 0 0, .slice none 0 0] :=
  (h.kp _ (by have := h.g; omega) (by omega)).trans h2.n1.res
theorem NQ.chn (h : NQ w W2 W F v1 v2 v3 v4 v5 P N R T X) (h2 : N2 w W2 c A1 A2 A3 A4 A5 c1 c2 c3 c4 c5 L) : Rd W W.heap.size 3 A5 c.chans.length (L.flatMap CE.cells) := (own_slice (h.keepO h2.own)).2
theorem NQ.dst (h : NQ w W2 W F v1 v2 v3 v4 v5 P N R T X) (h2 : N2 w W2 c A1 A2 A3 A4 A5 c1 c2 c3 c4 c5 L) : DO W (w.heap.size + 1 + 1 + 1) L := fun e he => h.keepO (h2.dst e he)
theorem NQ.cfg {B5 : Option Addr} {d5 : Nat} (h : NQ w W2 W F v1 v2 v3 v4 v5 P N R T X) (h2 : N2 w W2 c A1 A2 A3 A4 B5 c1 c2 c3 c4 d5 L) (hR : CfgR w w.heap.size c A1 A2 A3 A4 A5 c1 c2 c3 c4 c5) : CfgR W W.heap.size c.srt A1 A2 A3 A4 B5 c1 c2 c3 c4 d5 := by
  have h0 := hR.up h.bel
  have hl : c.srt.chans.length = c.chans.length := by unfold Cfg.srt; simp
  refine ⟨h0.parts, h0.wins, h0.regs, h0.ports, ⟨L.flatMap CE.cells, ?_, ?_⟩, h0.cap1, h0.cap2, h0.cap3, h0.cap4, ?_⟩
  · rw [← h2.lx]; exact (h.dst h2).chns
  · rw [hl]; exact h.chn h2
  · rw [hl]; exact (own_slice h2.own).1
end
theorem cell_same {U V : World} {b : Nat} (h : U.heap[b]? = V.heap[b]?) (o : Nat) : U.cell? ⟨b, o, none⟩ = V.cell? ⟨b, o, none⟩ := by
  simp [World.cell?, h]
theorem pick_map {α β : Type} (f : α → β) (l : List α) (o : List Nat) : (pick l o).map f = pick (l.map f) o := by
  unfold pick
  rw [List.map_filterMap]
  congr 1
  funext i
  simp
theorem pick_zero {α : Type} (l : List α) (o : List Nat) : pick l (o.take 0) = [] := by simp [pick]
theorem off_below {ty : TypeId} {a b c : World} (h : Off ty a b) (hb : Below b.heap.size b c) : Off ty a c :=
  ⟨hb.os.trans h.os, hb.tape.trans h.tape, hb.output.trans h.output, Nat.le_trans h.size hb.size, fun k hk hno => (hb.block k (Nat.lt_of_lt_of_le hk h.size)).trans (h.block k hk hno)⟩
theorem blk_rd {w : World} {g : Nat} {t : TypeId} {cs : List Value} {sz : Nat} (h : Blk w g t cs.toArray) (hl : cs.length = sz) : Rd w w.heap.size sz (some ⟨g, 0, none⟩) 1 cs :=
  ⟨by rw [hl, Nat.one_mul], fun _ => ⟨g, 0, rfl, h.lt, fun j u hu => by rw [Nat.zero_add, h.cell j, List.getElem?_toArray]; exact hu⟩⟩
def stg {α : Type} (s k : Nat) (l : List α) : List α := if s < k then l else []
theorem stg_lt {α : Type} {s k : Nat} (h : s < k) (l : List α) : stg s k l = l := if_pos h
theorem stg_ge {α : Type} {s k : Nat} (h : ¬ s < k) (l : List α) : stg s k l = [] := if_neg h
theorem own_low {w : World} {base : Nat} {e : TypeId} {size n b o c : Nat} {xs : List Value} (h : w.ownsRow base e size (.slice (some ⟨b, o, none⟩) n c) n xs) : base ≤ b := (h.lt b rfl).1
section
variable {w W2 W W1 V : World} {c : Cfg} {A1 A2 A3 A4 A5 B1 B2 B3 B4 B5 : Option Addr} {c1 c2 c3 c4 c5 d1 d2 d3 d4 d5 n : Nat} {L X : List CE}
/-- the result lies in memory -/
theorem NQ.fin (h : NQ w W2 W c.frame (.slice B1 c.norm.parts.length d1) (.slice B2 c.norm.wins.length d2) (.slice B3 c.norm.regs.length d3) (.slice B4 c.norm.ports.length d4) (.slice B5 c.norm.chans.length d5) c.norm.parts c.norm.wins c.norm.regs c.norm.ports X) (h2 : N2 w W2 c A1 A2 A3 A4 A5 c1 c2 c3 c4 c5 L) (hx : X.map (·.x) = c.norm.chans) (hm : ∀ e ∈ X, e ∈ L) (hk : ∀ g, g ≠ w.heap.size + 1 → V.heap[g]? = W.heap[g]?) : CfgR V V.heap.size c.norm B1 B2 B3 B4 B5 d1 d2 d3 d4 d5 := by
  have hl : X.length = c.norm.chans.length := by have := congrArg List.length hx; simpa using this
  have hg := h.g
  have mv : ∀ {base : Nat} {e : TypeId} {size n : Nat} {v : Value} {ys : List Value}, w.heap.size + 1 < base → W.ownsRow base e size v n ys → V.ownsRow base e size v n ys := fun hb ho => own_block ho fun g h1 _ => hk g (by omega)
  obtain ⟨q1, r1⟩ := own_slice (mv (by omega) h.o1)
  obtain ⟨q2, r2⟩ := own_slice (mv (by omega) h.o2)
  obtain ⟨q3, r3⟩ := own_slice (mv (by omega) h.o3)
  obtain ⟨q4, r4⟩ := own_slice (mv (by omega) h.o4)
  have h5 := h.o5
  rw [hl] at h5
  obtain ⟨q5, r5⟩ := own_slice (mv (by omega) h5)
  have hd : DO V (w.heap.size + 1 + 1 + 1) X := fun e he => mv (by omega) (h.dst h2 e (hm e he))
  exact ⟨r1, r2, r3, r4, ⟨X.flatMap CE.cells, by rw [← hx]; exact hd.chns, r5⟩, q1, q2, q3, q4, q5⟩
end
end Go.Proofs.YthnbgbocanpkjaaGreat
