/-
  Rows of like records that are made, and how a configuration that is being built takes a new row. It speaks of no program beyond the types.
-/
import Derived.Test.YtldchpmilknlmaaGreatYStP
import Derived.Test.YtldchpmilknlmaaGreatLimP
namespace Go.Proofs.YtldchpmilknlmaaGreat
open Go.RowKit Go.Lib
theorem own_litS (w : World) (base : Nat) (E : TypeId) (sz : Nat) (l : List Value) (b n : Nat) (hb : base ≤ w.heap.size) (hbk : w.heap.size = b) (hl : n ≤ maxLen) (hn : l.length = n * sz) (cs : Array Value) (hc : cs = l.toArray) :
    (w.alloc (.cells cs E)).ownsRow base E sz (.slice (some ⟨b, 0, none⟩) n n) n l := by
  subst hbk hc
  exact ⟨hn, .inr ⟨w.heap.size, n, l.toArray, rfl, hb, heap_alloc_new w _, Nat.le_refl _, hl, by simp [hn], by rw [List.take_of_length_le (by simp [hn])]⟩⟩
theorem off_below {ty : TypeId} {a b c : World} (h : Off ty a b) (hb : Below b.heap.size b c) : Off ty a c :=
  ⟨hb.os.trans h.os, hb.tape.trans h.tape, hb.output.trans h.output, Nat.le_trans h.size hb.size, fun k hk hno => (hb.block k (Nat.lt_of_lt_of_le hk h.size)).trans (h.block k hk hno)⟩
theorem own_lessC {w : World} {b b' : Nat} {e : TypeId} {size n : Nat} {v : Value} {xs : List Value} (h : w.ownsRow b e size v n xs) (hb : b' ≤ b) : w.ownsRow b' e size v n xs := by
  refine ⟨h.1, ?_⟩
  rcases h.2 with h2 | ⟨g, cap, cur, rfl, hg, r⟩
  · exact .inl h2
  · exact .inr ⟨g, cap, cur, rfl, by omega, r⟩
theorem run_makeN {P : Program} (t e : TypeId) (i : TypeInfo) (z : Value) (sz by_ : Nat) (cs : Array Value) (ht : P.underlying t = some (.slice e)) (hi : P.info? e = some i) (hz : i.zero = some z) (hs : i.size = sz) (hb : i.bytes = by_) (hcs : z.cells = cs)
    (n : Nat) (hn : n ≤ 4096) (hby : by_ ≤ 1024) (w : World) :
    (Instr.makeSlice t (.int .i64 (n : Int)) (.int .i64 (n : Int))).run P w = .ok (.slice (some ⟨w.heap.size, 0, none⟩) n n) (w.alloc (.cells (madeCells cs (n * sz)) e)) := by
  subst hs hb hcs
  have h1 : i.bytes * n ≤ 281474976710656 := by
    have := Nat.mul_le_mul hby hn
    omega
  have h : ((i.bytes * n : Nat) : Int) ≤ 281474976710656 := by omega
  rw [Int.natCast_mul] at h
  have hr := run_make (P := P) w t e i z ht hi hz .i64 .i64 n n (by omega) (by omega) h (by omega)
  simp only [Int.toNat_natCast] at hr
  exact hr
theorem made_flat {α : Type} (f : α → List Value) (x : α) (sz : Nat) (hf : ∀ y, (f y).length = sz) (hsz : 0 < sz) (n : Nat) : (madeCells (f x).toArray (n * sz)).toList = (List.replicate n x).flatMap f := by
  have hl : ((List.replicate n x).flatMap f).length = n * sz := by
    rw [flat_len f sz hf, List.length_replicate]
  apply List.ext_getElem
  · rw [hl]; simp [size_madeCells]
  · intro i h1 h2
    rw [hl] at h2
    have hk : i / sz < n := Nat.div_lt_of_lt_mul (by rw [Nat.mul_comm]; exact h2)
    have hm := Nat.mod_lt i hsz
    have h3 := flat_at f sz hf (List.replicate n x) (i / sz) x (i % sz) (by simp [hk]) hm
    rw [show i / sz * sz + i % sz = i from by rw [Nat.mul_comm]; exact Nat.div_add_mod i sz] at h3
    obtain ⟨h4, h5⟩ := List.getElem?_eq_some_iff.1 (h3.trans (List.getElem?_eq_getElem (by rw [hf]; exact hm)))
    rw [h5]
    simp [madeCells, hf, hm]
theorem made_own {α : Type} (f : α → List Value) (x : α) (sz : Nat) (hf : ∀ y, (f y).length = sz) (hsz : 0 < sz) (n : Nat) (hn : n ≤ 4096) (w : World) (base : Nat) (hb : base ≤ w.heap.size) (t : TypeId) (cs : Array Value) (hcs : cs = (f x).toArray) :
    (w.alloc (.cells (madeCells cs (n * sz)) t)).ownsRow base t sz (.slice (some ⟨w.heap.size, 0, none⟩) n n) n ((List.replicate n x).flatMap f) := by
  subst hcs
  have hl : ((List.replicate n x).flatMap f).length = n * sz := by rw [← made_flat f x sz hf hsz]; simp [size_madeCells]
  exact ⟨hl, .inr ⟨w.heap.size, n, _, rfl, hb, heap_alloc_new w _, Nat.le_refl _, by unfold maxLen; omega, size_madeCells _ _, by rw [made_flat f x sz hf hsz, List.take_of_length_le (by rw [hl]; exact Nat.le_refl _)]⟩⟩
theorem elem_zero : (Tryz.prog.info? 34).map (fun i => (i.zero, i.size, i.bytes)) = some (some (.int .u16 0), 1, 2) := by kernel_rfl
theorem makePar (n : Nat) (hn : n ≤ 4096) (W : World) : ∃ V, (Instr.makeSlice 23 (.int .i64 (n : Int)) (.int .i64 (n : Int))).run Tryz.prog W = .ok (.slice (some ⟨W.heap.size, 0, none⟩) n n) V ∧ Below W.heap.size W V ∧ V.ownsRow W.heap.size 36 4 (.slice (some ⟨W.heap.size, 0, none⟩) n n) n ((List.replicate n par0).flatMap Par.cells) := by
  obtain ⟨i, hi, h0, h1, h2⟩ := info_parts infoPartition
  exact ⟨_, run_makeN _ _ i _ 4 _ _ Tryz.underlying23 hi h0 h1 h2 rfl n hn (by decide) W, below_one _ _, made_own Par.cells par0 4 (fun _ => rfl) (by decide) n hn W _ (Nat.le_refl _) _ _ rfl⟩
theorem makeWin (n : Nat) (hn : n ≤ 4096) (W : World) : ∃ V, (Instr.makeSlice 24 (.int .i64 (n : Int)) (.int .i64 (n : Int))).run Tryz.prog W = .ok (.slice (some ⟨W.heap.size, 0, none⟩) n n) V ∧ Below W.heap.size W V ∧ V.ownsRow W.heap.size 38 3 (.slice (some ⟨W.heap.size, 0, none⟩) n n) n ((List.replicate n win0).flatMap Win.cells) := by
  obtain ⟨i, hi, h0, h1, h2⟩ := info_parts infoWindow
  exact ⟨_, run_makeN _ _ i _ 3 _ _ Tryz.underlying24 hi h0 h1 h2 rfl n hn (by decide) W, below_one _ _, made_own Win.cells win0 3 (fun _ => rfl) (by decide) n hn W _ (Nat.le_refl _) _ _ rfl⟩
theorem makeReg (n : Nat) (hn : n ≤ 4096) (W : World) : ∃ V, (Instr.makeSlice 25 (.int .i64 (n : Int)) (.int .i64 (n : Int))).run Tryz.prog W = .ok (.slice (some ⟨W.heap.size, 0, none⟩) n n) V ∧ Below W.heap.size W V ∧ V.ownsRow W.heap.size 40 5 (.slice (some ⟨W.heap.size, 0, none⟩) n n) n ((List.replicate n reg0).flatMap Reg.cells) := by
  obtain ⟨i, hi, h0, h1, h2⟩ := info_parts infoRegion
  exact ⟨_, run_makeN _ _ i _ 5 _ _ Tryz.underlying25 hi h0 h1 h2 rfl n hn (by decide) W, below_one _ _, made_own Reg.cells reg0 5 (fun _ => rfl) (by decide) n hn W _ (Nat.le_refl _) _ _ rfl⟩
theorem makePrt (n : Nat) (hn : n ≤ 4096) (W : World) : ∃ V, (Instr.makeSlice 26 (.int .i64 (n : Int)) (.int .i64 (n : Int))).run Tryz.prog W = .ok (.slice (some ⟨W.heap.size, 0, none⟩) n n) V ∧ Below W.heap.size W V ∧ V.ownsRow W.heap.size 43 6 (.slice (some ⟨W.heap.size, 0, none⟩) n n) n ((List.replicate n prt0).flatMap Prt.cells) := by
  obtain ⟨i, hi, h0, h1, h2⟩ := info_parts infoPort
  exact ⟨_, run_makeN _ _ i _ 6 _ _ Tryz.underlying26 hi h0 h1 h2 rfl n hn (by decide) W, below_one _ _, made_own Prt.cells prt0 6 (fun _ => rfl) (by decide) n hn W _ (Nat.le_refl _) _ _ rfl⟩
def ce0 : CE := ⟨chn0, none, 0⟩
theorem ce0_own (W : World) (B n : Nat) : ChnsO W B (List.replicate n ce0) :=
  ⟨fun e he => by rw [List.eq_of_mem_replicate he]; exact World.ownsRow_nil _ _ _ _, List.pairwise_replicate.2 (.inr (fun g h => by cases h))⟩
theorem makeChn (n : Nat) (hn : n ≤ 4096) (W : World) : ∃ V, (Instr.makeSlice 27 (.int .i64 (n : Int)) (.int .i64 (n : Int))).run Tryz.prog W = .ok (.slice (some ⟨W.heap.size, 0, none⟩) n n) V ∧ Below W.heap.size W V ∧ V.ownsRow W.heap.size 46 3 (.slice (some ⟨W.heap.size, 0, none⟩) n n) n ((List.replicate n ce0).flatMap CE.cells) := by
  obtain ⟨i, hi, h0, h1, h2⟩ := info_parts infoChannel
  exact ⟨_, run_makeN _ _ i _ 3 _ _ Tryz.underlying27 hi h0 h1 h2 rfl n hn (by decide) W, below_one _ _, made_own CE.cells ce0 3 (fun _ => rfl) (by decide) n hn W _ (Nat.le_refl _) _ _ rfl⟩
theorem makeU (n : Nat) (hn : n ≤ 4096) (W : World) : ∃ V, (Instr.makeSlice 44 (.int .i64 (n : Int)) (.int .i64 (n : Int))).run Tryz.prog W = .ok (.slice (some ⟨W.heap.size, 0, none⟩) n n) V ∧ Below W.heap.size W V ∧ V.ownsRow W.heap.size 34 1 (.slice (some ⟨W.heap.size, 0, none⟩) n n) n ((List.replicate n (0 : Int)).map (Value.int .u16)) ∧ V.heap.size = W.heap.size + 1 := by
  obtain ⟨i, hi, h0, h1, h2⟩ := info_parts elem_zero
  refine ⟨_, run_makeN _ _ i _ 1 _ _ Tryz.underlying44 hi h0 h1 h2 rfl n hn (by decide) W, below_one _ _, ?_, by simp⟩
  have := made_own (fun x : Int => [Value.int .u16 x]) 0 1 (fun _ => rfl) (by decide) n hn W W.heap.size (Nat.le_refl _) 34 _ rfl
  have e : (List.replicate n (0 : Int)).flatMap (fun x => [Value.int .u16 x]) = (List.replicate n (0 : Int)).map (Value.int .u16) := by
    generalize List.replicate n (0 : Int) = l
    induction l with
    | nil => rfl
    | cons x r ih => rw [List.flatMap_cons, ih]; rfl
  rwa [e] at this
section
variable {B g : Nat} {W3 W V : World} {F : Int} {v1 v2 v3 v4 v5 v' : Value} {P P' : List Par} {N N' : List Win} {R R' : List Reg} {T T' : List Prt} {L L' : List CE}
theorem YSt.cfg {A1 A2 A3 A4 A5 : Option Addr} {n1 n2 n3 n4 n5 c1 c2 c3 c4 c5 : Nat} {x : Cfg} (h : YSt B g W3 W F (.slice A1 n1 c1) (.slice A2 n2 c2) (.slice A3 n3 c3) (.slice A4 n4 c4) (.slice A5 n5 c5) P N R T L) (hx : x = ⟨F, P, N, R, T, L.map (·.x)⟩) (e1 : n1 = x.parts.length) (e2 : n2 = x.wins.length) (e3 : n3 = x.regs.length) (e4 : n4 = x.ports.length) (e5 : n5 = x.chans.length) : CfgR W W.heap.size x A1 A2 A3 A4 A5 c1 c2 c3 c4 c5 := by
  subst hx
  subst e1 e2 e3 e4 e5
  have hl : (L.map (·.x)).length = L.length := by simp
  obtain ⟨q1, r1⟩ := own_slice h.o1
  obtain ⟨q2, r2⟩ := own_slice h.o2
  obtain ⟨q3, r3⟩ := own_slice h.o3
  obtain ⟨q4, r4⟩ := own_slice h.o4
  have h5 := h.o5
  simp only [hl] at h5
  obtain ⟨q5, r5⟩ := own_slice h5
  exact ⟨r1, r2, r3, r4, ⟨L.flatMap CE.cells, (rows_chns (rows_map (fun _ _ hx => ChnT.toC hx) (ChnsO.rows h.ch.own)) : ChnsC W W.heap.size (L.map (·.x)) (L.flatMap CE.cells)), by show Rd W W.heap.size 3 A5 (L.map (·.x)).length _; rw [hl]; exact r5⟩, q1, q2, q3, q4, by show (L.map (·.x)).length ≤ c5 ∧ c5 ≤ maxLen; rw [hl]; exact q5⟩
theorem off_new (ty : TypeId) (hb : Below W.heap.size W V) : Off ty W V := ⟨hb.os, hb.tape, hb.output, hb.size, fun k hk _ => hb.block k hk⟩
theorem off_then {ty : TypeId} {a b c : World} (h : Off ty a b) (k : Off ty b c) : Off ty a c := ⟨k.os.trans h.os, k.tape.trans h.tape, k.output.trans h.output, Nat.le_trans h.size k.size, fun i hi hno => by
  have e := h.block i hi hno
  exact (k.block i (Nat.lt_of_lt_of_le hi h.size) (fun cs fr hc => hno cs fr (e ▸ hc))).trans e⟩
theorem YSt.app1 (h : YSt B g W3 W F v1 v2 v3 v4 v5 P N R T L) (hb : Below B W V) (hof : Off 36 W V) (ho : V.ownsRow B 36 4 v' P'.length (P'.flatMap Par.cells)) : YSt B g W3 (V.setCell ⟨g, 1, none⟩ v') F v' v2 v3 v4 v5 P' N R T L := by
  have hb1 := Lib.hid (h.box.off hof (by decide))
  refine ⟨(h.bel.trans hb).setCell h.hg _, h.hg, by have := h.hB; have := hb.size; simp; omega, ?_, own_far ho (p := ⟨g, 1, none⟩) (hb1.out) (by decide) _, own_far (own_off h.o2 hof (by decide)) (p := ⟨g, 1, none⟩) (hb1.out) (by decide) _, own_far (own_off h.o3 hof (by decide)) (p := ⟨g, 1, none⟩) (hb1.out) (by decide) _, own_far (own_off h.o4 hof (by decide)) (p := ⟨g, 1, none⟩) (hb1.out) (by decide) _, own_far (own_off h.o5 hof (by decide)) (p := ⟨g, 1, none⟩) (hb1.out) (by decide) _, (h.ch.off hof (by decide)).far (p := ⟨g, 1, none⟩) hb1.out (by decide) _⟩
  have := hb1.out.set_ 1 v'
  simpa using this
theorem YSt.app2 (h : YSt B g W3 W F v1 v2 v3 v4 v5 P N R T L) (hb : Below B W V) (hof : Off 38 W V) (ho : V.ownsRow B 38 3 v' N'.length (N'.flatMap Win.cells)) : YSt B g W3 (V.setCell ⟨g, 2, none⟩ v') F v1 v' v3 v4 v5 P N' R T L := by
  have hb1 := Lib.hid (h.box.off hof (by decide))
  refine ⟨(h.bel.trans hb).setCell h.hg _, h.hg, by have := h.hB; have := hb.size; simp; omega, ?_, own_far (own_off h.o1 hof (by decide)) (p := ⟨g, 2, none⟩) (hb1.out) (by decide) _, own_far ho (p := ⟨g, 2, none⟩) (hb1.out) (by decide) _, own_far (own_off h.o3 hof (by decide)) (p := ⟨g, 2, none⟩) (hb1.out) (by decide) _, own_far (own_off h.o4 hof (by decide)) (p := ⟨g, 2, none⟩) (hb1.out) (by decide) _, own_far (own_off h.o5 hof (by decide)) (p := ⟨g, 2, none⟩) (hb1.out) (by decide) _, (h.ch.off hof (by decide)).far (p := ⟨g, 2, none⟩) hb1.out (by decide) _⟩
  have := hb1.out.set_ 2 v'
  simpa using this
theorem YSt.app3 (h : YSt B g W3 W F v1 v2 v3 v4 v5 P N R T L) (hb : Below B W V) (hof : Off 40 W V) (ho : V.ownsRow B 40 5 v' R'.length (R'.flatMap Reg.cells)) : YSt B g W3 (V.setCell ⟨g, 3, none⟩ v') F v1 v2 v' v4 v5 P N R' T L := by
  have hb1 := Lib.hid (h.box.off hof (by decide))
  refine ⟨(h.bel.trans hb).setCell h.hg _, h.hg, by have := h.hB; have := hb.size; simp; omega, ?_, own_far (own_off h.o1 hof (by decide)) (p := ⟨g, 3, none⟩) (hb1.out) (by decide) _, own_far (own_off h.o2 hof (by decide)) (p := ⟨g, 3, none⟩) (hb1.out) (by decide) _, own_far ho (p := ⟨g, 3, none⟩) (hb1.out) (by decide) _, own_far (own_off h.o4 hof (by decide)) (p := ⟨g, 3, none⟩) (hb1.out) (by decide) _, own_far (own_off h.o5 hof (by decide)) (p := ⟨g, 3, none⟩) (hb1.out) (by decide) _, (h.ch.off hof (by decide)).far (p := ⟨g, 3, none⟩) hb1.out (by decide) _⟩
  have := hb1.out.set_ 3 v'
  simpa using this
theorem YSt.app4 (h : YSt B g W3 W F v1 v2 v3 v4 v5 P N R T L) (hb : Below B W V) (hof : Off 43 W V) (ho : V.ownsRow B 43 6 v' T'.length (T'.flatMap Prt.cells)) : YSt B g W3 (V.setCell ⟨g, 4, none⟩ v') F v1 v2 v3 v' v5 P N R T' L := by
  have hb1 := Lib.hid (h.box.off hof (by decide))
  refine ⟨(h.bel.trans hb).setCell h.hg _, h.hg, by have := h.hB; have := hb.size; simp; omega, ?_, own_far (own_off h.o1 hof (by decide)) (p := ⟨g, 4, none⟩) (hb1.out) (by decide) _, own_far (own_off h.o2 hof (by decide)) (p := ⟨g, 4, none⟩) (hb1.out) (by decide) _, own_far (own_off h.o3 hof (by decide)) (p := ⟨g, 4, none⟩) (hb1.out) (by decide) _, own_far ho (p := ⟨g, 4, none⟩) (hb1.out) (by decide) _, own_far (own_off h.o5 hof (by decide)) (p := ⟨g, 4, none⟩) (hb1.out) (by decide) _, (h.ch.off hof (by decide)).far (p := ⟨g, 4, none⟩) hb1.out (by decide) _⟩
  have := hb1.out.set_ 4 v'
  simpa using this
theorem YSt.app5 (h : YSt B g W3 W F v1 v2 v3 v4 v5 P N R T L) (hb : Below B W V) (hof : Off 46 W V) (ho : V.ownsRow B 46 3 v' L'.length (L'.flatMap CE.cells)) (hch : ChnsO V B L') : YSt B g W3 (V.setCell ⟨g, 5, none⟩ v') F v1 v2 v3 v4 v' P N R T L' := by
  have hb1 := Lib.hid (h.box.off hof (by decide))
  refine ⟨(h.bel.trans hb).setCell h.hg _, h.hg, by have := h.hB; have := hb.size; simp; omega, ?_, own_far (own_off h.o1 hof (by decide)) (p := ⟨g, 5, none⟩) (hb1.out) (by decide) _, own_far (own_off h.o2 hof (by decide)) (p := ⟨g, 5, none⟩) (hb1.out) (by decide) _, own_far (own_off h.o3 hof (by decide)) (p := ⟨g, 5, none⟩) (hb1.out) (by decide) _, own_far (own_off h.o4 hof (by decide)) (p := ⟨g, 5, none⟩) (hb1.out) (by decide) _, own_far ho (p := ⟨g, 5, none⟩) (hb1.out) (by decide) _, hch.far (p := ⟨g, 5, none⟩) hb1.out (by decide) _⟩
  have := hb1.out.set_ 5 v'
  simpa using this
theorem flat_setJ {α : Type} (f : α → List Value) (sz : Nat) (hf : ∀ x, (f x).length = sz) (j : Nat) (hj : j < sz) (u : Value) (x' : α) : ∀ (l : List α) (k : Nat) (x : α), l[k]? = some x → f x' = (f x).set j u → (l.flatMap f).set (k * sz + j) u = (l.set k x').flatMap f
  | [], k, x, h, _ => by simp at h
  | y :: r, 0, x, h, hx => by
    simp at h; subst h
    rw [Nat.zero_mul, Nat.zero_add, List.flatMap_cons, List.set_append_left _ _ (by rw [hf]; exact hj)]
    simp [hx]
  | y :: r, k + 1, x, h, hx => by
    have := flat_setJ f sz hf j hj u x' r k x (by simpa using h) hx
    rw [List.flatMap_cons, List.set_append_right _ _ (by rw [hf, Nat.succ_mul]; omega), hf, Nat.succ_mul, show k * sz + sz + j - sz = k * sz + j by omega, this]
    simp
theorem own_recJ {α : Type} (f : α → List Value) (sz : Nat) (hf : ∀ x, (f x).length = sz) (j : Nat) (hj : j < sz) {w : World} {base : Nat} {e : TypeId} {l : List α} {k : Nat} {x x' : α} {u : Value} {g n cap : Nat} (h : w.ownsRow base e sz (.slice (some ⟨g, 0, none⟩) n cap) l.length (l.flatMap f)) (hn : n = l.length) (hk : l[k]? = some x) (hx : f x' = (f x).set j u) :
    (w.setCell ⟨g, k * sz + j, none⟩ u).ownsRow base e sz (.slice (some ⟨g, 0, none⟩) n cap) (l.set k x').length ((l.set k x').flatMap f) ∧ w.grownBy (w.setCell ⟨g, k * sz + j, none⟩ u) (Value.slice (some ⟨g, 0, none⟩) n cap).ownBlock := by
  subst hn
  obtain ⟨h1, h2⟩ := World.ownsRow.stored h (k * sz + j) u
  rw [flat_setJ f sz hf j hj u x' l k x hk hx] at h1
  rw [List.length_set]
  exact ⟨h1, h2⟩
theorem YSt.nam1 {b n cap k : Nat} {x : Par} (h : YSt B g W3 W F (.slice (some ⟨b, 0, none⟩) n cap) v2 v3 v4 v5 P N R T L) (hn : n = P.length) (hk : P[k]? = some x) (z : ByteArray) : YSt B g W3 (W.setCell ⟨b, k * 4 + 1, none⟩ (.string z)) F (.slice (some ⟨b, 0, none⟩) n cap) v2 v3 v4 v5 (P.set k { x with name := z }) N R T L := by
  obtain ⟨h1, h2⟩ := own_recJ Par.cells 4 (fun _ => rfl) 1 (by decide) (x' := { x with name := z }) (u := .string z) h.o1 hn hk rfl
  exact h.mv1 (below_own (Below.refl B W) h2 h.o1 h.hB) (Off.of_own h.o1 h2) h1
theorem YSt.nam4 {b n cap k : Nat} {x : Prt} (h : YSt B g W3 W F v1 v2 v3 (.slice (some ⟨b, 0, none⟩) n cap) v5 P N R T L) (hn : n = T.length) (hk : T[k]? = some x) (z : ByteArray) : YSt B g W3 (W.setCell ⟨b, k * 6 + 2, none⟩ (.string z)) F v1 v2 v3 (.slice (some ⟨b, 0, none⟩) n cap) v5 P N R (T.set k { x with name := z }) L := by
  obtain ⟨h1, h2⟩ := own_recJ Prt.cells 6 (fun _ => rfl) 2 (by decide) (x' := { x with name := z }) (u := .string z) h.o4 hn hk rfl
  exact h.mv4 (below_own (Below.refl B W) h2 h.o4 h.hB) (Off.of_own h.o4 h2) h1
/-- the first row and the box -/
theorem YSt.begin_ {w : World} (hb : Below w.heap.size w W) (hz : w.heap.size ≤ W.heap.size) (hg : w.heap.size ≤ g) (box : Blk W g 29 #[.int .u64 0, v1, .slice none 0 0, .slice none 0 0, v4, .slice none 0 0])
    (o1 : W.ownsRow w.heap.size 36 4 v1 P.length (P.flatMap Par.cells)) (o4 : W.ownsRow w.heap.size 43 6 v4 T.length (T.flatMap Prt.cells)) : YSt w.heap.size g w W 0 v1 (.slice none 0 0) (.slice none 0 0) v4 (.slice none 0 0) P [] [] T [] :=
  ⟨hb, hg, hz, box, o1, World.ownsRow_nil _ _ _ _, World.ownsRow_nil _ _ _ _, o4, World.ownsRow_nil _ _ _ _, ChnsO.nil⟩
end
end Go.Proofs.YtldchpmilknlmaaGreat
