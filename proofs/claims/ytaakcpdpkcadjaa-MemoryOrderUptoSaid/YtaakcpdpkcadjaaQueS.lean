/-
  The queue's method Swap. No condition but that the places are there.
-/
import Derived.Test.YtaakcpdpkcadjaaQue
import Derived.BigRegion
namespace Go.Proofs.Ytaakcpdpkcadjaa
open Go.RowKit Go.Shelf
theorem cells3 {l : List Itm} {k : Nat} (hk : k < l.length * 3) : (l.flatMap Itm.cells)[k]? = ((l[k / 3]?).map fun x => (x.cells)[k % 3]?).join := by
  have hq : k / 3 < l.length := by omega
  have h := flat_at Itm.cells 3 (fun _ => rfl) l (k / 3) l[k / 3] (k % 3) (List.getElem?_eq_getElem hq) (Nat.mod_lt _ (by decide))
  rw [show k / 3 * 3 + k % 3 = k from by omega] at h
  rw [h, List.getElem?_eq_getElem hq]
  rfl
/-- one item of a row is written -/
theorem own_item {W : World} {base g n c i : Nat} {t : TypeId} {l : List Itm} (h : W.ownsRow base t 3 (.slice (some ⟨g, 0, none⟩) n c) l.length (l.flatMap Itm.cells)) (hi : i < l.length) (x : Itm) :
    (((W.setCell ⟨g, i * 3, none⟩ (.int .u64 x.lo)).setCell ⟨g, i * 3 + 1, none⟩ (.int .u64 x.len)).setCell ⟨g, i * 3 + 2, none⟩ (.int .i64 x.idx)).ownsRow base t 3 (.slice (some ⟨g, 0, none⟩) n c) l.length ((l.set i x).flatMap Itm.cells) := by
  have hlen : ((l.set i x).flatMap Itm.cells).length = l.length * 3 := by rw [flat_len Itm.cells 3 (fun _ => rfl), List.length_set]
  rcases h.2 with ⟨e, _⟩ | ⟨g', cap, cur, e, hb, hh, h1, h2, h3, h4⟩
  · cases e
  · injection e with e e2 e3
    injection e with e
    injection e with e _
    subst e
    have hbk : Blk W g t cur := hh
    refine ⟨hlen, .inr ⟨g, cap, _, by rw [e2, e3], hb, ((hbk.set_ (i * 3) (.int .u64 x.lo)).set_ (i * 3 + 1) (.int .u64 x.len)).set_ (i * 3 + 2) (.int .i64 x.idx), h1, h2, by simpa using h3, ?_⟩⟩
    apply List.ext_getElem?
    intro k
    by_cases hk : k < l.length * 3
    · rw [List.getElem?_take_of_lt hk, Array.getElem?_toList, cells3 (by rw [List.length_set]; exact hk)]
      have hold : cur[k]? = ((l[k / 3]?).map fun x => (x.cells)[k % 3]?).join := by
        rw [← cells3 hk, ← h4, List.getElem?_take_of_lt hk, Array.getElem?_toList]
      have hsz : k < cur.size := by
        rw [h3]
        have := Nat.mul_le_mul_right 3 h1
        omega
      have hkd : k / 3 < l.length := by omega
      rw [Array.getElem?_setIfInBounds, Array.getElem?_setIfInBounds, Array.getElem?_setIfInBounds]
      by_cases hki : k / 3 = i
      · rw [hki, List.getElem?_set_self hi]
        have hm : k % 3 = 0 ∨ k % 3 = 1 ∨ k % 3 = 2 := by omega
        rcases hm with hm | hm | hm
        · rw [if_neg (by omega), if_neg (by omega), if_pos (by omega), if_pos (by first | omega | (simp; omega)), hm]; rfl
        · rw [if_neg (by omega), if_pos (by omega), if_pos (by first | omega | (simp; omega)), hm]; rfl
        · rw [if_pos (by omega), if_pos (by first | omega | (simp; omega)), hm]; rfl
      · rw [if_neg (by omega), if_neg (by omega), if_neg (by omega), List.getElem?_set_ne (fun e => hki e.symm)]
        exact hold
    · rw [List.getElem?_eq_none (by rw [List.length_take]; omega), List.getElem?_eq_none (by rw [hlen]; omega)]
theorem set_swp {l : List Itm} {i j : Nat} {x y : Itm} (hx : l[i]? = some x) (hy : l[j]? = some y) : (l.set j x).set i y = swp l i j := by
  rw [swp_eq hx hy]
  by_cases hij : i = j
  · subst hij
    rw [hx] at hy; injection hy with hy; subst hy
    rfl
  · rw [List.set_comm _ _ (fun e => hij e.symm)]
theorem own_lt0 {w : World} {base : Nat} {e : TypeId} {size n : Nat} {v : Value} {xs : List Value} (h : w.ownsRow base e size v n xs) {g : Nat} (hg : v.ownBlock = some g) : base ≤ g ∧ g < w.heap.size := h.lt g hg
theorem grown_row {W : World} {g : Nat} {v : Value} (hv : v.ownBlock = some g) (o : Nat) (u : Value) : W.grownBy (W.setCell ⟨g, o, none⟩ u) v.ownBlock :=
  ⟨rfl, rfl, rfl, by simp [World.setCell], fun k _ hk => Below.heap_setCell _ _ _ k (fun e => hk (by rw [hv, e]))⟩
theorem gR_trans {W V U : World} {r : Option Nat} (h : W.grownBy V r) (k : V.grownBy U r) : W.grownBy U r :=
  ⟨k.os.trans h.os, k.tape.trans h.tape, k.output.trans h.output, Nat.le_trans h.size k.size, fun b hb hne => (k.block b (Nat.lt_of_lt_of_le hb h.size) hne).trans (h.block b hb hne)⟩
theorem grown_drew (W : World) (r : Option Nat) : W.grownBy W.drew r := ⟨rfl, rfl, rfl, Nat.le_refl _, fun _ _ _ => rfl⟩
theorem gR_below {W V : World} {r : Option Nat} (h : Below W.heap.size W V) : W.grownBy V r := ⟨h.os, h.tape, h.output, h.size, fun b hb _ => h.block b hb⟩
theorem below_drew (W : World) : Below W.heap.size W W.drew := ⟨rfl, rfl, rfl, Nat.le_refl _, fun _ _ => rfl⟩
/-- two items of the row change places -/
theorem Que.swap {W : World} {q base g cap : Nat} {f : FuncId} {l : List Itm} (h : Que W q base f (.slice (some ⟨g, 0, none⟩) l.length cap) l) {i j : Nat} {x y : Itm} (hx : l[i]? = some x) (hy : l[j]? = some y) :
    Que ((((((((W.setCell ⟨g, i * 3, none⟩ (.int .u64 y.lo)).setCell ⟨g, i * 3 + 1, none⟩ (.int .u64 y.len)).setCell ⟨g, i * 3 + 2, none⟩ (.int .i64 y.idx)).setCell ⟨g, j * 3, none⟩ (.int .u64 x.lo)).setCell ⟨g, j * 3 + 1, none⟩ (.int .u64 x.len)).setCell ⟨g, j * 3 + 2, none⟩ (.int .i64 x.idx)))).drew q base f (.slice (some ⟨g, 0, none⟩) l.length cap) (swp l i j) ∧
    W.grownBy ((((((((W.setCell ⟨g, i * 3, none⟩ (.int .u64 y.lo)).setCell ⟨g, i * 3 + 1, none⟩ (.int .u64 y.len)).setCell ⟨g, i * 3 + 2, none⟩ (.int .i64 y.idx)).setCell ⟨g, j * 3, none⟩ (.int .u64 x.lo)).setCell ⟨g, j * 3 + 1, none⟩ (.int .u64 x.len)).setCell ⟨g, j * 3 + 2, none⟩ (.int .i64 x.idx)))).drew (some g) := by
  have hi := (List.getElem?_eq_some_iff.1 hx).1
  have hj := (List.getElem?_eq_some_iff.1 hy).1
  have hb : base ≤ g := (own_lt0 h.own rfl).1
  have hne : q ≠ g := by have := h.qb; omega
  have o1 := own_item h.own hi y
  rw [show l.length = (l.set i y).length by simp] at o1
  have o2 := own_item o1 (i := j) (by simpa using hj) x
  refine ⟨⟨?_, ?_, h.qb, by rw [swp_len]; exact h.len⟩, ?_⟩
  · exact (((((((h.bk.far (p := ⟨g, i * 3, none⟩) hne _).far (p := ⟨g, i * 3 + 1, none⟩) hne _).far (p := ⟨g, i * 3 + 2, none⟩) hne _).far (p := ⟨g, j * 3, none⟩) hne _).far (p := ⟨g, j * 3 + 1, none⟩) hne _).far (p := ⟨g, j * 3 + 2, none⟩) hne _).below (below_drew _) (by have := h.bk.lt; simpa [World.setCell] using this))
  · rw [swp_eq hx hy]
    have := own_below o2 (below_drew _)
    simpa using this
  · have hv : (Value.slice (some ⟨g, 0, none⟩) l.length cap).ownBlock = some g := rfl
    rw [← hv]
    exact gR_trans (gR_trans (gR_trans (gR_trans (gR_trans (gR_trans (grown_row hv _ _) (grown_row hv _ _)) (grown_row hv _ _)) (grown_row hv _ _)) (grown_row hv _ _)) (grown_row hv _ _)) (grown_drew _ _)
set_option maxRecDepth 100000 in
set_option maxHeartbeats 4000000 in
theorem qSwap_ok {W : World} {q base : Nat} {f : FuncId} {v : Value} {l : List Itm} (h : Que W q base f v l) (i j : Nat) (hi : i < l.length) (hj : j < l.length) (hij : i ≠ j) :
    Calls Try.prog 110 #[.pointer (some ⟨q, 0, none⟩), .int .i64 i, .int .i64 j] W fun e w' => e = .returned (.tuple #[]) ∧ Que w' q base f v (swp l i j) ∧ W.grownBy w' v.ownBlock := by
  obtain ⟨x, hx⟩ := get_lt hi
  obtain ⟨y, hy⟩ := get_lt hj
  have hlen := h.len
  have HQ := Lib.hid h
  obtain ⟨x0, x1, hz⟩ := h.cells
  rcases h.own.2 with ⟨rfl, h0⟩ | ⟨g, cap, cur, rfl, hb, hh, h1, h2, h3, h4⟩
  · omega
  · obtain ⟨A, c', e1, _, _, hr⟩ := own_form h.own
    obtain rfl : some ⟨g, 0, none⟩ = A := by injection e1
    obtain ⟨b, o, e, hbb, p0, p1, p2⟩ := itm_at hr hx
    obtain ⟨b', o', e', hbb', r0, r1, r2⟩ := itm_at hr hy
    obtain ⟨rfl, rfl⟩ : g = b ∧ 0 = o := by simpa using e
    obtain ⟨rfl, rfl⟩ : g = b' ∧ 0 = o' := by simpa using e'
    have hbk : Blk W g 115 cur := hh
    have hfr := hbk.frozen
    have HX := Lib.hid hx
    have HY := Lib.hid hy
    have i0 : (0 : Int) ≤ (i : Int) := by omega
    have i1 : (i : Int) < (l.length : Int) := by omega
    have j0 : (0 : Int) ≤ (j : Int) := by omega
    have j1 : (j : Int) < (l.length : Int) := by omega
    have n00 : ¬ j * 3 = i * 3 := by omega
    have n01 : ¬ j * 3 = i * 3 + 1 := by omega
    have n02 : ¬ j * 3 = i * 3 + 2 := by omega
    have n10 : ¬ j * 3 + 1 = i * 3 := by omega
    have n12 : ¬ j * 3 + 1 = i * 3 + 2 := by omega
    have n20 : ¬ j * 3 + 2 = i * 3 := by omega
    have n21 : ¬ j * 3 + 2 = i * 3 + 1 := by omega
    have m00 : ¬ i * 3 = j * 3 := by omega
    have m01 : ¬ i * 3 = j * 3 + 1 := by omega
    have m02 : ¬ i * 3 = j * 3 + 2 := by omega
    have m10 : ¬ i * 3 + 1 = j * 3 := by omega
    have m12 : ¬ i * 3 + 1 = j * 3 + 2 := by omega
    have m20 : ¬ i * 3 + 2 = j * 3 := by omega
    have m21 : ¬ i * 3 + 2 = j * 3 + 1 := by omega
    simp only [Nat.zero_add] at p0 p1 p2 r0 r1 r2
    clear h hx hy hr e e' e1 hi hj hh h4 hbb'
    go_enter Try.func110, Try.ntmps110
    go_wp2
    go_region
    go_end0
    obtain ⟨k1, k2⟩ := HQ.out.swap HX.out HY.out
    exact ⟨rfl, k1, k2⟩
set_option maxRecDepth 100000 in
set_option maxHeartbeats 4000000 in
theorem qSwap_same {W : World} {q base : Nat} {f : FuncId} {v : Value} {l : List Itm} (h : Que W q base f v l) (i : Nat) (hi : i < l.length) :
    Calls Try.prog 110 #[.pointer (some ⟨q, 0, none⟩), .int .i64 i, .int .i64 i] W fun e w' => e = .returned (.tuple #[]) ∧ Que w' q base f v (swp l i i) ∧ W.grownBy w' v.ownBlock := by
  obtain ⟨x, hx⟩ := get_lt hi
  have hlen := h.len
  have HQ := Lib.hid h
  obtain ⟨x0, x1, hz⟩ := h.cells
  rcases h.own.2 with ⟨rfl, h0⟩ | ⟨g, cap, cur, rfl, hb, hh, h1, h2, h3, h4⟩
  · omega
  · obtain ⟨A, c', e1, _, _, hr⟩ := own_form h.own
    obtain rfl : some ⟨g, 0, none⟩ = A := by injection e1
    obtain ⟨b, o, e, hbb, p0, p1, p2⟩ := itm_at hr hx
    obtain ⟨rfl, rfl⟩ : g = b ∧ 0 = o := by simpa using e
    have hbk : Blk W g 115 cur := hh
    have hfr := hbk.frozen
    have HX := Lib.hid hx
    have i0 : (0 : Int) ≤ (i : Int) := by omega
    have i1 : (i : Int) < (l.length : Int) := by omega
    simp only [Nat.zero_add] at p0 p1 p2
    clear h hx hr e e1 hi hh h4
    go_enter Try.func110, Try.ntmps110
    go_wp2
    go_region
    go_end0
    obtain ⟨k1, k2⟩ := HQ.out.swap HX.out HX.out
    exact ⟨rfl, k1, k2⟩
theorem qSwap_any {W : World} {q base : Nat} {f : FuncId} {v : Value} {l : List Itm} (h : Que W q base f v l) (i j : Nat) (hi : i < l.length) (hj : j < l.length) :
    Calls Try.prog 110 #[.pointer (some ⟨q, 0, none⟩), .int .i64 i, .int .i64 j] W fun e w' => e = .returned (.tuple #[]) ∧ Que w' q base f v (swp l i j) ∧ W.grownBy w' v.ownBlock := by
  by_cases hij : i = j
  · subst hij; exact qSwap_same h i hi
  · exact qSwap_ok h i j hi hj hij
end Go.Proofs.Ytaakcpdpkcadjaa
