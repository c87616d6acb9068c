/-
  An array of numbers in one block while it is sorted: its contents as a plain array, all else as it was. The first part speaks of no program; then what cmp.Less answers. No condition.
-/
import Derived.Test.YtgkodbejnbfakaaAppend
import Derived.Sort.WalkA
import Derived.Sort.AssemblyPlain
import Derived.BigRegion
namespace Go.Proofs.Ytgkodbejnbfakaa
open Go.RowKit Go.Sort
/-- in W0 and in W the block blk holds cells; in W the n elements from off on are the numbers d; nothing else differs, but that W may hold more blocks -/
structure Arr (W0 W : World) (e : TypeId) (blk off n : Nat) (d : Array Int) : Prop where
  os : W.os = W0.os
  tape : W.tape = W0.tape
  output : W.output = W0.output
  size : W0.heap.size ≤ W.heap.size
  other : ∀ k, k < W0.heap.size → k ≠ blk → W.heap[k]? = W0.heap[k]?
  row : ∃ cur0 cur, W0.heap[blk]? = some (.cells cur0 e (0, 0)) ∧ W.heap[blk]? = some (.cells cur e (0, 0)) ∧ cur.size = cur0.size ∧ off + n ≤ cur.size ∧ (∀ j, j < off ∨ off + n ≤ j → cur[j]? = cur0[j]?) ∧ ∀ t, t < n → cur[off + t]? = some (.int .u16 d[t]!)
  dsize : d.size = n
section
variable {W0 W W' : World} {e : TypeId} {blk off n : Nat} {d : Array Int}
theorem Arr.cell (h : Arr W0 W e blk off n d) {t : Nat} (ht : t < n) : W.cell? ⟨blk, off + t, none⟩ = some (.int .u16 d[t]!) := by
  obtain ⟨cur0, cur, _, h2, _, _, _, h6⟩ := h.row
  rw [cell_of_row W blk (off + t) cur e (0, 0) h2]
  exact h6 t ht
theorem Arr.frozen (h : Arr W0 W e blk off n d) (t : Nat) : W.frozen? ⟨blk, t, none⟩ = false := by
  obtain ⟨cur0, cur, _, h2, _⟩ := h.row
  simp [World.frozen?, h2]
theorem Arr.lt (h : Arr W0 W e blk off n d) : blk < W0.heap.size := by
  obtain ⟨cur0, cur, h1, _⟩ := h.row
  exact (Array.getElem?_eq_some_iff.1 h1).1
theorem Arr.same (h : Arr W0 W e blk off n d) (h1 : W'.os = W.os) (h2 : W'.tape = W.tape) (h3 : W'.output = W.output) (h4 : W'.heap = W.heap) : Arr W0 W' e blk off n d := by
  obtain ⟨a, b, c, s, o, r, z⟩ := h
  exact ⟨h1.trans a, h2.trans b, h3.trans c, by rw [h4]; exact s, by rw [h4]; exact o, by rw [h4]; exact r, z⟩
theorem Arr.drewN (h : Arr W0 W e blk off n d) (q : Nat) : Arr W0 (W.drewN q) e blk off n d := h.same rfl rfl rfl rfl
theorem Arr.below (h : Arr W0 W e blk off n d) (hb : Below W.heap.size W W') : Arr W0 W' e blk off n d := by
  obtain ⟨a, b, c, s, o, ⟨cur0, cur, r1, r2, r⟩, z⟩ := h
  have hl : blk < W.heap.size := (Array.getElem?_eq_some_iff.1 r2).1
  exact ⟨hb.os.trans a, hb.tape.trans b, hb.output.trans c, Nat.le_trans s hb.size, fun k hk hne => (hb.block k (by omega)).trans (o k hk hne), ⟨cur0, cur, r1, (hb.block blk hl).trans r2, r⟩, z⟩
theorem Arr.alloc (h : Arr W0 W e blk off n d) (o : Obj) : Arr W0 (W.alloc o) e blk off n d := h.below ((Below.refl _ _).alloc (Nat.le_refl _) o)
/-- one element is written -/
theorem Arr.set (h : Arr W0 W e blk off n d) {i : Nat} (hi : i < n) (x : Int) : Arr W0 (W.setCell ⟨blk, off + i, none⟩ (.int .u16 x)) e blk off n (d.setIfInBounds i x) := by
  obtain ⟨a, b, c, s, o, ⟨cur0, cur, r1, r2, r3, r4, r5, r6⟩, z⟩ := h
  refine ⟨a, b, c, by simpa [World.setCell] using s, fun k hk hne => (Below.heap_setCell _ _ _ k hne).trans (o k hk hne), ⟨cur0, cur.setIfInBounds (off + i) (.int .u16 x), r1, ?_, by simpa using r3, by simpa using r4, fun j hj => ?_, fun t ht => ?_⟩, by simpa using z⟩
  · simp [World.setCell, Array.getElem?_modify, r2]
  · rw [Array.getElem?_setIfInBounds, if_neg (by omega)]
    exact r5 j hj
  · by_cases hti : t = i
    · subst hti
      rw [Array.getElem?_setIfInBounds, if_pos rfl, if_pos (by omega), getElem!_set_same d t x (by omega)]
    · rw [Array.getElem?_setIfInBounds, if_neg (by omega), getElem!_set_other d i t x hti]
      exact r6 t ht
theorem Arr.swap (h : Arr W0 W e blk off n d) (q : Nat) {i j : Nat} (hi : i < n) (hj : j < n) :
    Arr W0 (((W.drewN q).setCell ⟨blk, off + i, none⟩ (.int .u16 d[j]!)).setCell ⟨blk, off + j, none⟩ (.int .u16 d[i]!)) e blk off n (swp d i j) :=
  ((h.drewN q).set hi _).set hj _
theorem Arr.self {cs : Array Value} {xs : List Int} (h : Blk W blk e cs) (hx : off + xs.length ≤ cs.size) (hc : ∀ t x, xs[t]? = some x → cs[off + t]? = some (.int .u16 x)) : Arr W W e blk off xs.length xs.toArray := by
  refine ⟨rfl, rfl, rfl, Nat.le_refl _, fun _ _ _ => rfl, ⟨cs, cs, h, h, rfl, hx, fun _ _ => rfl, fun t ht => ?_⟩, by simp⟩
  rw [hc t xs[t] (List.getElem?_eq_getElem ht)]
  simp [ht]
/-- what the array reads as, to the walk: two families -/
theorem Arr.fam (h : Arr W0 W e blk off n d) : ∃ G : Nat → Int, (∀ t, G t = d[t]!) ∧ (∀ t, t < n → W.cell? ⟨blk, off + t, none⟩ = some (.int .u16 (G t))) ∧ ∀ t, t < n → W.frozen? ⟨blk, off + t, none⟩ = false :=
  ⟨fun t => d[t]!, fun _ => rfl, fun _ ht => h.cell ht, fun t _ => h.frozen (off + t)⟩
theorem Arr.famG (h : Arr W0 W e blk off n d) {G : Nat → Int} (hG : ∀ t, G t = d[t]!) : (∀ t, t < n → W.cell? ⟨blk, off + t, none⟩ = some (.int .u16 (G t))) ∧ ∀ t, t < n → W.frozen? ⟨blk, off + t, none⟩ = false :=
  ⟨fun t ht => by rw [hG]; exact h.cell ht, fun t _ => h.frozen (off + t)⟩
end
theorem less_ok (a b : Int) (w : World) : Calls Try.prog 63 #[.int .u16 a, .int .u16 b] w fun e w' => e = .returned (.bool (ltInt a b)) ∧ w' = w := by
  have hn : ∀ (x : Int) (w : World), Calls Try.prog 73 #[.int .u16 x] w fun e w' => e = .returned (.bool false) ∧ w' = w := fun x w => by
    go_enter Try.func73, Try.ntmps73
    go_wp2
    go_ret
    simp
  go_enter Try.func63, Try.ntmps63
  go_wp2_with (go_at_call 73; refine (hn _ _).mono ?_; rintro e w1 ⟨rfl, rfl⟩)
  go_ret
  simp [ltInt]
end Go.Proofs.Ytgkodbejnbfakaa
