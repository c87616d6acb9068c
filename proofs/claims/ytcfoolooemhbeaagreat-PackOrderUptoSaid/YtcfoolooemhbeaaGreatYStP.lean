/-
  A clone of a configuration in memory of its own, and its box: how it stands behind each write. No condition.
-/
import Derived.BigQuiet
import Derived.Deep.RegionHeld3
import Derived.Laws.OwnMore
import Derived.Test.YtcfoolooemhbeaaGreatSortG
import Derived.Test.YtcfoolooemhbeaaGreatCore
import Derived.Test.YtcfoolooemhbeaaGreatMrgZ
namespace Go.Proofs.YtcfoolooemhbeaaGreat
open Go.RowKit Go.Lib
attribute [local go_sem] ext_cell
/-- a clone in memory of its own, and its box -/
structure YSt (B g : Nat) (W3 W : World) (F : Int) (v1 v2 v3 v4 v5 : Value) (P : List Par) (N : List Win) (R : List Reg) (T : List Prt) (L : List CE) : Prop where
  bel : Below B W3 W
  hg : B ≤ g
  hB : B ≤ W.heap.size
  box : Blk W g 29 #[.int .u64 F, v1, v2, v3, v4, v5]
  o1 : W.ownsRow B 75 4 v1 P.length (P.flatMap Par.cells)
  o2 : W.ownsRow B 78 3 v2 N.length (N.flatMap Win.cells)
  o3 : W.ownsRow B 81 5 v3 R.length (R.flatMap Reg.cells)
  o4 : W.ownsRow B 85 6 v4 T.length (T.flatMap Prt.cells)
  o5 : W.ownsRow B 89 3 v5 L.length (L.flatMap CE.cells)
  ch : ChnsO W B L
theorem flat_set {α : Type} (f : α → List Value) (sz : Nat) (hf : ∀ x, (f x).length = sz) (hsz : 0 < sz) (u : Value) (x' : α) : ∀ (l : List α) (k : Nat) (x : α), l[k]? = some x → f x' = (f x).set 0 u → (l.flatMap f).set (k * sz) u = (l.set k x').flatMap f
  | [], k, x, h, _ => by simp at h
  | y :: r, 0, x, h, hx => by
    simp at h; subst h
    rw [Nat.zero_mul, List.flatMap_cons, List.set_append_left _ _ (by rw [hf]; exact hsz)]
    simp [hx]
  | y :: r, k + 1, x, h, hx => by
    have := flat_set f sz hf hsz u x' r k x (by simpa using h) hx
    rw [List.flatMap_cons, List.set_append_right _ _ (by rw [hf, Nat.succ_mul]; omega), hf, Nat.succ_mul, show k * sz + sz - sz = k * sz by omega, this]
    simp
theorem own_rec0 {α : Type} (f : α → List Value) (sz : Nat) (hf : ∀ x, (f x).length = sz) (hsz : 0 < sz) {w : World} {base : Nat} {e : TypeId} {l : List α} {k : Nat} {x x' : α} {u : Value} {g n cap : Nat} (h : w.ownsRow base e sz (.slice (some ⟨g, 0, none⟩) n cap) l.length (l.flatMap f)) (hn : n = l.length) (hk : l[k]? = some x) (hx : f x' = (f x).set 0 u) :
    (w.setCell ⟨g, k * sz, none⟩ u).ownsRow base e sz (.slice (some ⟨g, 0, none⟩) n cap) (l.set k x').length ((l.set k x').flatMap f) ∧ w.grownBy (w.setCell ⟨g, k * sz, none⟩ u) (Value.slice (some ⟨g, 0, none⟩) n cap).ownBlock := by
  subst hn
  obtain ⟨h1, h2⟩ := World.ownsRow.stored h (k * sz) u
  rw [flat_set f sz hf hsz u x' l k x hk hx] at h1
  rw [List.length_set]
  exact ⟨h1, h2⟩
theorem own_at0 {α : Type} (f : α → List Value) (sz : Nat) (hf : ∀ x, (f x).length = sz) {w : World} {base : Nat} {e : TypeId} {l : List α} {k : Nat} {x : α} {g n cap : Nat} (h : w.ownsRow base e sz (.slice (some ⟨g, 0, none⟩) n cap) l.length (l.flatMap f)) (hn : n = l.length) (hk : l[k]? = some x) (j : Nat) (u : Value) (hu : (f x)[j]? = some u) (hj : j < sz) : w.cell? ⟨g, k * sz + j, none⟩ = some u := by
  subst hn
  obtain ⟨b, o, e1, _, hc⟩ := (own_slice h).2.2 (by have := (List.getElem?_eq_some_iff.1 hk).1; omega)
  injection e1 with e1
  injection e1 with e1 e2
  subst e1 e2
  have := hc (k * sz + j) u (by rw [flat_at f sz hf l k x j hk hj]; exact hu)
  rwa [Nat.zero_add] at this
section
variable {B g : Nat} {W3 W V : World} {F : Int} {v1 v2 v3 v4 v5 : Value} {P P' : List Par} {N N' : List Win} {R R' : List Reg} {T T' : List Prt} {L L' : List CE}
theorem YSt.up (h : YSt B g W3 W F v1 v2 v3 v4 v5 P N R T L) (hb : Below W.heap.size W V) : YSt B g W3 V F v1 v2 v3 v4 v5 P N R T L :=
  ⟨h.bel.trans (hb.mono h.hB), h.hg, Nat.le_trans h.hB hb.size, h.box.below hb h.box.lt, own_below h.o1 hb, own_below h.o2 hb, own_below h.o3 hb, own_below h.o4 hb, own_below h.o5 hb, h.ch.below hb⟩
theorem YSt.mv1 (h : YSt B g W3 W F v1 v2 v3 v4 v5 P N R T L) (hb : Below B W V) (hof : Off 75 W V) (ho : V.ownsRow B 75 4 v1 P'.length (P'.flatMap Par.cells)) : YSt B g W3 V F v1 v2 v3 v4 v5 P' N R T L :=
  ⟨h.bel.trans hb, h.hg, Nat.le_trans h.hB hb.size, h.box.off hof (by decide), ho, own_off h.o2 hof (by decide), own_off h.o3 hof (by decide), own_off h.o4 hof (by decide), own_off h.o5 hof (by decide), h.ch.off hof (by decide)⟩
theorem YSt.inc1 {b n cap k : Nat} {x : Par} (h : YSt B g W3 W F (.slice (some ⟨b, 0, none⟩) n cap) v2 v3 v4 v5 P N R T L) (hn : n = P.length) (hk : P[k]? = some x) (z : Int) : YSt B g W3 (W.setCell ⟨b, k * 4, none⟩ (.int .u16 z)) F (.slice (some ⟨b, 0, none⟩) n cap) v2 v3 v4 v5 (P.set k { x with id := z }) N R T L := by
  obtain ⟨h1, h2⟩ := own_rec0 Par.cells 4 (fun _ => rfl) (by decide) (x' := { x with id := z }) (u := .int .u16 z) h.o1 hn hk rfl
  exact h.mv1 (below_own (Below.refl B W) h2 h.o1 h.hB) (Off.of_own h.o1 h2) h1
theorem YSt.mv2 (h : YSt B g W3 W F v1 v2 v3 v4 v5 P N R T L) (hb : Below B W V) (hof : Off 78 W V) (ho : V.ownsRow B 78 3 v2 N'.length (N'.flatMap Win.cells)) : YSt B g W3 V F v1 v2 v3 v4 v5 P N' R T L :=
  ⟨h.bel.trans hb, h.hg, Nat.le_trans h.hB hb.size, h.box.off hof (by decide), own_off h.o1 hof (by decide), ho, own_off h.o3 hof (by decide), own_off h.o4 hof (by decide), own_off h.o5 hof (by decide), h.ch.off hof (by decide)⟩
theorem YSt.inc2 {b n cap k : Nat} {x : Win} (h : YSt B g W3 W F v1 (.slice (some ⟨b, 0, none⟩) n cap) v3 v4 v5 P N R T L) (hn : n = N.length) (hk : N[k]? = some x) (z : Int) : YSt B g W3 (W.setCell ⟨b, k * 3, none⟩ (.int .u64 z)) F v1 (.slice (some ⟨b, 0, none⟩) n cap) v3 v4 v5 P (N.set k { x with start := z }) R T L := by
  obtain ⟨h1, h2⟩ := own_rec0 Win.cells 3 (fun _ => rfl) (by decide) (x' := { x with start := z }) (u := .int .u64 z) h.o2 hn hk rfl
  exact h.mv2 (below_own (Below.refl B W) h2 h.o2 h.hB) (Off.of_own h.o2 h2) h1
theorem YSt.mv3 (h : YSt B g W3 W F v1 v2 v3 v4 v5 P N R T L) (hb : Below B W V) (hof : Off 81 W V) (ho : V.ownsRow B 81 5 v3 R'.length (R'.flatMap Reg.cells)) : YSt B g W3 V F v1 v2 v3 v4 v5 P N R' T L :=
  ⟨h.bel.trans hb, h.hg, Nat.le_trans h.hB hb.size, h.box.off hof (by decide), own_off h.o1 hof (by decide), own_off h.o2 hof (by decide), ho, own_off h.o4 hof (by decide), own_off h.o5 hof (by decide), h.ch.off hof (by decide)⟩
theorem YSt.inc3 {b n cap k : Nat} {x : Reg} (h : YSt B g W3 W F v1 v2 (.slice (some ⟨b, 0, none⟩) n cap) v4 v5 P N R T L) (hn : n = R.length) (hk : R[k]? = some x) (z : Int) : YSt B g W3 (W.setCell ⟨b, k * 5, none⟩ (.int .u64 z)) F v1 v2 (.slice (some ⟨b, 0, none⟩) n cap) v4 v5 P N (R.set k { x with base := z }) T L := by
  obtain ⟨h1, h2⟩ := own_rec0 Reg.cells 5 (fun _ => rfl) (by decide) (x' := { x with base := z }) (u := .int .u64 z) h.o3 hn hk rfl
  exact h.mv3 (below_own (Below.refl B W) h2 h.o3 h.hB) (Off.of_own h.o3 h2) h1
theorem YSt.mv4 (h : YSt B g W3 W F v1 v2 v3 v4 v5 P N R T L) (hb : Below B W V) (hof : Off 85 W V) (ho : V.ownsRow B 85 6 v4 T'.length (T'.flatMap Prt.cells)) : YSt B g W3 V F v1 v2 v3 v4 v5 P N R T' L :=
  ⟨h.bel.trans hb, h.hg, Nat.le_trans h.hB hb.size, h.box.off hof (by decide), own_off h.o1 hof (by decide), own_off h.o2 hof (by decide), own_off h.o3 hof (by decide), ho, own_off h.o5 hof (by decide), h.ch.off hof (by decide)⟩
theorem YSt.inc4 {b n cap k : Nat} {x : Prt} (h : YSt B g W3 W F v1 v2 v3 (.slice (some ⟨b, 0, none⟩) n cap) v5 P N R T L) (hn : n = T.length) (hk : T[k]? = some x) (z : Int) : YSt B g W3 (W.setCell ⟨b, k * 6, none⟩ (.int .u16 z)) F v1 v2 v3 (.slice (some ⟨b, 0, none⟩) n cap) v5 P N R (T.set k { x with id := z }) L := by
  obtain ⟨h1, h2⟩ := own_rec0 Prt.cells 6 (fun _ => rfl) (by decide) (x' := { x with id := z }) (u := .int .u16 z) h.o4 hn hk rfl
  exact h.mv4 (below_own (Below.refl B W) h2 h.o4 h.hB) (Off.of_own h.o4 h2) h1
theorem YSt.mvD (h : YSt B g W3 W F v1 v2 v3 v4 v5 P N R T L) (hb : Below B W V) (hof : Off 49 W V) (hl : L'.length = L.length) (hc : L'.flatMap CE.cells = L.flatMap CE.cells) (hch : ChnsO V B L') : YSt B g W3 V F v1 v2 v3 v4 v5 P N R T L' :=
  ⟨h.bel.trans hb, h.hg, Nat.le_trans h.hB hb.size, h.box.off hof (by decide), own_off h.o1 hof (by decide), own_off h.o2 hof (by decide), own_off h.o3 hof (by decide), own_off h.o4 hof (by decide), by rw [hl, hc]; exact own_off h.o5 hof (by decide), hch⟩
theorem set_cells {L : List CE} {k : Nat} {e e' : CE} (hk : L[k]? = some e) (he : e'.cells = e.cells) : (L.set k e').flatMap CE.cells = L.flatMap CE.cells := by
  obtain ⟨hlt, rfl⟩ := List.getElem?_eq_some_iff.1 hk
  have h1 : L = L.take k ++ L[k] :: L.drop (k + 1) := by rw [← List.drop_eq_getElem_cons hlt, List.take_append_drop]
  have h2 : L.set k e' = L.take k ++ e' :: L.drop (k + 1) := by rw [List.set_eq_take_append_cons_drop, if_pos hlt]
  rw [h2]
  conv => rhs; rw [h1]
  simp only [List.flatMap_append, List.flatMap_cons, he]
/-- one destination of channel k is written -/
theorem YSt.incD {k j : Nat} {e : CE} (h : YSt B g W3 W F v1 v2 v3 v4 v5 P N R T L) (hk : L[k]? = some e) {b : Nat} (hA : e.A = some ⟨b, 0, none⟩) (z : Int) : YSt B g W3 (W.setCell ⟨b, j, none⟩ (.int .u16 z)) F v1 v2 v3 v4 v5 P N R T (L.set k ⟨{ e.x with dests := e.x.dests.set j z }, e.A, e.c⟩) := by
  obtain ⟨x, A, c⟩ := e
  simp only at hA
  subst hA
  have ho := h.ch.own _ (List.mem_of_getElem? hk)
  obtain ⟨h1, h2'⟩ := World.ownsRow.stored ho j (.int .u16 z)
  have h2 : W.grownBy (W.setCell ⟨b, j, none⟩ (.int .u16 z)) (CE.v ⟨x, some ⟨b, 0, none⟩, c⟩).ownBlock := h2'
  rw [← List.map_set] at h1
  have hv : CE.v ⟨{ x with dests := x.dests.set j z }, some ⟨b, 0, none⟩, c⟩ = CE.v ⟨x, some ⟨b, 0, none⟩, c⟩ := by simp [CE.v]
  refine h.mvD (below_own (Below.refl B W) h2 ho h.hB) (Off.of_own ho h2) (by simp) (set_cells hk (by simp [CE.cells, CE.v])) (h.ch.turn hk hv ?_ h2)
  simpa [CE.v] using h1
end
theorem YSt.start {B : Nat} {W3 w : World} {c : Cfg} {A1 A2 A3 A4 A5 : Option Addr} {c1 c2 c3 c4 c5 : Nat} (hb : Below B W3 w) (hB : B ≤ w.heap.size) (h : OwnC w B c A1 A2 A3 A4 A5 c1 c2 c3 c4 c5) : ∃ (V : World) (L : List CE), w.alloc (.cells #[.int .u64 c.frame, .slice A1 c.parts.length c1, .slice A2 c.wins.length c2, .slice A3 c.regs.length c3, .slice A4 c.ports.length c4, .slice A5 c.chans.length c5] 29) = V ∧ L.length = c.chans.length ∧ L.map (·.x) = c.chans ∧ YSt B w.heap.size W3 V c.frame (.slice A1 c.parts.length c1) (.slice A2 c.wins.length c2) (.slice A3 c.regs.length c3) (.slice A4 c.ports.length c4) (.slice A5 c.chans.length c5) c.parts c.wins c.regs c.ports L := by
  obtain ⟨L, o5, ch, lx⟩ := h.o5
  have hl : L.length = c.chans.length := by have := congrArg List.length lx; simpa using this
  have hba := below_one w (.cells #[.int .u64 c.frame, .slice A1 c.parts.length c1, .slice A2 c.wins.length c2, .slice A3 c.regs.length c3, .slice A4 c.ports.length c4, .slice A5 c.chans.length c5] 29)
  exact ⟨_, L, rfl, hl, lx, hb.trans (hba.mono hB), hB, by simp; omega, Blk.new _ _ _, own_below h.o1 hba, own_below h.o2 hba, own_below h.o3 hba, own_below h.o4 hba, by rw [hl]; exact own_below o5 hba, ch.below hba⟩
end Go.Proofs.YtcfoolooemhbeaaGreat
