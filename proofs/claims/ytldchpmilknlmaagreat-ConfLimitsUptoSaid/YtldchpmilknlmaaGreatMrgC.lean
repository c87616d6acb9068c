/-
  What conf.Merge keeps in memory while it runs: the configuration under way, its five rows, and the copied destinations, each in a block of its own. No condition.
-/
import Derived.Test.YtldchpmilknlmaaGreatCore
namespace Go.Proofs.YtldchpmilknlmaaGreat
open Go.RowKit
structure MrgC (w wr : World) (F : Int) (acc : Cfg) (v1 v2 v3 v4 v5 : Value) (L : List CE) : Prop where
  hz : w.heap.size + 1 < wr.heap.size
  bel : Below w.heap.size w wr
  res : Blk wr w.heap.size 29 #[.int .u64 0, .slice none 0 0, .slice none 0 0, .slice none 0 0, .slice none 0 0, .slice none 0 0]
  out : Blk wr (w.heap.size + 1) 29 #[.int .u64 F, v1, v2, v3, v4, v5]
  o1 : wr.ownsRow (w.heap.size + 2) 36 4 v1 acc.parts.length (acc.parts.flatMap Par.cells)
  o2 : wr.ownsRow (w.heap.size + 2) 38 3 v2 acc.wins.length (acc.wins.flatMap Win.cells)
  o3 : wr.ownsRow (w.heap.size + 2) 40 5 v3 acc.regs.length (acc.regs.flatMap Reg.cells)
  o4 : wr.ownsRow (w.heap.size + 2) 43 6 v4 acc.ports.length (acc.ports.flatMap Prt.cells)
  o5 : wr.ownsRow (w.heap.size + 2) 46 3 v5 acc.chans.length (L.flatMap CE.cells)
  ch : ChnsO wr (w.heap.size + 2) L
  lx : L.map (·.x) = acc.chans
section
variable {w W W' : World} {F : Int} {acc : Cfg} {v1 v2 v3 v4 v5 : Value} {L : List CE}
theorem MrgC.later (h : MrgC w W F acc v1 v2 v3 v4 v5 L) (hb : Below W.heap.size W W') : MrgC w W' F acc v1 v2 v3 v4 v5 L := by
  have hz := h.hz
  have hs := hb.size
  exact ⟨by omega, h.bel.trans (hb.mono h.bel.size), h.res.below hb h.res.lt, h.out.below hb h.out.lt, own_below h.o1 hb, own_below h.o2 hb, own_below h.o3 hb, own_below h.o4 hb, own_below h.o5 hb, h.ch.below hb, h.lx⟩
theorem below_rowC {base : Nat} {e : TypeId} {size n : Nat} {v : Value} {xs : List Value} {B : Nat} {a : World} (h : Below B a W) (ho : W.ownsRow base e size v n xs) (hg : W.grownBy W' v.ownBlock) (h1 : B ≤ base) (h2 : B ≤ W.heap.size) : Below B a W' :=
  h.grown hg h2 fun k hk => by have := (ho.lt k hk).1; omega
theorem MrgC.app1 (h : MrgC w W F acc v1 v2 v3 v4 v5 L) {v' : Value} {ps : List Par} (hown : W'.ownsRow (w.heap.size + 2) 36 4 v' (acc.parts.length + ps.length) (acc.parts.flatMap Par.cells ++ ps.flatMap Par.cells)) (hg : W.grownBy W' v1.ownBlock) :
    MrgC w (W'.setCell ⟨w.heap.size + 1, 1, none⟩ v') F { acc with parts := acc.parts ++ ps } v' v2 v3 v4 v5 L := by
  have hz := h.hz
  have hs := hg.size
  have ho := Off.of_own h.o1 hg
  have hout := h.out.off ho (by decide)
  have hb := below_rowC h.bel h.o1 hg (by omega) h.bel.size
  exact ⟨by simp [World.setCell]; omega, hb.setCell (by show w.heap.size ≤ w.heap.size + 1; omega) _, (h.res.off ho (by decide)).far (by show w.heap.size ≠ w.heap.size + 1; omega) _, by have := hout.set_ 1 v'; simpa using this,
    (by simpa [List.flatMap_append] using own_set hown (p := ⟨w.heap.size + 1, 1, none⟩) (by show w.heap.size + 1 < _; omega) v'),
    own_set (own_off h.o2 ho (by decide)) (p := ⟨w.heap.size + 1, 1, none⟩) (by show w.heap.size + 1 < _; omega) _,
    own_set (own_off h.o3 ho (by decide)) (p := ⟨w.heap.size + 1, 1, none⟩) (by show w.heap.size + 1 < _; omega) _,
    own_set (own_off h.o4 ho (by decide)) (p := ⟨w.heap.size + 1, 1, none⟩) (by show w.heap.size + 1 < _; omega) _,
    own_set (own_off h.o5 ho (by decide)) (p := ⟨w.heap.size + 1, 1, none⟩) (by show w.heap.size + 1 < _; omega) _,
    (h.ch.off ho (by decide)).far (p := ⟨w.heap.size + 1, 1, none⟩) hout (by decide) _, h.lx⟩
theorem MrgC.app2 (h : MrgC w W F acc v1 v2 v3 v4 v5 L) {v' : Value} {ps : List Win} (hown : W'.ownsRow (w.heap.size + 2) 38 3 v' (acc.wins.length + ps.length) (acc.wins.flatMap Win.cells ++ ps.flatMap Win.cells)) (hg : W.grownBy W' v2.ownBlock) :
    MrgC w (W'.setCell ⟨w.heap.size + 1, 2, none⟩ v') F { acc with wins := acc.wins ++ ps } v1 v' v3 v4 v5 L := by
  have hz := h.hz
  have hs := hg.size
  have ho := Off.of_own h.o2 hg
  have hout := h.out.off ho (by decide)
  have hb := below_rowC h.bel h.o2 hg (by omega) h.bel.size
  exact ⟨by simp [World.setCell]; omega, hb.setCell (by show w.heap.size ≤ w.heap.size + 1; omega) _, (h.res.off ho (by decide)).far (by show w.heap.size ≠ w.heap.size + 1; omega) _, by have := hout.set_ 2 v'; simpa using this,
    own_set (own_off h.o1 ho (by decide)) (p := ⟨w.heap.size + 1, 2, none⟩) (by show w.heap.size + 1 < _; omega) _,
    (by simpa [List.flatMap_append] using own_set hown (p := ⟨w.heap.size + 1, 2, none⟩) (by show w.heap.size + 1 < _; omega) v'),
    own_set (own_off h.o3 ho (by decide)) (p := ⟨w.heap.size + 1, 2, none⟩) (by show w.heap.size + 1 < _; omega) _,
    own_set (own_off h.o4 ho (by decide)) (p := ⟨w.heap.size + 1, 2, none⟩) (by show w.heap.size + 1 < _; omega) _,
    own_set (own_off h.o5 ho (by decide)) (p := ⟨w.heap.size + 1, 2, none⟩) (by show w.heap.size + 1 < _; omega) _,
    (h.ch.off ho (by decide)).far (p := ⟨w.heap.size + 1, 2, none⟩) hout (by decide) _, h.lx⟩
theorem MrgC.app3 (h : MrgC w W F acc v1 v2 v3 v4 v5 L) {v' : Value} {ps : List Reg} (hown : W'.ownsRow (w.heap.size + 2) 40 5 v' (acc.regs.length + ps.length) (acc.regs.flatMap Reg.cells ++ ps.flatMap Reg.cells)) (hg : W.grownBy W' v3.ownBlock) :
    MrgC w (W'.setCell ⟨w.heap.size + 1, 3, none⟩ v') F { acc with regs := acc.regs ++ ps } v1 v2 v' v4 v5 L := by
  have hz := h.hz
  have hs := hg.size
  have ho := Off.of_own h.o3 hg
  have hout := h.out.off ho (by decide)
  have hb := below_rowC h.bel h.o3 hg (by omega) h.bel.size
  exact ⟨by simp [World.setCell]; omega, hb.setCell (by show w.heap.size ≤ w.heap.size + 1; omega) _, (h.res.off ho (by decide)).far (by show w.heap.size ≠ w.heap.size + 1; omega) _, by have := hout.set_ 3 v'; simpa using this,
    own_set (own_off h.o1 ho (by decide)) (p := ⟨w.heap.size + 1, 3, none⟩) (by show w.heap.size + 1 < _; omega) _,
    own_set (own_off h.o2 ho (by decide)) (p := ⟨w.heap.size + 1, 3, none⟩) (by show w.heap.size + 1 < _; omega) _,
    (by simpa [List.flatMap_append] using own_set hown (p := ⟨w.heap.size + 1, 3, none⟩) (by show w.heap.size + 1 < _; omega) v'),
    own_set (own_off h.o4 ho (by decide)) (p := ⟨w.heap.size + 1, 3, none⟩) (by show w.heap.size + 1 < _; omega) _,
    own_set (own_off h.o5 ho (by decide)) (p := ⟨w.heap.size + 1, 3, none⟩) (by show w.heap.size + 1 < _; omega) _,
    (h.ch.off ho (by decide)).far (p := ⟨w.heap.size + 1, 3, none⟩) hout (by decide) _, h.lx⟩
theorem MrgC.app4 (h : MrgC w W F acc v1 v2 v3 v4 v5 L) {v' : Value} {ps : List Prt} (hown : W'.ownsRow (w.heap.size + 2) 43 6 v' (acc.ports.length + ps.length) (acc.ports.flatMap Prt.cells ++ ps.flatMap Prt.cells)) (hg : W.grownBy W' v4.ownBlock) :
    MrgC w (W'.setCell ⟨w.heap.size + 1, 4, none⟩ v') F { acc with ports := acc.ports ++ ps } v1 v2 v3 v' v5 L := by
  have hz := h.hz
  have hs := hg.size
  have ho := Off.of_own h.o4 hg
  have hout := h.out.off ho (by decide)
  have hb := below_rowC h.bel h.o4 hg (by omega) h.bel.size
  exact ⟨by simp [World.setCell]; omega, hb.setCell (by show w.heap.size ≤ w.heap.size + 1; omega) _, (h.res.off ho (by decide)).far (by show w.heap.size ≠ w.heap.size + 1; omega) _, by have := hout.set_ 4 v'; simpa using this,
    own_set (own_off h.o1 ho (by decide)) (p := ⟨w.heap.size + 1, 4, none⟩) (by show w.heap.size + 1 < _; omega) _,
    own_set (own_off h.o2 ho (by decide)) (p := ⟨w.heap.size + 1, 4, none⟩) (by show w.heap.size + 1 < _; omega) _,
    own_set (own_off h.o3 ho (by decide)) (p := ⟨w.heap.size + 1, 4, none⟩) (by show w.heap.size + 1 < _; omega) _,
    (by simpa [List.flatMap_append] using own_set hown (p := ⟨w.heap.size + 1, 4, none⟩) (by show w.heap.size + 1 < _; omega) v'),
    own_set (own_off h.o5 ho (by decide)) (p := ⟨w.heap.size + 1, 4, none⟩) (by show w.heap.size + 1 < _; omega) _,
    (h.ch.off ho (by decide)).far (p := ⟨w.heap.size + 1, 4, none⟩) hout (by decide) _, h.lx⟩
theorem MrgC.app5 (h : MrgC w W F acc v1 v2 v3 v4 v5 L) {v' : Value} {e : CE} (hx : W.ownsRow (w.heap.size + 2) 34 1 e.v e.x.dests.length (e.x.dests.map (Value.int .u16))) (hf : ∀ a ∈ L, ∀ g, a.v.ownBlock = some g → e.v.ownBlock ≠ some g) (hown : W'.ownsRow (w.heap.size + 2) 46 3 v' (acc.chans.length + 1) (L.flatMap CE.cells ++ e.cells)) (hg : W.grownBy W' v5.ownBlock) :
    MrgC w (W'.setCell ⟨w.heap.size + 1, 5, none⟩ v') F { acc with chans := acc.chans ++ [e.x] } v1 v2 v3 v4 v' (L ++ [e]) := by
  have hz := h.hz
  have hs := hg.size
  have ho := Off.of_own h.o5 hg
  have hout := h.out.off ho (by decide)
  have hb := below_rowC h.bel h.o5 hg (by omega) h.bel.size
  exact ⟨by simp [World.setCell]; omega, hb.setCell (by show w.heap.size ≤ w.heap.size + 1; omega) _, (h.res.off ho (by decide)).far (by show w.heap.size ≠ w.heap.size + 1; omega) _, by have := hout.set_ 5 v'; simpa using this,
    own_set (own_off h.o1 ho (by decide)) (p := ⟨w.heap.size + 1, 5, none⟩) (by show w.heap.size + 1 < _; omega) _,
    own_set (own_off h.o2 ho (by decide)) (p := ⟨w.heap.size + 1, 5, none⟩) (by show w.heap.size + 1 < _; omega) _,
    own_set (own_off h.o3 ho (by decide)) (p := ⟨w.heap.size + 1, 5, none⟩) (by show w.heap.size + 1 < _; omega) _,
    own_set (own_off h.o4 ho (by decide)) (p := ⟨w.heap.size + 1, 5, none⟩) (by show w.heap.size + 1 < _; omega) _,
    (by simpa using own_set hown (p := ⟨w.heap.size + 1, 5, none⟩) (by show w.heap.size + 1 < _; omega) v'),
    ((h.ch.snoc hx hf).off ho (by decide)).far (p := ⟨w.heap.size + 1, 5, none⟩) hout (by decide) _, by simp [h.lx]⟩
end
end Go.Proofs.YtldchpmilknlmaaGreat
