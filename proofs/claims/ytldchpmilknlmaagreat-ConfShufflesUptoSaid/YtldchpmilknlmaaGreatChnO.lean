/-
  A row of channels of the call's own, each with destinations in a block of its own. It speaks of no program's text.
-/
import Derived.Test.YtldchpmilknlmaaGreatMrgSt
import Derived.Test.YtldchpmilknlmaaGreatOwnG
namespace Go.Proofs.YtldchpmilknlmaaGreat
open Go.RowKit
/-- a channel and the slice that holds its destinations -/
structure CE where
  x : Chn
  A : Option Addr
  c : Nat
@[reducible] def CE.v (e : CE) : Value := .slice e.A e.x.dests.length e.c
def CE.cells (e : CE) : List Value := [.int .u16 e.x.id, .int .u16 e.x.source, e.v]
structure ChnsO (W : World) (B : Nat) (L : List CE) : Prop where
  own : ∀ e ∈ L, W.ownsRow B 34 1 e.v e.x.dests.length (e.x.dests.map (Value.int .u16))
  sep : L.Pairwise fun a b => ∀ g, a.v.ownBlock = some g → b.v.ownBlock ≠ some g
section
variable {W V : World} {B B' : Nat} {L : List CE}
theorem ChnsO.nil : ChnsO W B [] := ⟨by simp, List.Pairwise.nil⟩
theorem ChnsO.move (h : ChnsO W B L) (hk : ∀ v n xs, W.ownsRow B 34 1 v n xs → V.ownsRow B' 34 1 v n xs) : ChnsO V B' L := ⟨fun e he => hk _ _ _ (h.own e he), h.sep⟩
theorem ChnsO.below (h : ChnsO W B L) (hb : Below W.heap.size W V) : ChnsO V B L := h.move fun _ _ _ ho => own_below ho hb
theorem ChnsO.off {ty : TypeId} (h : ChnsO W B L) (ho : Off ty W V) (hne : 34 ≠ ty) : ChnsO V B L := h.move fun _ _ _ h2 => own_off h2 ho hne
theorem ChnsO.far {t : TypeId} {bs : Array Value} (h : ChnsO W B L) {p : Addr} (hp : Blk W p.block t bs) (hne : t ≠ 34) (u : Value) : ChnsO (W.setCell p u) B L := h.move fun _ _ _ h2 => own_far h2 hp hne u
theorem ChnsO.snoc (h : ChnsO W B L) {e : CE} (ho : W.ownsRow B 34 1 e.v e.x.dests.length (e.x.dests.map (Value.int .u16))) (hf : ∀ a ∈ L, ∀ g, a.v.ownBlock = some g → e.v.ownBlock ≠ some g) : ChnsO W B (L ++ [e]) :=
  ⟨fun a ha => by rcases List.mem_append.1 ha with ha | ha; exact h.own a ha; rw [List.mem_singleton] at ha; rw [ha]; exact ho,
    List.pairwise_append.2 ⟨h.sep, by simp, fun a ha b hb => by rw [List.mem_singleton] at hb; subst hb; exact hf a ha⟩⟩
theorem ChnsO.perm {L' : List CE} (h : ChnsO W B L) (hp : L'.Perm L) : ChnsO W B L' :=
  ⟨fun e he => h.own e (hp.mem_iff.1 he), (hp.symm.pairwise_iff (fun {_ _} hab g hb ha => hab g ha hb)).1 h.sep⟩
theorem CE.len (e : CE) : e.cells.length = 3 := rfl
theorem ChnsO.rows : ∀ {L : List CE}, (∀ e ∈ L, W.ownsRow B 34 1 e.v e.x.dests.length (e.x.dests.map (Value.int .u16))) → RowsOf (ChnT W) (L.map (·.x)) (L.flatMap CE.cells)
  | [], _ => rfl
  | e :: r, h => ⟨e.cells, r.flatMap CE.cells, by rw [List.flatMap_cons], ⟨e.v, rfl, own_base (h e (by simp)) (Nat.zero_le _)⟩, ChnsO.rows fun a ha => h a (by simp [ha])⟩
theorem ceOne (L : List CE) : ∀ u ∈ L.flatMap CE.cells, u.oneCell' = true := by
  intro u hu
  obtain ⟨e, he, hx⟩ := List.mem_flatMap.1 hu
  simp [CE.cells] at hx
  rcases hx with rfl | rfl | rfl
  · rfl
  · rfl
  · rfl
end
theorem ce_at {w : World} {B : Nat} {A : Option Addr} {k : Nat} {l : List CE} {x : CE} (h : Rd w B 3 A l.length (l.flatMap CE.cells)) (hk : l[k]? = some x) :
    ∃ b o, A = some ⟨b, o, none⟩ ∧ b < B ∧ w.cell? ⟨b, o + k * 3, none⟩ = some (.int .u16 x.x.id) ∧ w.cell? ⟨b, o + k * 3 + 1, none⟩ = some (.int .u16 x.x.source) ∧ w.cell? ⟨b, o + k * 3 + 2, none⟩ = some (.slice x.A x.x.dests.length x.c) := by
  obtain ⟨b, o, e, hb, hc⟩ := Rd.get (f := CE.cells) (sz := 3) (fun _ => rfl) h hk
  exact ⟨b, o, e, hb, hc 0 _ rfl, hc 1 _ rfl, hc 2 _ rfl⟩
end Go.Proofs.YtldchpmilknlmaaGreat
