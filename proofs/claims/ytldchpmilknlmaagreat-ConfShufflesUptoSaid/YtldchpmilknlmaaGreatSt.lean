/-
  Where a function of a configuration stands: its argument is boxed at the block that was free first, nothing that was there has turned. It speaks of no program but for the type of the box; no condition.
-/
import Derived.Test.YtldchpmilknlmaaGreatWire
import Derived.Test.YtldchpmilknlmaaGreatNew
namespace Go.Proofs.YtldchpmilknlmaaGreat
open Go.RowKit
structure St (w W : World) (c : Cfg) (A1 A2 A3 A4 A5 : Option Addr) (c1 c2 c3 c4 c5 : Nat) : Prop where
  R0 : CfgR w w.heap.size c A1 A2 A3 A4 A5 c1 c2 c3 c4 c5
  R : CfgR W W.heap.size c A1 A2 A3 A4 A5 c1 c2 c3 c4 c5
  bel : Below w.heap.size w W
  x0 : W.cell? ⟨w.heap.size, 0, none⟩ = some (.int .u64 c.frame)
  x1 : W.cell? ⟨w.heap.size, 1, none⟩ = some (.slice A1 c.parts.length c1)
  x2 : W.cell? ⟨w.heap.size, 2, none⟩ = some (.slice A2 c.wins.length c2)
  x3 : W.cell? ⟨w.heap.size, 3, none⟩ = some (.slice A3 c.regs.length c3)
  x4 : W.cell? ⟨w.heap.size, 4, none⟩ = some (.slice A4 c.ports.length c4)
  x5 : W.cell? ⟨w.heap.size, 5, none⟩ = some (.slice A5 c.chans.length c5)
  z : w.heap.size < W.heap.size
section
variable {w W V : World} {c : Cfg} {A1 A2 A3 A4 A5 : Option Addr} {c1 c2 c3 c4 c5 : Nat}
theorem St.start (hR : CfgR w w.heap.size c A1 A2 A3 A4 A5 c1 c2 c3 c4 c5) (t : TypeId) : St w (w.alloc (.cells #[.int .u64 c.frame, .slice A1 c.parts.length c1, .slice A2 c.wins.length c2, .slice A3 c.regs.length c3, .slice A4 c.ports.length c4, .slice A5 c.chans.length c5] t)) c A1 A2 A3 A4 A5 c1 c2 c3 c4 c5 :=
  ⟨hR, hR.up ((Below.refl _ _).alloc (Nat.le_refl _) _), (Below.refl _ _).alloc (Nat.le_refl _) _, by simp, by simp, by simp, by simp, by simp, by simp, by simp⟩
theorem St.up (h : St w W c A1 A2 A3 A4 A5 c1 c2 c3 c4 c5) (hb : Below W.heap.size W V) : St w V c A1 A2 A3 A4 A5 c1 c2 c3 c4 c5 := by
  have q : ∀ j, V.cell? ⟨w.heap.size, j, none⟩ = W.cell? ⟨w.heap.size, j, none⟩ := fun j => hb.cell (p := ⟨w.heap.size, j, none⟩) h.z
  exact ⟨h.R0, h.R.up hb, h.bel.trans (hb.mono h.bel.size), (q 0).trans h.x0, (q 1).trans h.x1, (q 2).trans h.x2, (q 3).trans h.x3, (q 4).trans h.x4, (q 5).trans h.x5, Nat.lt_of_lt_of_le h.z hb.size⟩
/-- only blocks behind the box have turned -/
theorem St.keep (h : St w W c A1 A2 A3 A4 A5 c1 c2 c3 c4 c5) (hb : Below (w.heap.size + 1) W V) : St w V c A1 A2 A3 A4 A5 c1 c2 c3 c4 c5 := by
  have q : ∀ j, V.cell? ⟨w.heap.size, j, none⟩ = W.cell? ⟨w.heap.size, j, none⟩ := fun j => hb.cell (p := ⟨w.heap.size, j, none⟩) (Nat.lt_succ_self _)
  have hbel : Below w.heap.size w V := h.bel.trans (hb.mono (Nat.le_succ _))
  exact ⟨h.R0, h.R0.up hbel, hbel, (q 0).trans h.x0, (q 1).trans h.x1, (q 2).trans h.x2, (q 3).trans h.x3, (q 4).trans h.x4, (q 5).trans h.x5, Nat.lt_of_lt_of_le h.z hb.size⟩
theorem St.alloc (h : St w W c A1 A2 A3 A4 A5 c1 c2 c3 c4 c5) (o : Obj) : St w (W.alloc o) c A1 A2 A3 A4 A5 c1 c2 c3 c4 c5 := h.up ((Below.refl _ _).alloc (Nat.le_refl _) _)
theorem St.drewN (h : St w W c A1 A2 A3 A4 A5 c1 c2 c3 c4 c5) (n : Nat) : St w (W.drewN n) c A1 A2 A3 A4 A5 c1 c2 c3 c4 c5 := h.up ⟨rfl, rfl, rfl, Nat.le_refl _, fun _ _ => rfl⟩
theorem St.ext (h : St w W c A1 A2 A3 A4 A5 c1 c2 c3 c4 c5) (x : Ext W) : St w (ext W x) c A1 A2 A3 A4 A5 c1 c2 c3 c4 c5 := h.up (ext_below _ _)
theorem St.cells (h : St w W c A1 A2 A3 A4 A5 c1 c2 c3 c4 c5) : W.cell? ⟨w.heap.size, 0, none⟩ = some (.int .u64 c.frame) ∧ W.cell? ⟨w.heap.size, 1, none⟩ = some (.slice A1 c.parts.length c1) ∧ W.cell? ⟨w.heap.size, 2, none⟩ = some (.slice A2 c.wins.length c2) ∧
    W.cell? ⟨w.heap.size, 3, none⟩ = some (.slice A3 c.regs.length c3) ∧ W.cell? ⟨w.heap.size, 4, none⟩ = some (.slice A4 c.ports.length c4) ∧ W.cell? ⟨w.heap.size, 5, none⟩ = some (.slice A5 c.chans.length c5) ∧ w.heap.size < W.heap.size := ⟨h.x0, h.x1, h.x2, h.x3, h.x4, h.x5, h.z⟩
theorem St.start_any (hR : CfgR w w.heap.size c A1 A2 A3 A4 A5 c1 c2 c3 c4 c5) (t : TypeId) : ∃ W, w.alloc (.cells #[.int .u64 c.frame, .slice A1 c.parts.length c1, .slice A2 c.wins.length c2, .slice A3 c.regs.length c3, .slice A4 c.ports.length c4, .slice A5 c.chans.length c5] t) = W ∧ St w W c A1 A2 A3 A4 A5 c1 c2 c3 c4 c5 :=
  ⟨_, rfl, St.start hR t⟩
end
theorem below_one (w : World) (o : Obj) : Below w.heap.size w (w.alloc o) := (Below.refl _ _).alloc (Nat.le_refl _) _
theorem Below.then_ {w W V : World} (h : Below w.heap.size w W) (k : Below W.heap.size W V) : Below w.heap.size w V := h.trans (k.mono h.size)
structure Cfg.Bd (c : Cfg) : Prop where
  p : c.parts.length ≤ 1048576
  w : c.wins.length ≤ 1048576
  r : c.regs.length ≤ 1048576
  t : c.ports.length ≤ 1048576
  x : c.chans.length ≤ 1048576
  d : ∀ y ∈ c.chans, y.dests.length ≤ 1048576
theorem dests_sum {l : List Chn} {y : Chn} (h : y ∈ l) : y.dests.length ≤ sumDests l := by
  induction l with
  | nil => simp at h
  | cons z r ih =>
    simp only [sumDests, List.map_cons, List.sum_cons]
    rcases List.mem_cons.1 h with rfl | h
    · omega
    · have := ih h
      simp only [sumDests] at this
      omega
theorem Cfg.small.bd {c : Cfg} (h : c.small) : c.Bd := by
  have ht : c.total ≤ 1048576 := h.total
  unfold Cfg.total at ht
  exact ⟨by omega, by omega, by omega, by omega, by omega, fun y hy => by have := dests_sum hy; omega⟩
/-- the cells of a channel, of a port, boxed -/
def ChBox (w : World) (g : Nat) (x : Chn) (D : Option Addr) (d : Nat) : Prop := w.cell? ⟨g, 0, none⟩ = some (.int .u16 x.id) ∧ w.cell? ⟨g, 1, none⟩ = some (.int .u16 x.source) ∧ w.cell? ⟨g, 2, none⟩ = some (.slice D x.dests.length d) ∧ g < w.heap.size
def PtBox (w : World) (g : Nat) (x : Prt) : Prop := w.cell? ⟨g, 0, none⟩ = some (.int .u16 x.id) ∧ w.cell? ⟨g, 1, none⟩ = some (.int .u16 x.part) ∧ w.cell? ⟨g, 2, none⟩ = some (.string x.name) ∧
    w.cell? ⟨g, 3, none⟩ = some (.bool x.output) ∧ w.cell? ⟨g, 4, none⟩ = some (.bool x.queuing) ∧ w.cell? ⟨g, 5, none⟩ = some (.int .u32 x.size) ∧ g < w.heap.size
theorem ChBox.up {w w' : World} {g : Nat} {x : Chn} {D : Option Addr} {d : Nat} (h : ChBox w g x D d) (hb : Below w.heap.size w w') : ChBox w' g x D d := by
  obtain ⟨h0, h1, h2, hg⟩ := h
  have q : ∀ j, w'.cell? ⟨g, j, none⟩ = w.cell? ⟨g, j, none⟩ := fun j => hb.cell (p := ⟨g, j, none⟩) hg
  exact ⟨(q 0).trans h0, (q 1).trans h1, (q 2).trans h2, Nat.lt_of_lt_of_le hg hb.size⟩
theorem PtBox.up {w w' : World} {g : Nat} {x : Prt} (h : PtBox w g x) (hb : Below w.heap.size w w') : PtBox w' g x := by
  obtain ⟨h0, h1, h2, h3, h4, h5, hg⟩ := h
  have q : ∀ j, w'.cell? ⟨g, j, none⟩ = w.cell? ⟨g, j, none⟩ := fun j => hb.cell (p := ⟨g, j, none⟩) hg
  exact ⟨(q 0).trans h0, (q 1).trans h1, (q 2).trans h2, (q 3).trans h3, (q 4).trans h4, (q 5).trans h5, Nat.lt_of_lt_of_le hg hb.size⟩
theorem ChBox.new (w : World) (x : Chn) (D : Option Addr) (d : Nat) (t : TypeId) : ∃ W, w.alloc (.cells #[.int .u16 x.id, .int .u16 x.source, .slice D x.dests.length d] t) = W ∧ ChBox W w.heap.size x D d ∧ Below w.heap.size w W :=
  ⟨_, rfl, ⟨by simp, by simp, by simp, by simp⟩, below_one _ _⟩
theorem PtBox.new (w : World) (x : Prt) (t : TypeId) : ∃ W, w.alloc (.cells #[.int .u16 x.id, .int .u16 x.part, .string x.name, .bool x.output, .bool x.queuing, .int .u32 x.size] t) = W ∧ PtBox W w.heap.size x ∧ Below w.heap.size w W :=
  ⟨_, rfl, ⟨by simp, by simp, by simp, by simp, by simp, by simp, by simp⟩, below_one _ _⟩
end Go.Proofs.YtldchpmilknlmaaGreat
