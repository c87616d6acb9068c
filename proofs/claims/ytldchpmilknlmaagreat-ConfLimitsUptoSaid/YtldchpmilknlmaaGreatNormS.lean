/-
  What conf.Normal keeps in memory while it runs. It speaks of no program's text.
-/
import Derived.Test.YtldchpmilknlmaaGreatSortG
import Derived.Test.YtldchpmilknlmaaGreatMergeC
namespace Go.Proofs.YtldchpmilknlmaaGreat
open Go.RowKit
structure NrmSt (w W : World) (g : Nat) (F : Int) (v1 v2 v3 v4 v5 : Value) (P : List Par) (N : List Win) (R : List Reg) (T : List Prt) (L : List CE) : Prop where
  gz : w.heap.size + 1 < g
  bel : Below w.heap.size w W
  res : Blk W (w.heap.size + 1) 29 #[.int .u64 0, .slice none 0 0, .slice none 0 0, .slice none 0 0, .slice none 0 0, .slice none 0 0]
  out : Blk W g 29 #[.int .u64 F, v1, v2, v3, v4, v5]
  o1 : W.ownsRow w.heap.size 36 4 v1 P.length (P.flatMap Par.cells)
  o2 : W.ownsRow w.heap.size 38 3 v2 N.length (N.flatMap Win.cells)
  o3 : W.ownsRow w.heap.size 40 5 v3 R.length (R.flatMap Reg.cells)
  o4 : W.ownsRow w.heap.size 43 6 v4 T.length (T.flatMap Prt.cells)
  o5 : W.ownsRow w.heap.size 46 3 v5 L.length (L.flatMap CE.cells)
  ch : ChnsO W w.heap.size L
section
variable {w W V : World} {g : Nat} {F : Int} {v1 v2 v3 v4 v5 v' : Value} {P P' : List Par} {N N' : List Win} {R R' : List Reg} {T T' : List Prt} {L L' : List CE}
theorem NrmSt.up (h : NrmSt w W g F v1 v2 v3 v4 v5 P N R T L) (hb : Below W.heap.size W V) : NrmSt w V g F v1 v2 v3 v4 v5 P N R T L :=
  ⟨h.gz, h.bel.trans (hb.mono h.bel.size), h.res.below hb h.res.lt, h.out.below hb h.out.lt, own_below h.o1 hb, own_below h.o2 hb, own_below h.o3 hb, own_below h.o4 hb, own_below h.o5 hb, h.ch.below hb⟩
theorem NrmSt.cells (h : NrmSt w W g F v1 v2 v3 v4 v5 P N R T L) : W.cell? ⟨g, 0, none⟩ = some (.int .u64 F) ∧ W.cell? ⟨g, 1, none⟩ = some v1 ∧ W.cell? ⟨g, 2, none⟩ = some v2 ∧ W.cell? ⟨g, 3, none⟩ = some v3 ∧ W.cell? ⟨g, 4, none⟩ = some v4 ∧ W.cell? ⟨g, 5, none⟩ = some v5 ∧ g < W.heap.size := by
  refine ⟨?_, ?_, ?_, ?_, ?_, ?_, h.out.lt⟩
  · have := h.out.cell 0; simpa using this
  · have := h.out.cell 1; simpa using this
  · have := h.out.cell 2; simpa using this
  · have := h.out.cell 3; simpa using this
  · have := h.out.cell 4; simpa using this
  · have := h.out.cell 5; simpa using this
theorem NrmSt.put1 (h : NrmSt w W g F v1 v2 v3 v4 v5 P N R T L) (ho : W.ownsRow w.heap.size 36 4 v' P'.length (P'.flatMap Par.cells)) : NrmSt w (W.setCell ⟨g, 1, none⟩ v') g F v' v2 v3 v4 v5 P' N R T L := by
  have hgz := h.gz
  have far : ∀ {e : TypeId} {size n : Nat} {v : Value} {ys : List Value}, W.ownsRow w.heap.size e size v n ys → 29 ≠ e → (W.setCell ⟨g, 1, none⟩ v').ownsRow w.heap.size e size v n ys := fun ho hne => own_far ho (p := ⟨g, 1, none⟩) h.out hne _
  exact ⟨h.gz, h.bel.setCell (by show w.heap.size ≤ g; omega) _, h.res.far (by show w.heap.size + 1 ≠ g; omega) _, by have := h.out.set_ 1 v'; simpa using this,
    far ho (by decide), far h.o2 (by decide), far h.o3 (by decide), far h.o4 (by decide), far h.o5 (by decide), h.ch.far (p := ⟨g, 1, none⟩) h.out (by decide) _⟩
theorem NrmSt.put2 (h : NrmSt w W g F v1 v2 v3 v4 v5 P N R T L) (ho : W.ownsRow w.heap.size 38 3 v' N'.length (N'.flatMap Win.cells)) : NrmSt w (W.setCell ⟨g, 2, none⟩ v') g F v1 v' v3 v4 v5 P N' R T L := by
  have hgz := h.gz
  have far : ∀ {e : TypeId} {size n : Nat} {v : Value} {ys : List Value}, W.ownsRow w.heap.size e size v n ys → 29 ≠ e → (W.setCell ⟨g, 2, none⟩ v').ownsRow w.heap.size e size v n ys := fun ho hne => own_far ho (p := ⟨g, 2, none⟩) h.out hne _
  exact ⟨h.gz, h.bel.setCell (by show w.heap.size ≤ g; omega) _, h.res.far (by show w.heap.size + 1 ≠ g; omega) _, by have := h.out.set_ 2 v'; simpa using this,
    far h.o1 (by decide), far ho (by decide), far h.o3 (by decide), far h.o4 (by decide), far h.o5 (by decide), h.ch.far (p := ⟨g, 2, none⟩) h.out (by decide) _⟩
theorem NrmSt.put3 (h : NrmSt w W g F v1 v2 v3 v4 v5 P N R T L) (ho : W.ownsRow w.heap.size 40 5 v' R'.length (R'.flatMap Reg.cells)) : NrmSt w (W.setCell ⟨g, 3, none⟩ v') g F v1 v2 v' v4 v5 P N R' T L := by
  have hgz := h.gz
  have far : ∀ {e : TypeId} {size n : Nat} {v : Value} {ys : List Value}, W.ownsRow w.heap.size e size v n ys → 29 ≠ e → (W.setCell ⟨g, 3, none⟩ v').ownsRow w.heap.size e size v n ys := fun ho hne => own_far ho (p := ⟨g, 3, none⟩) h.out hne _
  exact ⟨h.gz, h.bel.setCell (by show w.heap.size ≤ g; omega) _, h.res.far (by show w.heap.size + 1 ≠ g; omega) _, by have := h.out.set_ 3 v'; simpa using this,
    far h.o1 (by decide), far h.o2 (by decide), far ho (by decide), far h.o4 (by decide), far h.o5 (by decide), h.ch.far (p := ⟨g, 3, none⟩) h.out (by decide) _⟩
theorem NrmSt.put4 (h : NrmSt w W g F v1 v2 v3 v4 v5 P N R T L) (ho : W.ownsRow w.heap.size 43 6 v' T'.length (T'.flatMap Prt.cells)) : NrmSt w (W.setCell ⟨g, 4, none⟩ v') g F v1 v2 v3 v' v5 P N R T' L := by
  have hgz := h.gz
  have far : ∀ {e : TypeId} {size n : Nat} {v : Value} {ys : List Value}, W.ownsRow w.heap.size e size v n ys → 29 ≠ e → (W.setCell ⟨g, 4, none⟩ v').ownsRow w.heap.size e size v n ys := fun ho hne => own_far ho (p := ⟨g, 4, none⟩) h.out hne _
  exact ⟨h.gz, h.bel.setCell (by show w.heap.size ≤ g; omega) _, h.res.far (by show w.heap.size + 1 ≠ g; omega) _, by have := h.out.set_ 4 v'; simpa using this,
    far h.o1 (by decide), far h.o2 (by decide), far h.o3 (by decide), far ho (by decide), far h.o5 (by decide), h.ch.far (p := ⟨g, 4, none⟩) h.out (by decide) _⟩
theorem NrmSt.put5 (h : NrmSt w W g F v1 v2 v3 v4 v5 P N R T L) (ho : W.ownsRow w.heap.size 46 3 v' L'.length (L'.flatMap CE.cells)) (hp : L'.Perm L) : NrmSt w (W.setCell ⟨g, 5, none⟩ v') g F v1 v2 v3 v4 v' P N R T L' := by
  have hgz := h.gz
  have far : ∀ {e : TypeId} {size n : Nat} {v : Value} {ys : List Value}, W.ownsRow w.heap.size e size v n ys → 29 ≠ e → (W.setCell ⟨g, 5, none⟩ v').ownsRow w.heap.size e size v n ys := fun ho hne => own_far ho (p := ⟨g, 5, none⟩) h.out hne _
  exact ⟨h.gz, h.bel.setCell (by show w.heap.size ≤ g; omega) _, h.res.far (by show w.heap.size + 1 ≠ g; omega) _, by have := h.out.set_ 5 v'; simpa using this,
    far h.o1 (by decide), far h.o2 (by decide), far h.o3 (by decide), far h.o4 (by decide), far ho (by decide), (h.ch.perm hp).far (p := ⟨g, 5, none⟩) h.out (by decide) _⟩
/-- the destinations of one channel are put in order -/
theorem NrmSt.dests {k : Nat} {e : CE} (h : NrmSt w W g F v1 v2 v3 v4 v5 P N R T (srtTo L k)) (he : L[k]? = some e) (ho : V.ownsRow w.heap.size 34 1 e.v e.x.dests.length ((sortInts e.x.dests).map (Value.int .u16))) (hg : W.grownBy V e.v.ownBlock) : NrmSt w V g F v1 v2 v3 v4 v5 P N R T (srtTo L (k + 1)) := by
  have hat := srtTo_at he
  have hown := h.ch.own e (List.mem_of_getElem? hat)
  have hoff := Off.of_own hown hg
  have hz := h.bel.size
  refine ⟨h.gz, h.bel.grown hg hz (fun k e => (hown.lt k e).1), h.res.off hoff (by decide), h.out.off hoff (by decide), own_off h.o1 hoff (by decide), own_off h.o2 hoff (by decide), own_off h.o3 hoff (by decide), own_off h.o4 hoff (by decide), ?_, ?_⟩
  · have := own_off h.o5 hoff (by decide)
    rw [srtTo_len, srtTo_cells] at this ⊢
    exact this
  · rw [srtTo_next he]
    refine h.ch.turn hat (srt_v e) ?_ hg
    rw [srt_v, srt_len]
    exact ho
theorem NrmSt.start {c : Cfg} {A1 A2 A3 A4 A5 : Option Addr} {c1 c2 c3 c4 c5 : Nat} (hB : Below w.heap.size w W) (hgz : w.heap.size + 1 < W.heap.size) (hres : Blk W (w.heap.size + 1) 29 #[.int .u64 0, .slice none 0 0, .slice none 0 0, .slice none 0 0, .slice none 0 0, .slice none 0 0]) (h : OwnC W w.heap.size c A1 A2 A3 A4 A5 c1 c2 c3 c4 c5) :
    ∃ (V : World) (L : List CE), W.alloc (.cells #[.int .u64 c.frame, .slice A1 c.parts.length c1, .slice A2 c.wins.length c2, .slice A3 c.regs.length c3, .slice A4 c.ports.length c4, .slice A5 c.chans.length c5] 29) = V ∧ L.map (·.x) = c.chans ∧
      NrmSt w V W.heap.size c.frame (.slice A1 c.parts.length c1) (.slice A2 c.wins.length c2) (.slice A3 c.regs.length c3) (.slice A4 c.ports.length c4) (.slice A5 c.chans.length c5) c.parts c.wins c.regs c.ports (srtTo L 0) := by
  obtain ⟨L, o5, ch, lx⟩ := h.o5
  have hlen : L.length = c.chans.length := by rw [← lx]; simp
  have hb := (Below.refl W.heap.size W).alloc (Nat.le_refl _) (.cells #[.int .u64 c.frame, .slice A1 c.parts.length c1, .slice A2 c.wins.length c2, .slice A3 c.regs.length c3, .slice A4 c.ports.length c4, .slice A5 c.chans.length c5] 29)
  have e0 : srtTo L 0 = L := by simp [srtTo]
  refine ⟨_, L, rfl, lx, hgz, hB.trans (hb.mono hB.size), hres.below hb hres.lt, Blk.new _ _ _, own_below h.o1 hb, own_below h.o2 hb, own_below h.o3 hb, own_below h.o4 hb, ?_, ?_⟩
  · rw [e0, hlen]; exact own_below o5 hb
  · rw [e0]; exact ch.below hb
theorem nrm_rd (h : NrmSt w W g F v1 v2 v3 v4 v5 P N R T L) : ∀ e ∈ L, Rd W W.heap.size 1 e.A e.x.dests.length (e.x.dests.map (Value.int .u16)) := fun e he => (own_slice (h.ch.own e he)).2
end
/-- the configuration in order, from the rows -/
theorem norm_eq {c : Cfg} {L L' : List CE} (hl : L.map (·.x) = c.chans) (hm : L'.map (·.x) = normK keyChn ((L.map CE.srt).map (·.x))) : (⟨c.frame, normK keyPar c.parts, normK keyWin c.wins, normK keyReg c.regs, normK keyPrt c.ports, L'.map (·.x)⟩ : Cfg) = c.norm := by
  unfold Cfg.norm
  rw [hm, List.map_map, ← hl, List.map_map]
  rfl
theorem normK_len {α : Type} (key : α → List Int) (l : List α) : (normK key l).length = l.length := (normK_perm key l).length_eq
end Go.Proofs.YtldchpmilknlmaaGreat
