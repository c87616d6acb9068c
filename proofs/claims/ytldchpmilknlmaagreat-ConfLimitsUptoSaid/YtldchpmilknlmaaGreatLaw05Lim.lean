/-
  The law ConfLimits of the chapter of layer 5, walked section by section.
-/
import Derived.BigQuiet
import Derived.Deep.RegionHeld3
import Derived.WalkArith
import Derived.Test.YtldchpmilknlmaaGreatLimS
import Derived.Test.YtldchpmilknlmaaGreatChkR
import Derived.Test.YtldchpmilknlmaaGreatAlive05
import Derived.Test.YtldchpmilknlmaaGreatInvT
namespace Go.Proofs.YtldchpmilknlmaaGreat
open Go.RowKit Go.Lib
attribute [local go_sem] ext_cell eq7
theorem mkPar1 (W : World) : (Instr.makeSlice 23 (.int .i64 1) (.int .i64 1)).run Tryz.prog W = .ok (.slice (some ⟨W.heap.size, 0, none⟩) 1 1) (W.alloc (.cells #[.int .u16 0, .string ⟨#[]⟩, .int .u64 0, .int .u64 0] 36)) := by
  obtain ⟨i, hi, h0, h1, h2⟩ := info_parts infoPartition
  have h := run_makeN _ _ i _ 4 _ _ Tryz.underlying23 hi h0 h1 h2 rfl 1 (by decide) (by decide) W
  rw [show madeCells (Value.agg #[.int .u16 0, .string .empty, .int .u64 0, .int .u64 0]).cells (1 * 4) = #[.int .u16 0, .string ⟨#[]⟩, .int .u64 0, .int .u64 0] by kernel_rfl] at h
  exact h
theorem mkPrt1 (W : World) : (Instr.makeSlice 26 (.int .i64 1) (.int .i64 1)).run Tryz.prog W = .ok (.slice (some ⟨W.heap.size, 0, none⟩) 1 1) (W.alloc (.cells #[.int .u16 0, .int .u16 0, .string ⟨#[]⟩, .bool false, .bool false, .int .u32 0] 43)) := by
  obtain ⟨i, hi, h0, h1, h2⟩ := info_parts infoPort
  have h := run_makeN _ _ i _ 6 _ _ Tryz.underlying26 hi h0 h1 h2 rfl 1 (by decide) (by decide) W
  rw [show madeCells (Value.agg #[.int .u16 0, .int .u16 0, .string .empty, .bool false, .bool false, .int .u32 0]).cells (1 * 6) = #[.int .u16 0, .int .u16 0, .string ⟨#[]⟩, .bool false, .bool false, .int .u32 0] by kernel_rfl] at h
  exact h
theorem mkU1 (W : World) : (Instr.makeSlice 44 (.int .i64 1) (.int .i64 1)).run Tryz.prog W = .ok (.slice (some ⟨W.heap.size, 0, none⟩) 1 1) (W.alloc (.cells #[.int .u16 0] 34)) := by
  obtain ⟨i, hi, h0, h1, h2⟩ := info_parts elem_zero
  have h := run_makeN _ _ i _ 1 _ _ Tryz.underlying44 hi h0 h1 h2 rfl 1 (by decide) (by decide) W
  rw [show madeCells (Value.int .u16 0).cells (1 * 1) = #[.int .u16 0] by kernel_rfl] at h
  exact h
theorem own_lit1 (w : World) (base : Nat) (E : TypeId) (sz : Nat) (l : List Value) (b : Nat) (hb : base ≤ w.heap.size) (hbk : w.heap.size = b) (hn : l.length = sz) (cs : Array Value) (hc : cs = l.toArray) : (w.alloc (.cells cs E)).ownsRow base E sz (.slice (some ⟨b, 0, none⟩) 1 1) 1 l :=
  own_litS w base E sz l b 1 hb hbk (by unfold maxLen; omega) (by omega) cs hc
theorem own_up1 {w : World} {base : Nat} {e : TypeId} {size n : Nat} {v : Value} {xs : List Value} (h : w.ownsRow base e size v n xs) (o : Obj) : (w.alloc o).ownsRow base e size v n xs := own_below h (below_one w o)
theorem Blk.newG (w : World) (t : TypeId) (cs : Array Value) (g : Nat) (hg : g = w.heap.size) : Blk (w.alloc (.cells cs t)) g t cs := by subst hg; exact Blk.new w t cs
theorem Blk.drew1 {w : World} {g : Nat} {t : TypeId} {cs : Array Value} (h : Blk w g t cs) : Blk w.drew g t cs := h
theorem own_drew1 {w : World} {base : Nat} {e : TypeId} {size n : Nat} {v : Value} {xs : List Value} (h : w.ownsRow base e size v n xs) : w.drew.ownsRow base e size v n xs := h
theorem lim_begin {w W : World} {gx b1 b4 : Nat} (box : Blk W gx 29 #[.int .u64 0, .slice (some ⟨b1, 0, none⟩) 1 1, .slice none 0 0, .slice none 0 0, .slice (some ⟨b4, 0, none⟩) 1 1, .slice none 0 0])
    (o1 : W.ownsRow w.heap.size 36 4 (.slice (some ⟨b1, 0, none⟩) 1 1) 1 ((List.replicate 1 par0).flatMap Par.cells)) (o4 : W.ownsRow w.heap.size 43 6 (.slice (some ⟨b4, 0, none⟩) 1 1) 1 ((List.replicate 1 prt0).flatMap Prt.cells))
    (hb : Below w.heap.size w W) (hg : w.heap.size ≤ gx) : ∃ gx' b1 b4, Value.pointer (some ⟨gx, 0, none⟩) = .pointer (some ⟨gx', 0, none⟩) ∧ Hid (YSt w.heap.size gx' w W 0 (.slice (some ⟨b1, 0, none⟩) 1 1) (.slice none 0 0) (.slice none 0 0) (.slice (some ⟨b4, 0, none⟩) 1 1) (.slice none 0 0) (List.replicate 1 par0) [] [] (List.replicate 1 prt0) []) :=
  ⟨gx, b1, b4, rfl, Lib.hid (YSt.begin_ hb hb.size hg box o1 o4)⟩
theorem confCheckN (x : Cfg) (A1 A2 A3 A4 A5 : Option Addr) (c1 c2 c3 c4 c5 n1 n2 n3 n4 n5 : Nat) (F : Int) (eF : F = x.frame) (e1 : n1 = x.parts.length) (e2 : n2 = x.wins.length) (e3 : n3 = x.regs.length) (e4 : n4 = x.ports.length) (e5 : n5 = x.chans.length) (w : World) (hR : CfgR w w.heap.size x A1 A2 A3 A4 A5 c1 c2 c3 c4 c5) (ht : x.total ≤ 4194304) (ec sc ic : Int) (hv : Hid (chkBad x = (ec, sc, ic))) :
    Calls Tryz.prog 30 #[cfgV F A1 A2 A3 A4 A5 n1 n2 n3 n4 n5 c1 c2 c3 c4 c5] w fun e w' => e = .returned (.agg #[.int .i64 ec, .int .i64 sc, .int .i64 ic]) ∧ Below w.heap.size w w' := by
  subst eF e1 e2 e3 e4 e5
  exact confCheck_ok x A1 A2 A3 A4 A5 c1 c2 c3 c4 c5 w hR ht ec sc ic hv
theorem rd_block {w : World} {g sz n : Nat} {t : TypeId} {cs : Array Value} (h : w.heap[g]? = some (.cells cs t (0, 0))) (hn : cs.size = n * sz) : Rd w w.heap.size sz (some ⟨g, 0, none⟩) n cs.toList := Rd.block5 h hn
theorem oneCe0 : ∀ u ∈ [ce0].flatMap CE.cells, u.oneCell' = true := by
  intro u hu
  simp [CE.cells, CE.v, ce0, chn0] at hu
  rcases hu with rfl | rfl | rfl <;> rfl
theorem parX_set {k n : Nat} (hk : k < n) : (halfR n k parX par0).set k { par0 with name := ⟨#[120]⟩ } = halfR n (k + 1) parX par0 := halfR_next hk parX par0
theorem prtX_set {k n : Nat} (hk : k < n) : (halfR n k prtX prt0).set k { prt0 with name := ⟨#[120]⟩ } = halfR n (k + 1) prtX prt0 := halfR_next hk prtX prt0
def G1 (W5 U : World) (g : Nat) : Prop := W5.heap.size ≤ g ∧ Blk U g 34 #[.int .u16 0]
def s6 (B gx bk2 : Nat) (W5 : World) (xs : List Value) : Nat → (Nat → Value) → World → Prop
  | 0, u, _ => u 0 = .pointer (some ⟨gx, 5, none⟩)
  | 1, u, _ => u 1 = .slice (some ⟨bk2, 0, none⟩) 1 1
  | 2, u, U => ∃ g, u 2 = .slice (some ⟨g, 0, none⟩) 1 1 ∧ G1 W5 U g
  | 3, u, U => ∃ g, u 3 = .agg #[.int .u16 0, .int .u16 0, .slice (some ⟨g, 0, none⟩) 1 1] ∧ G1 W5 U g
  | 4, u, U => ∃ g g2, u 4 = .slice (some ⟨g2, 0, none⟩) 1 1 ∧ G1 W5 U g ∧ W5.heap.size ≤ g2 ∧ Blk U g2 46 #[.int .u16 0, .int .u16 0, .slice (some ⟨g, 0, none⟩) 1 1]
  | 5, u, U => ∃ VA vc g, u 5 = .slice VA (1 + 1) vc ∧ G1 W5 U g ∧ U.ownsRow B 46 3 (.slice VA (1 + 1) vc) (1 + 1) (xs ++ [.int .u16 0, .int .u16 0, .slice (some ⟨g, 0, none⟩) 1 1]) ∧ ∃ W1, Below W5.heap.size W5 W1 ∧ Off 46 W1 U ∧ Below B W1 U
  | 6, u, _ => u 6 = .pointer (some ⟨gx, 5, none⟩)
  | _, _, _ => True
def le6 (bk2 j : Nat) (w w' : World) : Prop := if j = 5 then w.grownBy w' (some bk2) else Below w.heap.size w w'
theorem s6_stay {B gx bk2 : Nat} {W5 : World} {xs : List Value} {u : Nat → Value} {w w' : World} (hbk : bk2 < W5.heap.size) (hB : B ≤ W5.heap.size) {i j : Nat} (hij : i ≠ j) (h : s6 B gx bk2 W5 xs i u w) (hl : le6 bk2 j w w') : s6 B gx bk2 W5 xs i u w' := by
  have k1 : ∀ {g : Nat} {t : TypeId} {cs : Array Value}, W5.heap.size ≤ g → Blk w g t cs → Blk w' g t cs := by
    intro g t cs hg hb
    unfold le6 at hl
    split at hl
    · exact (hl.block g hb.lt (fun e => by injection e with e; omega)).trans hb
    · exact hb.below hl hb.lt
  match i, h with
  | 0, h => exact h
  | 1, h => exact h
  | 2, ⟨g, e, hg⟩ => exact ⟨g, e, hg.1, k1 hg.1 hg.2⟩
  | 3, ⟨g, e, hg⟩ => exact ⟨g, e, hg.1, k1 hg.1 hg.2⟩
  | 4, ⟨g, g2, e, hg, h2, h3⟩ => exact ⟨g, g2, e, ⟨hg.1, k1 hg.1 hg.2⟩, h2, k1 h2 h3⟩
  | 5, ⟨VA, vc, g, e, hg, ho, W1, h1, h2, h3⟩ =>
    rw [le6, if_neg (Ne.symm hij)] at hl
    exact ⟨VA, vc, g, e, ⟨hg.1, k1 hg.1 hg.2⟩, own_below ho hl, W1, h1, off_below h2 hl, h3.trans (hl.mono (Nat.le_trans hB (Nat.le_trans h1.size h3.size)))⟩
  | 6, h => exact h
  | t + 7, _ => exact trivial
theorem s6_loc {B gx bk2 : Nat} {W5 : World} {xs : List Value} {u : Nat → Value} {w : World} {i j : Nat} (v : Value) (hij : j ≠ i) (h : s6 B gx bk2 W5 xs i u w) : s6 B gx bk2 W5 xs i (upd u j v) w := by
  have e := upd_ne (Ne.symm hij) u v
  match i, h, e with
  | 0, h, e => exact e.trans h
  | 1, h, e => exact e.trans h
  | 2, ⟨g, h, hg⟩, e => exact ⟨g, e.trans h, hg⟩
  | 3, ⟨g, h, hg⟩, e => exact ⟨g, e.trans h, hg⟩
  | 4, ⟨g, g2, h, hg⟩, e => exact ⟨g, g2, e.trans h, hg⟩
  | 5, ⟨VA, vc, g, h, hg⟩, e => exact ⟨VA, vc, g, e.trans h, hg⟩
  | 6, h, e => exact e.trans h
  | t + 7, _, _ => exact trivial
theorem own_blk {U : World} {g B : Nat} (h : Blk U g 34 #[.int .u16 0]) (hg : B ≤ g) : U.ownsRow B 34 1 (.slice (some ⟨g, 0, none⟩) 1 1) 1 [.int .u16 0] :=
  ⟨rfl, .inr ⟨g, 1, #[.int .u16 0], rfl, hg, h, Nat.le_refl _, by unfold maxLen; omega, by simp, by simp⟩⟩
theorem oneCh1 {g : Nat} : ∀ u ∈ [Value.int .u16 0, .int .u16 0, .slice (some ⟨g, 0, none⟩) 1 1], u.oneCell' = true := by
  intro u hu
  simp at hu
  rcases hu with rfl | rfl | rfl <;> rfl
theorem wp_skipR {P : Program} {o : Oper} {a : Act} {w w' : World} {K : Act → World → Prop} {Q : Exit → Act → World → Prop} {ρ : Operand → Value} (hρ : ρ = a.eval) (hr : (execOp ρ o).run P w = .ok .skip w') (h : K (a.put o.dst undef) w') : o.wp P a w K Q := by
  subst hρ
  exact Go.Proofs.YtldchpmilknlmaaGreat.wp_skip hr h
theorem mkU1r (W : World) : (Instr.makeSlice 44 (.int .i64 1) (.int .i64 1)).run Tryz.prog W = .ok (.slice (some ⟨W.heap.size, 0, none⟩) 1 1) (W.alloc (.cells #[.int .u16 0] 34)) := mkU1 W
set_option maxRecDepth 100000 in
set_option maxHeartbeats 16000000 in
theorem lim1_ok (sec : Int) (h0 : 0 ≤ sec) (h1 : sec ≤ 255) (hm : sec % 6 = 0) (w : World) : Calls Tryz.prog 8 #[.int .u8 sec] w fun e w' => e = .returned (.bool true) ∧ Below w.heap.size w w' := by
  have hmk1 := mkPar1
  have hmk4 := mkPrt1
  have hs1 : 1 + sec % 6 = 1 := by omega
  go_enter Tryz.func8, Tryz.ntmps8
  go_wp2_with fail
  refine (limit1_ok _).mono ?_
  rintro e w1 ⟨rfl, hb1⟩
  have HB1 := Lib.hid hb1
  have hsz1 := hb1.size
  clear hb1
  go_upto_region 3 with (fail)
  go_cut [5] (fun t wx => ∃ gx b1 b4, t = .pointer (some ⟨gx, 0, none⟩) ∧ Hid (YSt w.heap.size gx w wx 0 (.slice (some ⟨b1, 0, none⟩) 1 1) (.slice none 0 0) (.slice none 0 0) (.slice (some ⟨b4, 0, none⟩) 1 1) (.slice none 0 0) (List.replicate 1 par0) [] [] (List.replicate 1 prt0) []))
  case first =>
    have HBW := HB1
    go_region
    all_goals
      go_wp2_with fail
      go_meet
      case rel =>
        first
        | (refine lim_begin (b1 := w1.heap.size) (b4 := w1.heap.size + 1) ?_ ?_ ?_ ?_ ?_; (focus ((repeat (first | exact Blk.newG _ _ _ _ (by first | rfl | (simp; done) | (simp; omega)) | with_reducible refine Blk.alloc ?_ _ | with_reducible refine Blk.drew1 ?_)); done)); (focus ((repeat (first | exact own_lit1 _ _ _ 4 _ _ (by first | omega | (simp; done) | (simp; omega)) (by first | rfl | (simp; done) | (simp; omega)) rfl _ rfl | with_reducible refine own_up1 ?_ _ | with_reducible refine own_drew1 ?_)); done)); (focus ((repeat (first | exact own_lit1 _ _ _ 6 _ _ (by first | omega | (simp; done) | (simp; omega)) (by first | rfl | (simp; done) | (simp; omega)) rfl _ rfl | with_reducible refine own_up1 ?_ _ | with_reducible refine own_drew1 ?_)); done)); (focus ((repeat (first | with_reducible exact HBW.out | with_reducible exact Below.refl _ _ | with_reducible refine Below.drew ?_ | (with_reducible refine Below.alloc ?_ (by first | (simp; done) | (have hq := HBW.out.size; simp at hq ⊢; omega)) _) | (with_reducible refine Below.setCell ?_ (by first | (simp; done) | (have hq := HBW.out.size; simp at hq ⊢; omega)) _))); done)); (focus (first | (simp; done) | (simp; omega) | omega)))
        | (refine lim_begin (b1 := w1.heap.size) (b4 := w1.heap.size + 1 + 1) ?_ ?_ ?_ ?_ ?_; (focus ((repeat (first | exact Blk.newG _ _ _ _ (by first | rfl | (simp; done) | (simp; omega)) | with_reducible refine Blk.alloc ?_ _ | with_reducible refine Blk.drew1 ?_)); done)); (focus ((repeat (first | exact own_lit1 _ _ _ 4 _ _ (by first | omega | (simp; done) | (simp; omega)) (by first | rfl | (simp; done) | (simp; omega)) rfl _ rfl | with_reducible refine own_up1 ?_ _ | with_reducible refine own_drew1 ?_)); done)); (focus ((repeat (first | exact own_lit1 _ _ _ 6 _ _ (by first | omega | (simp; done) | (simp; omega)) (by first | rfl | (simp; done) | (simp; omega)) rfl _ rfl | with_reducible refine own_up1 ?_ _ | with_reducible refine own_drew1 ?_)); done)); (focus ((repeat (first | with_reducible exact HBW.out | with_reducible exact Below.refl _ _ | with_reducible refine Below.drew ?_ | (with_reducible refine Below.alloc ?_ (by first | (simp; done) | (have hq := HBW.out.size; simp at hq ⊢; omega)) _) | (with_reducible refine Below.setCell ?_ (by first | (simp; done) | (have hq := HBW.out.size; simp at hq ⊢; omega)) _))); done)); (focus (first | (simp; done) | (simp; omega) | omega)))
        | (refine lim_begin (b1 := w1.heap.size + 1) (b4 := w1.heap.size) ?_ ?_ ?_ ?_ ?_; (focus ((repeat (first | exact Blk.newG _ _ _ _ (by first | rfl | (simp; done) | (simp; omega)) | with_reducible refine Blk.alloc ?_ _ | with_reducible refine Blk.drew1 ?_)); done)); (focus ((repeat (first | exact own_lit1 _ _ _ 4 _ _ (by first | omega | (simp; done) | (simp; omega)) (by first | rfl | (simp; done) | (simp; omega)) rfl _ rfl | with_reducible refine own_up1 ?_ _ | with_reducible refine own_drew1 ?_)); done)); (focus ((repeat (first | exact own_lit1 _ _ _ 6 _ _ (by first | omega | (simp; done) | (simp; omega)) (by first | rfl | (simp; done) | (simp; omega)) rfl _ rfl | with_reducible refine own_up1 ?_ _ | with_reducible refine own_drew1 ?_)); done)); (focus ((repeat (first | with_reducible exact HBW.out | with_reducible exact Below.refl _ _ | with_reducible refine Below.drew ?_ | (with_reducible refine Below.alloc ?_ (by first | (simp; done) | (have hq := HBW.out.size; simp at hq ⊢; omega)) _) | (with_reducible refine Below.setCell ?_ (by first | (simp; done) | (have hq := HBW.out.size; simp at hq ⊢; omega)) _))); done)); (focus (first | (simp; done) | (simp; omega) | omega)))
        | (refine lim_begin (b1 := w1.heap.size + 1) (b4 := w1.heap.size + 1 + 1) ?_ ?_ ?_ ?_ ?_; (focus ((repeat (first | exact Blk.newG _ _ _ _ (by first | rfl | (simp; done) | (simp; omega)) | with_reducible refine Blk.alloc ?_ _ | with_reducible refine Blk.drew1 ?_)); done)); (focus ((repeat (first | exact own_lit1 _ _ _ 4 _ _ (by first | omega | (simp; done) | (simp; omega)) (by first | rfl | (simp; done) | (simp; omega)) rfl _ rfl | with_reducible refine own_up1 ?_ _ | with_reducible refine own_drew1 ?_)); done)); (focus ((repeat (first | exact own_lit1 _ _ _ 6 _ _ (by first | omega | (simp; done) | (simp; omega)) (by first | rfl | (simp; done) | (simp; omega)) rfl _ rfl | with_reducible refine own_up1 ?_ _ | with_reducible refine own_drew1 ?_)); done)); (focus ((repeat (first | with_reducible exact HBW.out | with_reducible exact Below.refl _ _ | with_reducible refine Below.drew ?_ | (with_reducible refine Below.alloc ?_ (by first | (simp; done) | (have hq := HBW.out.size; simp at hq ⊢; omega)) _) | (with_reducible refine Below.setCell ?_ (by first | (simp; done) | (have hq := HBW.out.size; simp at hq ⊢; omega)) _))); done)); (focus (first | (simp; done) | (simp; omega) | omega)))
        | (refine lim_begin (b1 := w1.heap.size + 1 + 1) (b4 := w1.heap.size) ?_ ?_ ?_ ?_ ?_; (focus ((repeat (first | exact Blk.newG _ _ _ _ (by first | rfl | (simp; done) | (simp; omega)) | with_reducible refine Blk.alloc ?_ _ | with_reducible refine Blk.drew1 ?_)); done)); (focus ((repeat (first | exact own_lit1 _ _ _ 4 _ _ (by first | omega | (simp; done) | (simp; omega)) (by first | rfl | (simp; done) | (simp; omega)) rfl _ rfl | with_reducible refine own_up1 ?_ _ | with_reducible refine own_drew1 ?_)); done)); (focus ((repeat (first | exact own_lit1 _ _ _ 6 _ _ (by first | omega | (simp; done) | (simp; omega)) (by first | rfl | (simp; done) | (simp; omega)) rfl _ rfl | with_reducible refine own_up1 ?_ _ | with_reducible refine own_drew1 ?_)); done)); (focus ((repeat (first | with_reducible exact HBW.out | with_reducible exact Below.refl _ _ | with_reducible refine Below.drew ?_ | (with_reducible refine Below.alloc ?_ (by first | (simp; done) | (have hq := HBW.out.size; simp at hq ⊢; omega)) _) | (with_reducible refine Below.setCell ?_ (by first | (simp; done) | (have hq := HBW.out.size; simp at hq ⊢; omega)) _))); done)); (focus (first | (simp; done) | (simp; omega) | omega)))
        | (refine lim_begin (b1 := w1.heap.size + 1 + 1) (b4 := w1.heap.size + 1) ?_ ?_ ?_ ?_ ?_; (focus ((repeat (first | exact Blk.newG _ _ _ _ (by first | rfl | (simp; done) | (simp; omega)) | with_reducible refine Blk.alloc ?_ _ | with_reducible refine Blk.drew1 ?_)); done)); (focus ((repeat (first | exact own_lit1 _ _ _ 4 _ _ (by first | omega | (simp; done) | (simp; omega)) (by first | rfl | (simp; done) | (simp; omega)) rfl _ rfl | with_reducible refine own_up1 ?_ _ | with_reducible refine own_drew1 ?_)); done)); (focus ((repeat (first | exact own_lit1 _ _ _ 6 _ _ (by first | omega | (simp; done) | (simp; omega)) (by first | rfl | (simp; done) | (simp; omega)) rfl _ rfl | with_reducible refine own_up1 ?_ _ | with_reducible refine own_drew1 ?_)); done)); (focus ((repeat (first | with_reducible exact HBW.out | with_reducible exact Below.refl _ _ | with_reducible refine Below.drew ?_ | (with_reducible refine Below.alloc ?_ (by first | (simp; done) | (have hq := HBW.out.size; simp at hq ⊢; omega)) _) | (with_reducible refine Below.setCell ?_ (by first | (simp; done) | (have hq := HBW.out.size; simp at hq ⊢; omega)) _))); done)); (focus (first | (simp; done) | (simp; omega) | omega)))
        | fail
  case rest =>
  obtain ⟨gx, b1, b4, rfl, HY⟩ := hcut
  obtain ⟨WC, rfl⟩ : ∃ WC, WC = wc := ⟨_, rfl⟩
  clear hmk1 hmk4 HB1 hsz1
  obtain ⟨V, hmk, hbV, hoV⟩ := makePar 64 (by decide) WC
  have hmk2 : (Instr.makeSlice 23 (.int .i64 64) (.int .i64 64)).run Tryz.prog WC = .ok (.slice (some ⟨WC.heap.size, 0, none⟩) 64 64) V := hmk
  obtain ⟨K, hK⟩ : ∃ K, K = List.replicate 64 par0 := ⟨_, rfl⟩
  have hKl : K.length = 64 := by rw [hK, List.length_replicate]
  have HK := Lib.hid hK
  rw [← hK] at hoV
  have HYV := Lib.hid (HY.out.up hbV)
  have HY2 := Lib.hid (YSt.app1 (P' := K) (v' := .slice (some ⟨WC.heap.size, 0, none⟩) 64 64) HYV.out (Below.refl _ _) (off_new _ (Below.refl _ _)) (by rw [hKl]; exact own_lessC hoV HY.out.hB))
  have bq := HYV.out.box.cell 1
  have bf := HYV.out.box.frozen 1
  have bz := HYV.out.box.lt
  simp at bq
  have HKL := Lib.hid hKl
  generalize WC.heap.size = bk at *
  clear hmk hbV hoV hK hKl HY HYV
  go_upto_region 16 with (fail)
  clear hmk2 bq bf bz
  generalize V.setCell ⟨gx, 1, none⟩ (.slice (some ⟨bk, 0, none⟩) 64 64) = W2 at *
  have HL0 : Hid (YSt w.heap.size gx w W2 0 (.slice (some ⟨bk, 0, none⟩) 64 64) (.slice none 0 0) (.slice none 0 0) (.slice (some ⟨b4, 0, none⟩) 1 1) (.slice none 0 0) (halfR 64 0 parX par0) [] [] (halfR 1 0 prtX prt0) []) := by rw [halfR_zero, halfR_zero, ← HK.out]; exact HY2
  clear HY2
  have y1 := HL0.out.box.cell 1
  have yz := HL0.out.box.lt
  simp at y1
  go_wp2_with fail
  clear y1 yz
  go_loopw [51] (fun i wr => ∃ k : Nat, k ≤ 64 ∧ i = .int .i64 k ∧ Hid (YSt w.heap.size gx w wr 0 (.slice (some ⟨bk, 0, none⟩) 64 64) (.slice none 0 0) (.slice none 0 0) (.slice (some ⟨b4, 0, none⟩) 1 1) (.slice none 0 0) (halfR 64 k parX par0) [] [] (halfR 1 0 prtX prt0) [])) (fun i _ => 64 - (intOf i).toNat)
  case atStart => exact ⟨0, Nat.zero_le _, rfl, HL0⟩
  case round =>
    clear HL0
    obtain ⟨k, hk, rfl, HL⟩ := hrel
    have y1 := HL.out.box.cell 1
    have yz := HL.out.box.lt
    simp at y1
    by_cases hlt : k < 64
    · have g0 := own_at0 Par.cells 4 (fun _ => rfl) HL.out.o1 (halfR_len hk parX par0).symm (halfR_at hlt parX par0) 1 _ rfl (by decide)
      have f0 := World.ownsRow.frozenAt (show wr.ownsRow w.heap.size 36 4 (.slice (some ⟨bk, 0, none⟩) 64 64) 64 ((halfR 64 k parX par0).flatMap Par.cells) from by have h := HL.out.o1; rwa [halfR_len hk] at h) (k * 4 + 1)
      have HN := Lib.hid (YSt.nam1 HL.out (halfR_len hk parX par0).symm (halfR_at hlt parX par0) ⟨#[120]⟩)
      rw [parX_set hlt] at HN
      have k0 : (0 : Int) ≤ (k : Int) := by omega
      have k1 : (k : Int) < 64 := by omega
      go_wp2
      go_roundw
      case rel => exact ⟨k + 1, by omega, by go_num, HN⟩
      case measure => simp [intOf]; omega
    · obtain rfl : k = 64 := by omega
      have y4 := HL.out.box.cell 4
      simp at y4
      go_wp2_with fail
      clear y1 yz y4
      go_loopw [63] (fun i wr => ∃ k : Nat, k ≤ 1 ∧ i = .int .i64 k ∧ Hid (YSt w.heap.size gx w wr 0 (.slice (some ⟨bk, 0, none⟩) 64 64) (.slice none 0 0) (.slice none 0 0) (.slice (some ⟨b4, 0, none⟩) 1 1) (.slice none 0 0) (halfR 64 64 parX par0) [] [] (halfR 1 k prtX prt0) [])) (fun i _ => 1 - (intOf i).toNat)
      case atStart => exact ⟨0, Nat.zero_le _, rfl, HL⟩
      case round =>
        clear HL
        obtain ⟨k, hk, rfl, HL⟩ := hrel
        have y4 := HL.out.box.cell 4
        have yz := HL.out.box.lt
        simp at y4
        by_cases hlt : k < 1
        · have g0 := own_at0 Prt.cells 6 (fun _ => rfl) HL.out.o4 (halfR_len hk prtX prt0).symm (halfR_at hlt prtX prt0) 2 _ rfl (by decide)
          have f0 := World.ownsRow.frozenAt (show wr.ownsRow w.heap.size 43 6 (.slice (some ⟨b4, 0, none⟩) 1 1) 1 ((halfR 1 k prtX prt0).flatMap Prt.cells) from by have h := HL.out.o4; rwa [halfR_len hk] at h) (k * 6 + 2)
          have HN := Lib.hid (YSt.nam4 HL.out (halfR_len hk prtX prt0).symm (halfR_at hlt prtX prt0) ⟨#[120]⟩)
          rw [prtX_set hlt] at HN
          have k0 : (0 : Int) ≤ (k : Int) := by omega
          have k1 : (k : Int) < 1 := by omega
          go_wp2
          go_roundw
          case rel => exact ⟨k + 1, by omega, by go_num, HN⟩
          case measure => simp [intOf]; omega
        · obtain rfl : k = 1 := by omega
          clear y4 yz
          have HF : Hid (YSt w.heap.size gx w wr 0 (.slice (some ⟨bk, 0, none⟩) 64 64) (.slice none 0 0) (.slice none 0 0) (.slice (some ⟨b4, 0, none⟩) 1 1) (.slice none 0 0) (List.replicate 64 parX) [] [] (List.replicate 1 prtX) []) := by
            have h := HL
            rw [halfR_end, halfR_end] at h
            exact h
          clear HL
          have E1 := Lib.hid (show 64 = (flatC 64 0 0 1 []).parts.length from by show _ = (List.replicate 64 parX).length; rw [List.length_replicate])
          have E2 := Lib.hid (show 0 = (flatC 64 0 0 1 []).wins.length from by show _ = (List.replicate 0 win0).length; rw [List.length_replicate])
          have E3 := Lib.hid (show 0 = (flatC 64 0 0 1 []).regs.length from by show _ = (List.replicate 0 reg0).length; rw [List.length_replicate])
          have E4 := Lib.hid (show 1 = (flatC 64 0 0 1 []).ports.length from by show _ = (List.replicate 1 prtX).length; rw [List.length_replicate])
          have E5 := Lib.hid (show 0 = (flatC 64 0 0 1 []).chans.length from by rfl)
          obtain ⟨x, hx⟩ : ∃ x, x = flatC 64 0 0 1 [] := ⟨_, rfl⟩
          have HX := Lib.hid hx
          have HC0 := Lib.hid (show chkBad x = (0, 0, 0) from by rw [hx]; exact full_ok (s := 1) (m := 64) (.inl ⟨rfl, rfl, rfl, rfl, rfl, rfl⟩) rfl)
          have HT0 := Lib.hid (show x.total ≤ 4194304 from by rw [hx]; exact full_tot (s := 1) (m := 64) (.inl ⟨rfl, rfl, rfl, rfl, rfl, rfl⟩) (by decide))
          have HBX := Lib.hid (YSt.cfg HF.out (x := x) (by rw [hx]; rfl) (by rw [HX.out]; exact E1.out) (by rw [HX.out]; exact E2.out) (by rw [HX.out]; exact E3.out) (by rw [HX.out]; exact E4.out) (by rw [HX.out]; exact E5.out))
          clear hx
          obtain ⟨z0, z1, z2, z3, z4, z5⟩ := (show wr.cell? ⟨gx, 0, none⟩ = some (.int .u64 0) ∧ wr.cell? ⟨gx, 1, none⟩ = some (.slice (some ⟨bk, 0, none⟩) 64 64) ∧ wr.cell? ⟨gx, 2, none⟩ = some (.slice none 0 0) ∧ wr.cell? ⟨gx, 3, none⟩ = some (.slice none 0 0) ∧ wr.cell? ⟨gx, 4, none⟩ = some (.slice (some ⟨b4, 0, none⟩) 1 1) ∧ wr.cell? ⟨gx, 5, none⟩ = some (.slice none 0 0) from by
            have y0 := HF.out.box.cell 0
            have y1 := HF.out.box.cell 1
            have y2 := HF.out.box.cell 2
            have y3 := HF.out.box.cell 3
            have y4 := HF.out.box.cell 4
            have y5 := HF.out.box.cell 5
            simp at y0 y1 y2 y3 y4 y5
            exact ⟨y0, y1, y2, y3, y4, y5⟩)
          have yz := HF.out.box.lt
          go_wp2_with fail
          refine (confCheckN x (some ⟨bk, 0, none⟩) none none (some ⟨b4, 0, none⟩) none 64 0 0 1 0 64 0 0 1 0 0 (by rw [HX.out]; rfl) (by rw [HX.out]; exact E1.out) (by rw [HX.out]; exact E2.out) (by rw [HX.out]; exact E3.out) (by rw [HX.out]; exact E4.out) (by rw [HX.out]; exact E5.out) wr HBX.out HT0.out 0 0 0 HC0).mono ?_
          rintro e w5 ⟨rfl, hbw5⟩
          have HY5 := Lib.hid (HF.out.up hbw5)
          clear hbw5 z0 z1 z2 z3 z4 z5 yz HF HBX HC0 HT0 HX E1 E2 E3 E4 E5
          obtain ⟨PP, hPP⟩ : ∃ PP, PP = List.replicate 64 parX := ⟨_, rfl⟩
          have HPL := Lib.hid (show PP.length = 64 by rw [hPP, List.length_replicate])
          have HP0 := Lib.hid (show PP[0]? = some parX by rw [hPP, List.getElem?_replicate, if_pos (by decide)])
          have HPP := Lib.hid hPP
          rw [← hPP] at HY5
          clear hPP
          have HO5 := Lib.hid (show w5.ownsRow w.heap.size 36 4 (.slice (some ⟨bk, 0, none⟩) 64 64) 64 (PP.flatMap Par.cells) from by
            have h := HY5.out.o1
            rwa [HPL.out] at h)
          have hbk5 : bk < w5.heap.size := by
            obtain ⟨g, cap, h, _, hlt⟩ := HO5.out.form (by decide)
            injection h with h
            injection h with h
            injection h with h
            omega
          obtain ⟨i0, hi0, hq0, hq1, hq2⟩ := info_parts infoPartition
          go_upto_region 31 with (fail)
          refine wp_region_A 86 9 6 7 _ rfl rfl (by kernel_rfl) (by kernel_rfl) (by kernel_rfl) (by kernel_rfl) (by kernel_rfl) (Nat.le_of_ble_eq_true (by kernel_rfl)) (by decide) (by decide) (by decide) rfl
            (fun i => i == 0 || i == 2 || i == 8) ?hanc
            [.pointer (some ⟨gx, 1, none⟩), (.slice (some ⟨bk, 0, none⟩) 64 64), .pointer (some ⟨gx, 1, none⟩), (.slice (some ⟨bk, 0, none⟩) 64 64), .pointer (some ⟨bk, 0, none⟩), .agg #[.int .u16 0, .string ⟨#[120]⟩, .int .u64 0, .int .u64 0], undef, undef, .pointer (some ⟨gx, 1, none⟩)]
            (fun v U => ∃ g, v = .slice (some ⟨g, 0, none⟩) 1 1 ∧ w5.heap.size ≤ g ∧ Blk U g 36 #[.int .u16 0, .string ⟨#[120]⟩, .int .u64 0, .int .u64 0])
            (fun v U => ∃ VA vc, v = .slice VA (64 + 1) vc ∧ U.ownsRow w.heap.size 36 4 v (64 + 1) (PP.flatMap Par.cells ++ [.int .u16 0, .string ⟨#[120]⟩, .int .u64 0, .int .u64 0]) ∧ ∃ W1, Below w5.heap.size w5 W1 ∧ Off 36 W1 U ∧ Below w.heap.size W1 U)
            (fun U => Blk U gx 29 #[.int .u64 0, .slice (some ⟨bk, 0, none⟩) 64 64, .slice none 0 0, .slice none 0 0, .slice (some ⟨b4, 0, none⟩) 1 1, .slice none 0 0] ∧ w5.heap.size ≤ U.heap.size)
            (fun U => Below w5.heap.size w5 U)
            (fun U U' => U.grownBy U' (Value.ownBlock (.slice (some ⟨bk, 0, none⟩) 64 64)))
            ((Below.refl _ _).drew) (fun U hU => ⟨HY5.out.box.below hU HY5.out.box.lt, hU.size⟩)
            (fun v U U' ⟨g, h1, h2, h3⟩ hb => ⟨g, h1, h2, h3.below hb h3.lt⟩)
            (fun v U U' ⟨VA, vc, h1, h2, W1, h3, h4, h5⟩ hb => ⟨VA, vc, h1, own_below h2 hb, W1, h3, off_below h4 hb, h5.trans (hb.mono (Nat.le_trans (Nat.le_trans HY5.out.hB h3.size) h5.size))⟩)
            (fun v U U' hU ⟨g, h1, h2, h3⟩ hg => ⟨g, h1, h2, (hg.block g h3.lt (fun e => by
              have e2 : bk = g := by injection e with e; exact e.symm
              omega)).trans h3⟩)
            ?hpure ?hlit ?happ (fun o ho => by cases ho; exact ⟨{ on := 6, ground := .data }, by simp, rfl, rfl⟩) ?hend
          case hanc =>
            intro l hc h7 i hi hF h2
            have h6 := hc 7 _ rfl h7 { on := 6, ground := .data } (by simp) rfl
            have h1 := hc 7 _ rfl h7 { on := 1, ground := .data } (by simp) rfl
            have h5 := hc 6 _ rfl h6 { on := 5, ground := .data } (by simp) rfl
            have h4 := hc 5 _ rfl h5 { on := 4, ground := .data } (by simp) rfl
            have h3 := hc 4 _ rfl h4 { on := 3, ground := .data } (by simp) rfl
            match i, hi, hF, h2 with
            | 0, _, hF, _ => cases hF
            | 1, _, _, _ => exact h1
            | 2, _, hF, _ => cases hF
            | 3, _, _, _ => exact h3
            | 4, _, _, _ => exact h4
            | 5, _, _, _ => exact h5
            | 6, _, _, _ => exact h6
            | 7, _, _, h2 => exact absurd rfl h2
            | 8, _, hF, _ => cases hF
            | t + 9, hi, _, _ => omega
          case hpure =>
            intro q o ho hq h1 h2 U hE ρ r0 r1 r2
            match q, ho, hE with
            | 0, ho, _ =>
              cases ho
              have e := r1 5 (by decide)
              simp only [execOp]
              go_simp
            | 1, ho, hE =>
              cases ho
              have e : ρ (.tmp 86) = _ := r2 { on := 0, ground := .data } (by simp) rfl (by decide) (by decide)
              have y := (HY5.out.box.below (hE rfl) HY5.out.box.lt).cell 1
              simp at y
              simp only [execOp]
              go_simp
            | 2, ho, _ =>
              cases ho
              have e := r1 5 (by decide)
              simp only [execOp]
              go_simp
            | 3, ho, hE =>
              cases ho
              have e : ρ (.tmp 88) = _ := r2 { on := 2, ground := .data } (by simp) rfl (by decide) (by decide)
              have y := (HY5.out.box.below (hE rfl) HY5.out.box.lt).cell 1
              simp at y
              simp only [execOp]
              go_simp
            | 4, ho, hE =>
              cases ho
              have e : ρ (.tmp 89) = _ := r2 { on := 3, ground := .data } (by simp) rfl (by decide) (by decide)
              simp only [execOp]
              go_simp
            | 5, ho, hE =>
              cases ho
              have e : ρ (.tmp 90) = _ := r2 { on := 4, ground := .data } (by simp) rfl (by decide) (by decide)
              have hUo := own_below HY5.out.o1 (hE rfl)
              have g0 : U.cell? ⟨bk, 0, none⟩ = some (.int .u16 0) := own_at0 Par.cells 4 (fun _ => rfl) hUo HPL.out.symm HP0.out 0 (.int .u16 0) rfl (by decide)
              have g1 : U.cell? ⟨bk, 1, none⟩ = some (.string ⟨#[120]⟩) := own_at0 Par.cells 4 (fun _ => rfl) hUo HPL.out.symm HP0.out 1 (.string ⟨#[120]⟩) rfl (by decide)
              have g2 : U.cell? ⟨bk, 2, none⟩ = some (.int .u64 0) := own_at0 Par.cells 4 (fun _ => rfl) hUo HPL.out.symm HP0.out 2 (.int .u64 0) rfl (by decide)
              have g3 : U.cell? ⟨bk, 3, none⟩ = some (.int .u64 0) := own_at0 Par.cells 4 (fun _ => rfl) hUo HPL.out.symm HP0.out 3 (.int .u64 0) rfl (by decide)
              clear hUo
              simp only [execOp]
              go_simp
            | 6, _, _ => exact absurd rfl h1
            | 7, _, _ => exact absurd rfl h2
            | 8, ho, _ =>
              cases ho
              have e := r1 5 (by decide)
              simp only [execOp]
              go_simp
            | t + 9, ho, _ => omega
          case hlit =>
            intro o ho U hE ρ r0 r2
            cases ho
            have e : ρ (.tmp 91) = _ := r2 { on := 5, ground := .data } (by simp) rfl (by decide)
            refine ⟨.slice (some ⟨U.heap.size, 0, none⟩) 1 1, U.alloc (.cells #[.int .u16 0, .string ⟨#[120]⟩, .int .u64 0, .int .u64 0] 36), ?_, ⟨hE.1.alloc _, by have := hE.2; simp; omega⟩, fun hS => hS.alloc hE.2 _, below_one _ _, U.heap.size, rfl, hE.2, Blk.new _ _ _⟩
            simp only [execOp]
            go_simp
          case happ =>
            intro o ho U v hE ⟨g, hv, hg, hbk⟩ ρ r1 r2
            cases ho
            subst hv
            have e : ρ (.tmp 87) = (.slice (some ⟨bk, 0, none⟩) 64 64) := r2 { on := 1, ground := .data } (by simp) rfl (by decide)
            have r3 : ρ (.tmp 92) = .slice (some ⟨g, 0, none⟩) 1 1 := r1
            have hown := own_below HO5.out hE
            have hszU : w.heap.size ≤ U.heap.size := Nat.le_trans HY5.out.hB hE.size
            obtain ⟨v', w', hrun, h2, h3⟩ := run_append_rd (P := Tryz.prog) U w.heap.size 23 23 36 i0 (.agg #[.int .u16 0, .string .empty, .int .u64 0, .int .u64 0]) 4 40 Tryz.underlying23 hi0 hq0 hq1 hq2 rfl (by decide) _ 64 _ hown U.heap.size (some ⟨g, 0, none⟩) 1 1 [.int .u16 0, .string ⟨#[120]⟩, .int .u64 0, .int .u64 0] (rd_block hbk rfl) (onePar [parX]) (by unfold maxLen; omega) (by omega) hszU
            have hof := Off.of_own hown h3
            obtain ⟨VA, vc, rfl, _⟩ := own_form h2
            refine ⟨_, w', ?_, ⟨(HY5.out.box.below hE HY5.out.box.lt).off hof (by decide), Nat.le_trans hE.size h3.size⟩, h3, VA, vc, rfl, h2, U, hE, hof, below_own (Below.refl w.heap.size U) h3 hown hszU⟩
            simp only [List.getElem_toArray, List.getElem_cons_succ, List.getElem_cons_zero, execOp, resolve, invoke, builtin, Sem.run_bind, Sem.run_pure, Result.andThen_ok, List.map_toArray, List.map_cons, List.map_nil, e, r3, hrun]
          case hend =>
            intro u U hE ⟨VA, vc, hu, hq, W1, hc, hof, hb4⟩ hcs ρ r0 r1 r2
            have hYW := HY5.out.up hc
            have HYN := Lib.hid (YSt.app1 (P' := PP ++ [parX]) (v' := .slice VA (64 + 1) vc) hYW hb4 hof (by rw [← hu, List.length_append, HPL.out, List.flatMap_append]; exact hq))
            have b0 := hE.1.cell 1
            have bf := hE.1.frozen 1
            have bz := hE.1.lt
            simp at b0
            have e1 : ρ (.tmp 93) = .slice VA (64 + 1) vc := (r2 7 (by decide)).trans hu
            have e2 : ρ (.tmp 94) = _ := (r2 8 (by decide)).trans (hcs 8 (by decide) (by decide) (by decide))
            refine ⟨U.setCell ⟨gx, 1, none⟩ (.slice VA (64 + 1) vc), by simp only [execOp]; go_simp, ?_⟩
            simp only [mkAt, List.take_succ_cons, List.take_zero, List.drop_succ_cons, List.drop_zero, List.range, List.range.loop, List.map_cons, List.map_nil, List.cons_append, List.nil_append]
            clear b0 bf bz hq hof hc e1 e2 hYW hb4 hE hu hcs HY5 HO5
            go_wp2_with fail
            refine (alive_ok _).mono ?_
            rintro e w7 ⟨rfl, hb7⟩
            have HY7 := Lib.hid (HYN.out.up hb7)
            clear hb7 HYN
            have E1 := Lib.hid (show 65 = (flatC 65 0 0 1 []).parts.length from by show _ = (List.replicate 65 parX).length; rw [List.length_replicate])
            have E2 := Lib.hid (show 0 = (flatC 65 0 0 1 []).wins.length from by show _ = (List.replicate 0 win0).length; rw [List.length_replicate])
            have E3 := Lib.hid (show 0 = (flatC 65 0 0 1 []).regs.length from by show _ = (List.replicate 0 reg0).length; rw [List.length_replicate])
            have E4 := Lib.hid (show 1 = (flatC 65 0 0 1 []).ports.length from by show _ = (List.replicate 1 prtX).length; rw [List.length_replicate])
            have E5 := Lib.hid (show 0 = (flatC 65 0 0 1 []).chans.length from by rfl)
            obtain ⟨x, hx⟩ : ∃ x, x = flatC 65 0 0 1 [] := ⟨_, rfl⟩
            have HX := Lib.hid hx
            have HC0 := Lib.hid (show chkBad x = (7, 1, 64) from by rw [hx]; exact more_bad (s := 1) (m := 64) (.inl ⟨rfl, rfl, rfl, rfl, rfl, rfl⟩) rfl)
            have HT0 := Lib.hid (show x.total ≤ 4194304 from by rw [hx]; exact more_tot (s := 1) (m := 64) (.inl ⟨rfl, rfl, rfl, rfl, rfl, rfl⟩) (by decide))
            have HBX := Lib.hid (YSt.cfg HY7.out (x := x) (by rw [hx, HPP.out]; rw [show List.replicate 64 parX ++ [parX] = List.replicate 65 parX from (List.replicate_succ').symm]; rfl) (by rw [HX.out]; exact E1.out) (by rw [HX.out]; exact E2.out) (by rw [HX.out]; exact E3.out) (by rw [HX.out]; exact E4.out) (by rw [HX.out]; exact E5.out))
            clear hx
            obtain ⟨z0, z1, z2, z3, z4, z5⟩ := (show w7.cell? ⟨gx, 0, none⟩ = some (.int .u64 0) ∧ w7.cell? ⟨gx, 1, none⟩ = some (.slice VA (64 + 1) vc) ∧ w7.cell? ⟨gx, 2, none⟩ = some (.slice none 0 0) ∧ w7.cell? ⟨gx, 3, none⟩ = some (.slice none 0 0) ∧ w7.cell? ⟨gx, 4, none⟩ = some (.slice (some ⟨b4, 0, none⟩) 1 1) ∧ w7.cell? ⟨gx, 5, none⟩ = some (.slice none 0 0) from by
              have y0 := HY7.out.box.cell 0
              have y1 := HY7.out.box.cell 1
              have y2 := HY7.out.box.cell 2
              have y3 := HY7.out.box.cell 3
              have y4 := HY7.out.box.cell 4
              have y5 := HY7.out.box.cell 5
              simp at y0 y1 y2 y3 y4 y5
              exact ⟨y0, y1, y2, y3, y4, y5⟩)
            have yz := HY7.out.box.lt
            go_wp2_with fail
            refine (confCheckN x VA none none (some ⟨b4, 0, none⟩) none vc 0 0 1 0 65 0 0 1 0 0 (by rw [HX.out]; rfl) (by rw [HX.out]; exact E1.out) (by rw [HX.out]; exact E2.out) (by rw [HX.out]; exact E3.out) (by rw [HX.out]; exact E4.out) (by rw [HX.out]; exact E5.out) w7 HBX.out HT0.out 7 1 64 HC0).mono ?_
            rintro e w8 ⟨rfl, hbw8⟩
            have HZ := Lib.hid (Below.then_ HY7.out.bel hbw8)
            clear hbw8 z0 z1 z2 z3 z4 z5 yz HBX HC0 HT0 HX E1 E2 E3 E4 E5
            go_wp2
            go_ret
            exact ⟨rfl, HZ.out⟩
set_option maxRecDepth 100000 in
set_option maxHeartbeats 16000000 in
theorem lim2_ok (sec : Int) (h0 : 0 ≤ sec) (h1 : sec ≤ 255) (hm : sec % 6 = 1) (w : World) : Calls Tryz.prog 8 #[.int .u8 sec] w fun e w' => e = .returned (.bool true) ∧ Below w.heap.size w w' := by
  have hmk1 := mkPar1
  have hmk4 := mkPrt1
  have hs1 : 1 + sec % 6 = 2 := by omega
  go_enter Tryz.func8, Tryz.ntmps8
  go_wp2_with fail
  refine (limit2_ok _).mono ?_
  rintro e w1 ⟨rfl, hb1⟩
  have HB1 := Lib.hid hb1
  have hsz1 := hb1.size
  clear hb1
  go_upto_region 3 with (fail)
  go_cut [5] (fun t wx => ∃ gx b1 b4, t = .pointer (some ⟨gx, 0, none⟩) ∧ Hid (YSt w.heap.size gx w wx 0 (.slice (some ⟨b1, 0, none⟩) 1 1) (.slice none 0 0) (.slice none 0 0) (.slice (some ⟨b4, 0, none⟩) 1 1) (.slice none 0 0) (List.replicate 1 par0) [] [] (List.replicate 1 prt0) []))
  case first =>
    have HBW := HB1
    go_region
    all_goals
      go_wp2_with fail
      go_meet
      case rel =>
        first
        | (refine lim_begin (b1 := w1.heap.size) (b4 := w1.heap.size + 1) ?_ ?_ ?_ ?_ ?_; (focus ((repeat (first | exact Blk.newG _ _ _ _ (by first | rfl | (simp; done) | (simp; omega)) | with_reducible refine Blk.alloc ?_ _ | with_reducible refine Blk.drew1 ?_)); done)); (focus ((repeat (first | exact own_lit1 _ _ _ 4 _ _ (by first | omega | (simp; done) | (simp; omega)) (by first | rfl | (simp; done) | (simp; omega)) rfl _ rfl | with_reducible refine own_up1 ?_ _ | with_reducible refine own_drew1 ?_)); done)); (focus ((repeat (first | exact own_lit1 _ _ _ 6 _ _ (by first | omega | (simp; done) | (simp; omega)) (by first | rfl | (simp; done) | (simp; omega)) rfl _ rfl | with_reducible refine own_up1 ?_ _ | with_reducible refine own_drew1 ?_)); done)); (focus ((repeat (first | with_reducible exact HBW.out | with_reducible exact Below.refl _ _ | with_reducible refine Below.drew ?_ | (with_reducible refine Below.alloc ?_ (by first | (simp; done) | (have hq := HBW.out.size; simp at hq ⊢; omega)) _) | (with_reducible refine Below.setCell ?_ (by first | (simp; done) | (have hq := HBW.out.size; simp at hq ⊢; omega)) _))); done)); (focus (first | (simp; done) | (simp; omega) | omega)))
        | (refine lim_begin (b1 := w1.heap.size) (b4 := w1.heap.size + 1 + 1) ?_ ?_ ?_ ?_ ?_; (focus ((repeat (first | exact Blk.newG _ _ _ _ (by first | rfl | (simp; done) | (simp; omega)) | with_reducible refine Blk.alloc ?_ _ | with_reducible refine Blk.drew1 ?_)); done)); (focus ((repeat (first | exact own_lit1 _ _ _ 4 _ _ (by first | omega | (simp; done) | (simp; omega)) (by first | rfl | (simp; done) | (simp; omega)) rfl _ rfl | with_reducible refine own_up1 ?_ _ | with_reducible refine own_drew1 ?_)); done)); (focus ((repeat (first | exact own_lit1 _ _ _ 6 _ _ (by first | omega | (simp; done) | (simp; omega)) (by first | rfl | (simp; done) | (simp; omega)) rfl _ rfl | with_reducible refine own_up1 ?_ _ | with_reducible refine own_drew1 ?_)); done)); (focus ((repeat (first | with_reducible exact HBW.out | with_reducible exact Below.refl _ _ | with_reducible refine Below.drew ?_ | (with_reducible refine Below.alloc ?_ (by first | (simp; done) | (have hq := HBW.out.size; simp at hq ⊢; omega)) _) | (with_reducible refine Below.setCell ?_ (by first | (simp; done) | (have hq := HBW.out.size; simp at hq ⊢; omega)) _))); done)); (focus (first | (simp; done) | (simp; omega) | omega)))
        | (refine lim_begin (b1 := w1.heap.size + 1) (b4 := w1.heap.size) ?_ ?_ ?_ ?_ ?_; (focus ((repeat (first | exact Blk.newG _ _ _ _ (by first | rfl | (simp; done) | (simp; omega)) | with_reducible refine Blk.alloc ?_ _ | with_reducible refine Blk.drew1 ?_)); done)); (focus ((repeat (first | exact own_lit1 _ _ _ 4 _ _ (by first | omega | (simp; done) | (simp; omega)) (by first | rfl | (simp; done) | (simp; omega)) rfl _ rfl | with_reducible refine own_up1 ?_ _ | with_reducible refine own_drew1 ?_)); done)); (focus ((repeat (first | exact own_lit1 _ _ _ 6 _ _ (by first | omega | (simp; done) | (simp; omega)) (by first | rfl | (simp; done) | (simp; omega)) rfl _ rfl | with_reducible refine own_up1 ?_ _ | with_reducible refine own_drew1 ?_)); done)); (focus ((repeat (first | with_reducible exact HBW.out | with_reducible exact Below.refl _ _ | with_reducible refine Below.drew ?_ | (with_reducible refine Below.alloc ?_ (by first | (simp; done) | (have hq := HBW.out.size; simp at hq ⊢; omega)) _) | (with_reducible refine Below.setCell ?_ (by first | (simp; done) | (have hq := HBW.out.size; simp at hq ⊢; omega)) _))); done)); (focus (first | (simp; done) | (simp; omega) | omega)))
        | (refine lim_begin (b1 := w1.heap.size + 1) (b4 := w1.heap.size + 1 + 1) ?_ ?_ ?_ ?_ ?_; (focus ((repeat (first | exact Blk.newG _ _ _ _ (by first | rfl | (simp; done) | (simp; omega)) | with_reducible refine Blk.alloc ?_ _ | with_reducible refine Blk.drew1 ?_)); done)); (focus ((repeat (first | exact own_lit1 _ _ _ 4 _ _ (by first | omega | (simp; done) | (simp; omega)) (by first | rfl | (simp; done) | (simp; omega)) rfl _ rfl | with_reducible refine own_up1 ?_ _ | with_reducible refine own_drew1 ?_)); done)); (focus ((repeat (first | exact own_lit1 _ _ _ 6 _ _ (by first | omega | (simp; done) | (simp; omega)) (by first | rfl | (simp; done) | (simp; omega)) rfl _ rfl | with_reducible refine own_up1 ?_ _ | with_reducible refine own_drew1 ?_)); done)); (focus ((repeat (first | with_reducible exact HBW.out | with_reducible exact Below.refl _ _ | with_reducible refine Below.drew ?_ | (with_reducible refine Below.alloc ?_ (by first | (simp; done) | (have hq := HBW.out.size; simp at hq ⊢; omega)) _) | (with_reducible refine Below.setCell ?_ (by first | (simp; done) | (have hq := HBW.out.size; simp at hq ⊢; omega)) _))); done)); (focus (first | (simp; done) | (simp; omega) | omega)))
        | (refine lim_begin (b1 := w1.heap.size + 1 + 1) (b4 := w1.heap.size) ?_ ?_ ?_ ?_ ?_; (focus ((repeat (first | exact Blk.newG _ _ _ _ (by first | rfl | (simp; done) | (simp; omega)) | with_reducible refine Blk.alloc ?_ _ | with_reducible refine Blk.drew1 ?_)); done)); (focus ((repeat (first | exact own_lit1 _ _ _ 4 _ _ (by first | omega | (simp; done) | (simp; omega)) (by first | rfl | (simp; done) | (simp; omega)) rfl _ rfl | with_reducible refine own_up1 ?_ _ | with_reducible refine own_drew1 ?_)); done)); (focus ((repeat (first | exact own_lit1 _ _ _ 6 _ _ (by first | omega | (simp; done) | (simp; omega)) (by first | rfl | (simp; done) | (simp; omega)) rfl _ rfl | with_reducible refine own_up1 ?_ _ | with_reducible refine own_drew1 ?_)); done)); (focus ((repeat (first | with_reducible exact HBW.out | with_reducible exact Below.refl _ _ | with_reducible refine Below.drew ?_ | (with_reducible refine Below.alloc ?_ (by first | (simp; done) | (have hq := HBW.out.size; simp at hq ⊢; omega)) _) | (with_reducible refine Below.setCell ?_ (by first | (simp; done) | (have hq := HBW.out.size; simp at hq ⊢; omega)) _))); done)); (focus (first | (simp; done) | (simp; omega) | omega)))
        | (refine lim_begin (b1 := w1.heap.size + 1 + 1) (b4 := w1.heap.size + 1) ?_ ?_ ?_ ?_ ?_; (focus ((repeat (first | exact Blk.newG _ _ _ _ (by first | rfl | (simp; done) | (simp; omega)) | with_reducible refine Blk.alloc ?_ _ | with_reducible refine Blk.drew1 ?_)); done)); (focus ((repeat (first | exact own_lit1 _ _ _ 4 _ _ (by first | omega | (simp; done) | (simp; omega)) (by first | rfl | (simp; done) | (simp; omega)) rfl _ rfl | with_reducible refine own_up1 ?_ _ | with_reducible refine own_drew1 ?_)); done)); (focus ((repeat (first | exact own_lit1 _ _ _ 6 _ _ (by first | omega | (simp; done) | (simp; omega)) (by first | rfl | (simp; done) | (simp; omega)) rfl _ rfl | with_reducible refine own_up1 ?_ _ | with_reducible refine own_drew1 ?_)); done)); (focus ((repeat (first | with_reducible exact HBW.out | with_reducible exact Below.refl _ _ | with_reducible refine Below.drew ?_ | (with_reducible refine Below.alloc ?_ (by first | (simp; done) | (have hq := HBW.out.size; simp at hq ⊢; omega)) _) | (with_reducible refine Below.setCell ?_ (by first | (simp; done) | (have hq := HBW.out.size; simp at hq ⊢; omega)) _))); done)); (focus (first | (simp; done) | (simp; omega) | omega)))
        | fail
  case rest =>
  obtain ⟨gx, b1, b4, rfl, HY⟩ := hcut
  obtain ⟨WC, rfl⟩ : ∃ WC, WC = wc := ⟨_, rfl⟩
  clear hmk1 hmk4 HB1 hsz1
  obtain ⟨V, hmk, hbV, hoV⟩ := makeWin 1024 (by decide) WC
  have hmk2 : (Instr.makeSlice 24 (.int .i64 1024) (.int .i64 1024)).run Tryz.prog WC = .ok (.slice (some ⟨WC.heap.size, 0, none⟩) 1024 1024) V := hmk
  obtain ⟨K, hK⟩ : ∃ K, K = List.replicate 1024 win0 := ⟨_, rfl⟩
  have hKl : K.length = 1024 := by rw [hK, List.length_replicate]
  have HK := Lib.hid hK
  rw [← hK] at hoV
  have HYV := Lib.hid (HY.out.up hbV)
  have HY2 := Lib.hid (YSt.app2 (N' := K) (v' := .slice (some ⟨WC.heap.size, 0, none⟩) 1024 1024) HYV.out (Below.refl _ _) (off_new _ (Below.refl _ _)) (by rw [hKl]; exact own_lessC hoV HY.out.hB))
  have bq := HYV.out.box.cell 2
  have bf := HYV.out.box.frozen 2
  have bz := HYV.out.box.lt
  simp at bq
  have HKL := Lib.hid hKl
  generalize WC.heap.size = bk at *
  clear hmk hbV hoV hK hKl HY HYV
  go_upto_region 16 with (fail)
  clear hmk2 bq bf bz
  generalize V.setCell ⟨gx, 2, none⟩ (.slice (some ⟨bk, 0, none⟩) 1024 1024) = W2 at *
  have HL0 : Hid (YSt w.heap.size gx w W2 0 (.slice (some ⟨b1, 0, none⟩) 1 1) (.slice (some ⟨bk, 0, none⟩) 1024 1024) (.slice none 0 0) (.slice (some ⟨b4, 0, none⟩) 1 1) (.slice none 0 0) (halfR 1 0 parX par0) K [] (halfR 1 0 prtX prt0) []) := by rw [halfR_zero, halfR_zero]; exact HY2
  clear HY2
  have y1 := HL0.out.box.cell 1
  have yz := HL0.out.box.lt
  simp at y1
  go_wp2_with fail
  clear y1 yz
  go_loopw [51] (fun i wr => ∃ k : Nat, k ≤ 1 ∧ i = .int .i64 k ∧ Hid (YSt w.heap.size gx w wr 0 (.slice (some ⟨b1, 0, none⟩) 1 1) (.slice (some ⟨bk, 0, none⟩) 1024 1024) (.slice none 0 0) (.slice (some ⟨b4, 0, none⟩) 1 1) (.slice none 0 0) (halfR 1 k parX par0) K [] (halfR 1 0 prtX prt0) [])) (fun i _ => 1 - (intOf i).toNat)
  case atStart => exact ⟨0, Nat.zero_le _, rfl, HL0⟩
  case round =>
    clear HL0
    obtain ⟨k, hk, rfl, HL⟩ := hrel
    have y1 := HL.out.box.cell 1
    have yz := HL.out.box.lt
    simp at y1
    by_cases hlt : k < 1
    · have g0 := own_at0 Par.cells 4 (fun _ => rfl) HL.out.o1 (halfR_len hk parX par0).symm (halfR_at hlt parX par0) 1 _ rfl (by decide)
      have f0 := World.ownsRow.frozenAt (show wr.ownsRow w.heap.size 36 4 (.slice (some ⟨b1, 0, none⟩) 1 1) 1 ((halfR 1 k parX par0).flatMap Par.cells) from by have h := HL.out.o1; rwa [halfR_len hk] at h) (k * 4 + 1)
      have HN := Lib.hid (YSt.nam1 HL.out (halfR_len hk parX par0).symm (halfR_at hlt parX par0) ⟨#[120]⟩)
      rw [parX_set hlt] at HN
      have k0 : (0 : Int) ≤ (k : Int) := by omega
      have k1 : (k : Int) < 1 := by omega
      go_wp2
      go_roundw
      case rel => exact ⟨k + 1, by omega, by go_num, HN⟩
      case measure => simp [intOf]; omega
    · obtain rfl : k = 1 := by omega
      have y4 := HL.out.box.cell 4
      simp at y4
      go_wp2_with fail
      clear y1 yz y4
      go_loopw [63] (fun i wr => ∃ k : Nat, k ≤ 1 ∧ i = .int .i64 k ∧ Hid (YSt w.heap.size gx w wr 0 (.slice (some ⟨b1, 0, none⟩) 1 1) (.slice (some ⟨bk, 0, none⟩) 1024 1024) (.slice none 0 0) (.slice (some ⟨b4, 0, none⟩) 1 1) (.slice none 0 0) (halfR 1 1 parX par0) K [] (halfR 1 k prtX prt0) [])) (fun i _ => 1 - (intOf i).toNat)
      case atStart => exact ⟨0, Nat.zero_le _, rfl, HL⟩
      case round =>
        clear HL
        obtain ⟨k, hk, rfl, HL⟩ := hrel
        have y4 := HL.out.box.cell 4
        have yz := HL.out.box.lt
        simp at y4
        by_cases hlt : k < 1
        · have g0 := own_at0 Prt.cells 6 (fun _ => rfl) HL.out.o4 (halfR_len hk prtX prt0).symm (halfR_at hlt prtX prt0) 2 _ rfl (by decide)
          have f0 := World.ownsRow.frozenAt (show wr.ownsRow w.heap.size 43 6 (.slice (some ⟨b4, 0, none⟩) 1 1) 1 ((halfR 1 k prtX prt0).flatMap Prt.cells) from by have h := HL.out.o4; rwa [halfR_len hk] at h) (k * 6 + 2)
          have HN := Lib.hid (YSt.nam4 HL.out (halfR_len hk prtX prt0).symm (halfR_at hlt prtX prt0) ⟨#[120]⟩)
          rw [prtX_set hlt] at HN
          have k0 : (0 : Int) ≤ (k : Int) := by omega
          have k1 : (k : Int) < 1 := by omega
          go_wp2
          go_roundw
          case rel => exact ⟨k + 1, by omega, by go_num, HN⟩
          case measure => simp [intOf]; omega
        · obtain rfl : k = 1 := by omega
          clear y4 yz
          have HF : Hid (YSt w.heap.size gx w wr 0 (.slice (some ⟨b1, 0, none⟩) 1 1) (.slice (some ⟨bk, 0, none⟩) 1024 1024) (.slice none 0 0) (.slice (some ⟨b4, 0, none⟩) 1 1) (.slice none 0 0) (List.replicate 1 parX) K [] (List.replicate 1 prtX) []) := by
            have h := HL
            rw [halfR_end, halfR_end] at h
            exact h
          clear HL
          have E1 := Lib.hid (show 1 = (flatC 1 1024 0 1 []).parts.length from by show _ = (List.replicate 1 parX).length; rw [List.length_replicate])
          have E2 := Lib.hid (show 1024 = (flatC 1 1024 0 1 []).wins.length from by show _ = (List.replicate 1024 win0).length; rw [List.length_replicate])
          have E3 := Lib.hid (show 0 = (flatC 1 1024 0 1 []).regs.length from by show _ = (List.replicate 0 reg0).length; rw [List.length_replicate])
          have E4 := Lib.hid (show 1 = (flatC 1 1024 0 1 []).ports.length from by show _ = (List.replicate 1 prtX).length; rw [List.length_replicate])
          have E5 := Lib.hid (show 0 = (flatC 1 1024 0 1 []).chans.length from by rfl)
          obtain ⟨x, hx⟩ : ∃ x, x = flatC 1 1024 0 1 [] := ⟨_, rfl⟩
          have HX := Lib.hid hx
          have HC0 := Lib.hid (show chkBad x = (0, 0, 0) from by rw [hx]; exact full_ok (s := 2) (m := 1024) (.inr <| .inl ⟨rfl, rfl, rfl, rfl, rfl, rfl⟩) rfl)
          have HT0 := Lib.hid (show x.total ≤ 4194304 from by rw [hx]; exact full_tot (s := 2) (m := 1024) (.inr <| .inl ⟨rfl, rfl, rfl, rfl, rfl, rfl⟩) (by decide))
          have HBX := Lib.hid (YSt.cfg HF.out (x := x) (by rw [hx, HK.out]; rfl) (by rw [HX.out]; exact E1.out) (by rw [HX.out]; exact E2.out) (by rw [HX.out]; exact E3.out) (by rw [HX.out]; exact E4.out) (by rw [HX.out]; exact E5.out))
          clear hx
          obtain ⟨z0, z1, z2, z3, z4, z5⟩ := (show wr.cell? ⟨gx, 0, none⟩ = some (.int .u64 0) ∧ wr.cell? ⟨gx, 1, none⟩ = some (.slice (some ⟨b1, 0, none⟩) 1 1) ∧ wr.cell? ⟨gx, 2, none⟩ = some (.slice (some ⟨bk, 0, none⟩) 1024 1024) ∧ wr.cell? ⟨gx, 3, none⟩ = some (.slice none 0 0) ∧ wr.cell? ⟨gx, 4, none⟩ = some (.slice (some ⟨b4, 0, none⟩) 1 1) ∧ wr.cell? ⟨gx, 5, none⟩ = some (.slice none 0 0) from by
            have y0 := HF.out.box.cell 0
            have y1 := HF.out.box.cell 1
            have y2 := HF.out.box.cell 2
            have y3 := HF.out.box.cell 3
            have y4 := HF.out.box.cell 4
            have y5 := HF.out.box.cell 5
            simp at y0 y1 y2 y3 y4 y5
            exact ⟨y0, y1, y2, y3, y4, y5⟩)
          have yz := HF.out.box.lt
          go_wp2_with fail
          refine (confCheckN x (some ⟨b1, 0, none⟩) (some ⟨bk, 0, none⟩) none (some ⟨b4, 0, none⟩) none 1 1024 0 1 0 1 1024 0 1 0 0 (by rw [HX.out]; rfl) (by rw [HX.out]; exact E1.out) (by rw [HX.out]; exact E2.out) (by rw [HX.out]; exact E3.out) (by rw [HX.out]; exact E4.out) (by rw [HX.out]; exact E5.out) wr HBX.out HT0.out 0 0 0 HC0).mono ?_
          rintro e w5 ⟨rfl, hbw5⟩
          have HY5 := Lib.hid (HF.out.up hbw5)
          clear hbw5 z0 z1 z2 z3 z4 z5 yz HF HBX HC0 HT0 HX E1 E2 E3 E4 E5
          have q0 := HY5.out.box.cell 2
          simp at q0
          have qz := HY5.out.box.lt
          have HYA := Lib.hid (HY5.out.up (below_one w5 (.cells #[.int .u64 0, .int .u64 0, .int .u16 0] 38)))
          have HR3 := Lib.hid (show (w5.alloc (.cells #[.int .u64 0, .int .u64 0, .int .u16 0] 38)).ownsRow w.heap.size 38 3 (.slice (some ⟨bk, 0, none⟩) 1024 1024) 1024 (K.flatMap Win.cells) from by
            have h := HYA.out.o2
            rwa [HKL.out] at h)
          obtain ⟨i0, hi0, hq0, hq1, hq2⟩ := info_parts infoWindow
          have hszw : w.heap.size ≤ w5.heap.size := HY5.out.hB
          go_wp2_with (at_builtin; go_loud ((refine wpList_append_rd _ rfl (.tmp 98) (.tmp 100) _ rfl w.heap.size 38 i0 (.agg #[.int .u64 0, .int .u64 0, .int .u16 0]) 3 24 Tryz.underlying24 hi0 hq0 hq1 hq2 rfl (by decide) _ _ _ rfl HR3.out (w5.alloc (.cells #[.int .u64 0, .int .u64 0, .int .u16 0] 38)).heap.size (some ⟨w5.heap.size, 0, none⟩) 1 1 ([win0].flatMap Win.cells) rfl (rd_block (heap_alloc_new w5 _) rfl) (oneWin [win0]) (by unfold maxLen; omega) (by omega) (by simp; omega) ?_); intro v' w6 hown hg; (obtain ⟨VA, vc, rfl, _, _, _⟩ := own_form hown); have hofA := Off.of_own HR3.out hg; have hbx := HYA.out.box.off hofA (by decide); have HYN := Lib.hid (YSt.app2 (N' := K ++ [win0]) (v' := .slice VA (1024 + 1) vc) HYA.out (below_own (Below.refl w.heap.size _) hg HR3.out (by simp; omega)) hofA (by rw [List.length_append, HKL.out, List.flatMap_append]; exact hown)); have b0 := hbx.cell 2; have bf := hbx.frozen 2; have bz := hbx.lt; (simp at b0); clear hofA hbx hown hg))
          clear b0 bf bz q0 qz HYA HR3 HY5
          go_wp2_with fail
          refine (alive_ok _).mono ?_
          rintro e w7 ⟨rfl, hb7⟩
          have HY7 := Lib.hid (HYN.out.up hb7)
          clear hb7 HYN
          have E1 := Lib.hid (show 1 = (flatC 1 1025 0 1 []).parts.length from by show _ = (List.replicate 1 parX).length; rw [List.length_replicate])
          have E2 := Lib.hid (show 1025 = (flatC 1 1025 0 1 []).wins.length from by show _ = (List.replicate 1025 win0).length; rw [List.length_replicate])
          have E3 := Lib.hid (show 0 = (flatC 1 1025 0 1 []).regs.length from by show _ = (List.replicate 0 reg0).length; rw [List.length_replicate])
          have E4 := Lib.hid (show 1 = (flatC 1 1025 0 1 []).ports.length from by show _ = (List.replicate 1 prtX).length; rw [List.length_replicate])
          have E5 := Lib.hid (show 0 = (flatC 1 1025 0 1 []).chans.length from by rfl)
          obtain ⟨x, hx⟩ : ∃ x, x = flatC 1 1025 0 1 [] := ⟨_, rfl⟩
          have HX := Lib.hid hx
          have HC0 := Lib.hid (show chkBad x = (7, 2, 1024) from by rw [hx]; exact more_bad (s := 2) (m := 1024) (.inr <| .inl ⟨rfl, rfl, rfl, rfl, rfl, rfl⟩) rfl)
          have HT0 := Lib.hid (show x.total ≤ 4194304 from by rw [hx]; exact more_tot (s := 2) (m := 1024) (.inr <| .inl ⟨rfl, rfl, rfl, rfl, rfl, rfl⟩) (by decide))
          have HBX := Lib.hid (YSt.cfg HY7.out (x := x) (by rw [hx, HK.out]; rw [show List.replicate 1024 win0 ++ [win0] = List.replicate 1025 win0 from (List.replicate_succ').symm]; rfl) (by rw [HX.out]; exact E1.out) (by rw [HX.out]; exact E2.out) (by rw [HX.out]; exact E3.out) (by rw [HX.out]; exact E4.out) (by rw [HX.out]; exact E5.out))
          clear hx
          obtain ⟨z0, z1, z2, z3, z4, z5⟩ := (show w7.cell? ⟨gx, 0, none⟩ = some (.int .u64 0) ∧ w7.cell? ⟨gx, 1, none⟩ = some (.slice (some ⟨b1, 0, none⟩) 1 1) ∧ w7.cell? ⟨gx, 2, none⟩ = some (.slice VA (1024 + 1) vc) ∧ w7.cell? ⟨gx, 3, none⟩ = some (.slice none 0 0) ∧ w7.cell? ⟨gx, 4, none⟩ = some (.slice (some ⟨b4, 0, none⟩) 1 1) ∧ w7.cell? ⟨gx, 5, none⟩ = some (.slice none 0 0) from by
            have y0 := HY7.out.box.cell 0
            have y1 := HY7.out.box.cell 1
            have y2 := HY7.out.box.cell 2
            have y3 := HY7.out.box.cell 3
            have y4 := HY7.out.box.cell 4
            have y5 := HY7.out.box.cell 5
            simp at y0 y1 y2 y3 y4 y5
            exact ⟨y0, y1, y2, y3, y4, y5⟩)
          have yz := HY7.out.box.lt
          go_wp2_with fail
          refine (confCheckN x (some ⟨b1, 0, none⟩) VA none (some ⟨b4, 0, none⟩) none 1 vc 0 1 0 1 1025 0 1 0 0 (by rw [HX.out]; rfl) (by rw [HX.out]; exact E1.out) (by rw [HX.out]; exact E2.out) (by rw [HX.out]; exact E3.out) (by rw [HX.out]; exact E4.out) (by rw [HX.out]; exact E5.out) w7 HBX.out HT0.out 7 2 1024 HC0).mono ?_
          rintro e w8 ⟨rfl, hbw8⟩
          have HZ := Lib.hid (Below.then_ HY7.out.bel hbw8)
          clear hbw8 z0 z1 z2 z3 z4 z5 yz HBX HC0 HT0 HX E1 E2 E3 E4 E5
          go_wp2
          go_ret
          exact ⟨rfl, HZ.out⟩
set_option maxRecDepth 100000 in
set_option maxHeartbeats 16000000 in
theorem lim3_ok (sec : Int) (h0 : 0 ≤ sec) (h1 : sec ≤ 255) (hm : sec % 6 = 2) (w : World) : Calls Tryz.prog 8 #[.int .u8 sec] w fun e w' => e = .returned (.bool true) ∧ Below w.heap.size w w' := by
  have hmk1 := mkPar1
  have hmk4 := mkPrt1
  have hs1 : 1 + sec % 6 = 3 := by omega
  go_enter Tryz.func8, Tryz.ntmps8
  go_wp2_with fail
  refine (limit3_ok _).mono ?_
  rintro e w1 ⟨rfl, hb1⟩
  have HB1 := Lib.hid hb1
  have hsz1 := hb1.size
  clear hb1
  go_upto_region 3 with (fail)
  go_cut [5] (fun t wx => ∃ gx b1 b4, t = .pointer (some ⟨gx, 0, none⟩) ∧ Hid (YSt w.heap.size gx w wx 0 (.slice (some ⟨b1, 0, none⟩) 1 1) (.slice none 0 0) (.slice none 0 0) (.slice (some ⟨b4, 0, none⟩) 1 1) (.slice none 0 0) (List.replicate 1 par0) [] [] (List.replicate 1 prt0) []))
  case first =>
    have HBW := HB1
    go_region
    all_goals
      go_wp2_with fail
      go_meet
      case rel =>
        first
        | (refine lim_begin (b1 := w1.heap.size) (b4 := w1.heap.size + 1) ?_ ?_ ?_ ?_ ?_; (focus ((repeat (first | exact Blk.newG _ _ _ _ (by first | rfl | (simp; done) | (simp; omega)) | with_reducible refine Blk.alloc ?_ _ | with_reducible refine Blk.drew1 ?_)); done)); (focus ((repeat (first | exact own_lit1 _ _ _ 4 _ _ (by first | omega | (simp; done) | (simp; omega)) (by first | rfl | (simp; done) | (simp; omega)) rfl _ rfl | with_reducible refine own_up1 ?_ _ | with_reducible refine own_drew1 ?_)); done)); (focus ((repeat (first | exact own_lit1 _ _ _ 6 _ _ (by first | omega | (simp; done) | (simp; omega)) (by first | rfl | (simp; done) | (simp; omega)) rfl _ rfl | with_reducible refine own_up1 ?_ _ | with_reducible refine own_drew1 ?_)); done)); (focus ((repeat (first | with_reducible exact HBW.out | with_reducible exact Below.refl _ _ | with_reducible refine Below.drew ?_ | (with_reducible refine Below.alloc ?_ (by first | (simp; done) | (have hq := HBW.out.size; simp at hq ⊢; omega)) _) | (with_reducible refine Below.setCell ?_ (by first | (simp; done) | (have hq := HBW.out.size; simp at hq ⊢; omega)) _))); done)); (focus (first | (simp; done) | (simp; omega) | omega)))
        | (refine lim_begin (b1 := w1.heap.size) (b4 := w1.heap.size + 1 + 1) ?_ ?_ ?_ ?_ ?_; (focus ((repeat (first | exact Blk.newG _ _ _ _ (by first | rfl | (simp; done) | (simp; omega)) | with_reducible refine Blk.alloc ?_ _ | with_reducible refine Blk.drew1 ?_)); done)); (focus ((repeat (first | exact own_lit1 _ _ _ 4 _ _ (by first | omega | (simp; done) | (simp; omega)) (by first | rfl | (simp; done) | (simp; omega)) rfl _ rfl | with_reducible refine own_up1 ?_ _ | with_reducible refine own_drew1 ?_)); done)); (focus ((repeat (first | exact own_lit1 _ _ _ 6 _ _ (by first | omega | (simp; done) | (simp; omega)) (by first | rfl | (simp; done) | (simp; omega)) rfl _ rfl | with_reducible refine own_up1 ?_ _ | with_reducible refine own_drew1 ?_)); done)); (focus ((repeat (first | with_reducible exact HBW.out | with_reducible exact Below.refl _ _ | with_reducible refine Below.drew ?_ | (with_reducible refine Below.alloc ?_ (by first | (simp; done) | (have hq := HBW.out.size; simp at hq ⊢; omega)) _) | (with_reducible refine Below.setCell ?_ (by first | (simp; done) | (have hq := HBW.out.size; simp at hq ⊢; omega)) _))); done)); (focus (first | (simp; done) | (simp; omega) | omega)))
        | (refine lim_begin (b1 := w1.heap.size + 1) (b4 := w1.heap.size) ?_ ?_ ?_ ?_ ?_; (focus ((repeat (first | exact Blk.newG _ _ _ _ (by first | rfl | (simp; done) | (simp; omega)) | with_reducible refine Blk.alloc ?_ _ | with_reducible refine Blk.drew1 ?_)); done)); (focus ((repeat (first | exact own_lit1 _ _ _ 4 _ _ (by first | omega | (simp; done) | (simp; omega)) (by first | rfl | (simp; done) | (simp; omega)) rfl _ rfl | with_reducible refine own_up1 ?_ _ | with_reducible refine own_drew1 ?_)); done)); (focus ((repeat (first | exact own_lit1 _ _ _ 6 _ _ (by first | omega | (simp; done) | (simp; omega)) (by first | rfl | (simp; done) | (simp; omega)) rfl _ rfl | with_reducible refine own_up1 ?_ _ | with_reducible refine own_drew1 ?_)); done)); (focus ((repeat (first | with_reducible exact HBW.out | with_reducible exact Below.refl _ _ | with_reducible refine Below.drew ?_ | (with_reducible refine Below.alloc ?_ (by first | (simp; done) | (have hq := HBW.out.size; simp at hq ⊢; omega)) _) | (with_reducible refine Below.setCell ?_ (by first | (simp; done) | (have hq := HBW.out.size; simp at hq ⊢; omega)) _))); done)); (focus (first | (simp; done) | (simp; omega) | omega)))
        | (refine lim_begin (b1 := w1.heap.size + 1) (b4 := w1.heap.size + 1 + 1) ?_ ?_ ?_ ?_ ?_; (focus ((repeat (first | exact Blk.newG _ _ _ _ (by first | rfl | (simp; done) | (simp; omega)) | with_reducible refine Blk.alloc ?_ _ | with_reducible refine Blk.drew1 ?_)); done)); (focus ((repeat (first | exact own_lit1 _ _ _ 4 _ _ (by first | omega | (simp; done) | (simp; omega)) (by first | rfl | (simp; done) | (simp; omega)) rfl _ rfl | with_reducible refine own_up1 ?_ _ | with_reducible refine own_drew1 ?_)); done)); (focus ((repeat (first | exact own_lit1 _ _ _ 6 _ _ (by first | omega | (simp; done) | (simp; omega)) (by first | rfl | (simp; done) | (simp; omega)) rfl _ rfl | with_reducible refine own_up1 ?_ _ | with_reducible refine own_drew1 ?_)); done)); (focus ((repeat (first | with_reducible exact HBW.out | with_reducible exact Below.refl _ _ | with_reducible refine Below.drew ?_ | (with_reducible refine Below.alloc ?_ (by first | (simp; done) | (have hq := HBW.out.size; simp at hq ⊢; omega)) _) | (with_reducible refine Below.setCell ?_ (by first | (simp; done) | (have hq := HBW.out.size; simp at hq ⊢; omega)) _))); done)); (focus (first | (simp; done) | (simp; omega) | omega)))
        | (refine lim_begin (b1 := w1.heap.size + 1 + 1) (b4 := w1.heap.size) ?_ ?_ ?_ ?_ ?_; (focus ((repeat (first | exact Blk.newG _ _ _ _ (by first | rfl | (simp; done) | (simp; omega)) | with_reducible refine Blk.alloc ?_ _ | with_reducible refine Blk.drew1 ?_)); done)); (focus ((repeat (first | exact own_lit1 _ _ _ 4 _ _ (by first | omega | (simp; done) | (simp; omega)) (by first | rfl | (simp; done) | (simp; omega)) rfl _ rfl | with_reducible refine own_up1 ?_ _ | with_reducible refine own_drew1 ?_)); done)); (focus ((repeat (first | exact own_lit1 _ _ _ 6 _ _ (by first | omega | (simp; done) | (simp; omega)) (by first | rfl | (simp; done) | (simp; omega)) rfl _ rfl | with_reducible refine own_up1 ?_ _ | with_reducible refine own_drew1 ?_)); done)); (focus ((repeat (first | with_reducible exact HBW.out | with_reducible exact Below.refl _ _ | with_reducible refine Below.drew ?_ | (with_reducible refine Below.alloc ?_ (by first | (simp; done) | (have hq := HBW.out.size; simp at hq ⊢; omega)) _) | (with_reducible refine Below.setCell ?_ (by first | (simp; done) | (have hq := HBW.out.size; simp at hq ⊢; omega)) _))); done)); (focus (first | (simp; done) | (simp; omega) | omega)))
        | (refine lim_begin (b1 := w1.heap.size + 1 + 1) (b4 := w1.heap.size + 1) ?_ ?_ ?_ ?_ ?_; (focus ((repeat (first | exact Blk.newG _ _ _ _ (by first | rfl | (simp; done) | (simp; omega)) | with_reducible refine Blk.alloc ?_ _ | with_reducible refine Blk.drew1 ?_)); done)); (focus ((repeat (first | exact own_lit1 _ _ _ 4 _ _ (by first | omega | (simp; done) | (simp; omega)) (by first | rfl | (simp; done) | (simp; omega)) rfl _ rfl | with_reducible refine own_up1 ?_ _ | with_reducible refine own_drew1 ?_)); done)); (focus ((repeat (first | exact own_lit1 _ _ _ 6 _ _ (by first | omega | (simp; done) | (simp; omega)) (by first | rfl | (simp; done) | (simp; omega)) rfl _ rfl | with_reducible refine own_up1 ?_ _ | with_reducible refine own_drew1 ?_)); done)); (focus ((repeat (first | with_reducible exact HBW.out | with_reducible exact Below.refl _ _ | with_reducible refine Below.drew ?_ | (with_reducible refine Below.alloc ?_ (by first | (simp; done) | (have hq := HBW.out.size; simp at hq ⊢; omega)) _) | (with_reducible refine Below.setCell ?_ (by first | (simp; done) | (have hq := HBW.out.size; simp at hq ⊢; omega)) _))); done)); (focus (first | (simp; done) | (simp; omega) | omega)))
        | fail
  case rest =>
  obtain ⟨gx, b1, b4, rfl, HY⟩ := hcut
  obtain ⟨WC, rfl⟩ : ∃ WC, WC = wc := ⟨_, rfl⟩
  clear hmk1 hmk4 HB1 hsz1
  obtain ⟨V, hmk, hbV, hoV⟩ := makeReg 1024 (by decide) WC
  have hmk2 : (Instr.makeSlice 25 (.int .i64 1024) (.int .i64 1024)).run Tryz.prog WC = .ok (.slice (some ⟨WC.heap.size, 0, none⟩) 1024 1024) V := hmk
  obtain ⟨K, hK⟩ : ∃ K, K = List.replicate 1024 reg0 := ⟨_, rfl⟩
  have hKl : K.length = 1024 := by rw [hK, List.length_replicate]
  have HK := Lib.hid hK
  rw [← hK] at hoV
  have HYV := Lib.hid (HY.out.up hbV)
  have HY2 := Lib.hid (YSt.app3 (R' := K) (v' := .slice (some ⟨WC.heap.size, 0, none⟩) 1024 1024) HYV.out (Below.refl _ _) (off_new _ (Below.refl _ _)) (by rw [hKl]; exact own_lessC hoV HY.out.hB))
  have bq := HYV.out.box.cell 3
  have bf := HYV.out.box.frozen 3
  have bz := HYV.out.box.lt
  simp at bq
  have HKL := Lib.hid hKl
  generalize WC.heap.size = bk at *
  clear hmk hbV hoV hK hKl HY HYV
  go_upto_region 16 with (fail)
  clear hmk2 bq bf bz
  generalize V.setCell ⟨gx, 3, none⟩ (.slice (some ⟨bk, 0, none⟩) 1024 1024) = W2 at *
  have HL0 : Hid (YSt w.heap.size gx w W2 0 (.slice (some ⟨b1, 0, none⟩) 1 1) (.slice none 0 0) (.slice (some ⟨bk, 0, none⟩) 1024 1024) (.slice (some ⟨b4, 0, none⟩) 1 1) (.slice none 0 0) (halfR 1 0 parX par0) [] K (halfR 1 0 prtX prt0) []) := by rw [halfR_zero, halfR_zero]; exact HY2
  clear HY2
  have y1 := HL0.out.box.cell 1
  have yz := HL0.out.box.lt
  simp at y1
  go_wp2_with fail
  clear y1 yz
  go_loopw [51] (fun i wr => ∃ k : Nat, k ≤ 1 ∧ i = .int .i64 k ∧ Hid (YSt w.heap.size gx w wr 0 (.slice (some ⟨b1, 0, none⟩) 1 1) (.slice none 0 0) (.slice (some ⟨bk, 0, none⟩) 1024 1024) (.slice (some ⟨b4, 0, none⟩) 1 1) (.slice none 0 0) (halfR 1 k parX par0) [] K (halfR 1 0 prtX prt0) [])) (fun i _ => 1 - (intOf i).toNat)
  case atStart => exact ⟨0, Nat.zero_le _, rfl, HL0⟩
  case round =>
    clear HL0
    obtain ⟨k, hk, rfl, HL⟩ := hrel
    have y1 := HL.out.box.cell 1
    have yz := HL.out.box.lt
    simp at y1
    by_cases hlt : k < 1
    · have g0 := own_at0 Par.cells 4 (fun _ => rfl) HL.out.o1 (halfR_len hk parX par0).symm (halfR_at hlt parX par0) 1 _ rfl (by decide)
      have f0 := World.ownsRow.frozenAt (show wr.ownsRow w.heap.size 36 4 (.slice (some ⟨b1, 0, none⟩) 1 1) 1 ((halfR 1 k parX par0).flatMap Par.cells) from by have h := HL.out.o1; rwa [halfR_len hk] at h) (k * 4 + 1)
      have HN := Lib.hid (YSt.nam1 HL.out (halfR_len hk parX par0).symm (halfR_at hlt parX par0) ⟨#[120]⟩)
      rw [parX_set hlt] at HN
      have k0 : (0 : Int) ≤ (k : Int) := by omega
      have k1 : (k : Int) < 1 := by omega
      go_wp2
      go_roundw
      case rel => exact ⟨k + 1, by omega, by go_num, HN⟩
      case measure => simp [intOf]; omega
    · obtain rfl : k = 1 := by omega
      have y4 := HL.out.box.cell 4
      simp at y4
      go_wp2_with fail
      clear y1 yz y4
      go_loopw [63] (fun i wr => ∃ k : Nat, k ≤ 1 ∧ i = .int .i64 k ∧ Hid (YSt w.heap.size gx w wr 0 (.slice (some ⟨b1, 0, none⟩) 1 1) (.slice none 0 0) (.slice (some ⟨bk, 0, none⟩) 1024 1024) (.slice (some ⟨b4, 0, none⟩) 1 1) (.slice none 0 0) (halfR 1 1 parX par0) [] K (halfR 1 k prtX prt0) [])) (fun i _ => 1 - (intOf i).toNat)
      case atStart => exact ⟨0, Nat.zero_le _, rfl, HL⟩
      case round =>
        clear HL
        obtain ⟨k, hk, rfl, HL⟩ := hrel
        have y4 := HL.out.box.cell 4
        have yz := HL.out.box.lt
        simp at y4
        by_cases hlt : k < 1
        · have g0 := own_at0 Prt.cells 6 (fun _ => rfl) HL.out.o4 (halfR_len hk prtX prt0).symm (halfR_at hlt prtX prt0) 2 _ rfl (by decide)
          have f0 := World.ownsRow.frozenAt (show wr.ownsRow w.heap.size 43 6 (.slice (some ⟨b4, 0, none⟩) 1 1) 1 ((halfR 1 k prtX prt0).flatMap Prt.cells) from by have h := HL.out.o4; rwa [halfR_len hk] at h) (k * 6 + 2)
          have HN := Lib.hid (YSt.nam4 HL.out (halfR_len hk prtX prt0).symm (halfR_at hlt prtX prt0) ⟨#[120]⟩)
          rw [prtX_set hlt] at HN
          have k0 : (0 : Int) ≤ (k : Int) := by omega
          have k1 : (k : Int) < 1 := by omega
          go_wp2
          go_roundw
          case rel => exact ⟨k + 1, by omega, by go_num, HN⟩
          case measure => simp [intOf]; omega
        · obtain rfl : k = 1 := by omega
          clear y4 yz
          have HF : Hid (YSt w.heap.size gx w wr 0 (.slice (some ⟨b1, 0, none⟩) 1 1) (.slice none 0 0) (.slice (some ⟨bk, 0, none⟩) 1024 1024) (.slice (some ⟨b4, 0, none⟩) 1 1) (.slice none 0 0) (List.replicate 1 parX) [] K (List.replicate 1 prtX) []) := by
            have h := HL
            rw [halfR_end, halfR_end] at h
            exact h
          clear HL
          have E1 := Lib.hid (show 1 = (flatC 1 0 1024 1 []).parts.length from by show _ = (List.replicate 1 parX).length; rw [List.length_replicate])
          have E2 := Lib.hid (show 0 = (flatC 1 0 1024 1 []).wins.length from by show _ = (List.replicate 0 win0).length; rw [List.length_replicate])
          have E3 := Lib.hid (show 1024 = (flatC 1 0 1024 1 []).regs.length from by show _ = (List.replicate 1024 reg0).length; rw [List.length_replicate])
          have E4 := Lib.hid (show 1 = (flatC 1 0 1024 1 []).ports.length from by show _ = (List.replicate 1 prtX).length; rw [List.length_replicate])
          have E5 := Lib.hid (show 0 = (flatC 1 0 1024 1 []).chans.length from by rfl)
          obtain ⟨x, hx⟩ : ∃ x, x = flatC 1 0 1024 1 [] := ⟨_, rfl⟩
          have HX := Lib.hid hx
          have HC0 := Lib.hid (show chkBad x = (0, 0, 0) from by rw [hx]; exact full_ok (s := 3) (m := 1024) (.inr <| .inr <| .inl ⟨rfl, rfl, rfl, rfl, rfl, rfl⟩) rfl)
          have HT0 := Lib.hid (show x.total ≤ 4194304 from by rw [hx]; exact full_tot (s := 3) (m := 1024) (.inr <| .inr <| .inl ⟨rfl, rfl, rfl, rfl, rfl, rfl⟩) (by decide))
          have HBX := Lib.hid (YSt.cfg HF.out (x := x) (by rw [hx, HK.out]; rfl) (by rw [HX.out]; exact E1.out) (by rw [HX.out]; exact E2.out) (by rw [HX.out]; exact E3.out) (by rw [HX.out]; exact E4.out) (by rw [HX.out]; exact E5.out))
          clear hx
          obtain ⟨z0, z1, z2, z3, z4, z5⟩ := (show wr.cell? ⟨gx, 0, none⟩ = some (.int .u64 0) ∧ wr.cell? ⟨gx, 1, none⟩ = some (.slice (some ⟨b1, 0, none⟩) 1 1) ∧ wr.cell? ⟨gx, 2, none⟩ = some (.slice none 0 0) ∧ wr.cell? ⟨gx, 3, none⟩ = some (.slice (some ⟨bk, 0, none⟩) 1024 1024) ∧ wr.cell? ⟨gx, 4, none⟩ = some (.slice (some ⟨b4, 0, none⟩) 1 1) ∧ wr.cell? ⟨gx, 5, none⟩ = some (.slice none 0 0) from by
            have y0 := HF.out.box.cell 0
            have y1 := HF.out.box.cell 1
            have y2 := HF.out.box.cell 2
            have y3 := HF.out.box.cell 3
            have y4 := HF.out.box.cell 4
            have y5 := HF.out.box.cell 5
            simp at y0 y1 y2 y3 y4 y5
            exact ⟨y0, y1, y2, y3, y4, y5⟩)
          have yz := HF.out.box.lt
          go_wp2_with fail
          refine (confCheckN x (some ⟨b1, 0, none⟩) none (some ⟨bk, 0, none⟩) (some ⟨b4, 0, none⟩) none 1 0 1024 1 0 1 0 1024 1 0 0 (by rw [HX.out]; rfl) (by rw [HX.out]; exact E1.out) (by rw [HX.out]; exact E2.out) (by rw [HX.out]; exact E3.out) (by rw [HX.out]; exact E4.out) (by rw [HX.out]; exact E5.out) wr HBX.out HT0.out 0 0 0 HC0).mono ?_
          rintro e w5 ⟨rfl, hbw5⟩
          have HY5 := Lib.hid (HF.out.up hbw5)
          clear hbw5 z0 z1 z2 z3 z4 z5 yz HF HBX HC0 HT0 HX E1 E2 E3 E4 E5
          have q0 := HY5.out.box.cell 3
          simp at q0
          have qz := HY5.out.box.lt
          have HYA := Lib.hid (HY5.out.up (below_one w5 (.cells #[.int .u64 0, .int .u64 0, .int .u16 0, .int .u8 0, .bool false] 40)))
          have HR3 := Lib.hid (show (w5.alloc (.cells #[.int .u64 0, .int .u64 0, .int .u16 0, .int .u8 0, .bool false] 40)).ownsRow w.heap.size 40 5 (.slice (some ⟨bk, 0, none⟩) 1024 1024) 1024 (K.flatMap Reg.cells) from by
            have h := HYA.out.o3
            rwa [HKL.out] at h)
          obtain ⟨i0, hi0, hq0, hq1, hq2⟩ := info_parts infoRegion
          have hszw : w.heap.size ≤ w5.heap.size := HY5.out.hB
          go_wp2_with (at_builtin; go_loud ((refine wpList_append_rd _ rfl (.tmp 106) (.tmp 108) _ rfl w.heap.size 40 i0 (.agg #[.int .u64 0, .int .u64 0, .int .u16 0, .int .u8 0, .bool false]) 5 24 Tryz.underlying25 hi0 hq0 hq1 hq2 rfl (by decide) _ _ _ rfl HR3.out (w5.alloc (.cells #[.int .u64 0, .int .u64 0, .int .u16 0, .int .u8 0, .bool false] 40)).heap.size (some ⟨w5.heap.size, 0, none⟩) 1 1 ([reg0].flatMap Reg.cells) rfl (rd_block (heap_alloc_new w5 _) rfl) (oneReg [reg0]) (by unfold maxLen; omega) (by omega) (by simp; omega) ?_); intro v' w6 hown hg; (obtain ⟨VA, vc, rfl, _, _, _⟩ := own_form hown); have hofA := Off.of_own HR3.out hg; have hbx := HYA.out.box.off hofA (by decide); have HYN := Lib.hid (YSt.app3 (R' := K ++ [reg0]) (v' := .slice VA (1024 + 1) vc) HYA.out (below_own (Below.refl w.heap.size _) hg HR3.out (by simp; omega)) hofA (by rw [List.length_append, HKL.out, List.flatMap_append]; exact hown)); have b0 := hbx.cell 3; have bf := hbx.frozen 3; have bz := hbx.lt; (simp at b0); clear hofA hbx hown hg))
          clear b0 bf bz q0 qz HYA HR3 HY5
          go_wp2_with fail
          refine (alive_ok _).mono ?_
          rintro e w7 ⟨rfl, hb7⟩
          have HY7 := Lib.hid (HYN.out.up hb7)
          clear hb7 HYN
          have E1 := Lib.hid (show 1 = (flatC 1 0 1025 1 []).parts.length from by show _ = (List.replicate 1 parX).length; rw [List.length_replicate])
          have E2 := Lib.hid (show 0 = (flatC 1 0 1025 1 []).wins.length from by show _ = (List.replicate 0 win0).length; rw [List.length_replicate])
          have E3 := Lib.hid (show 1025 = (flatC 1 0 1025 1 []).regs.length from by show _ = (List.replicate 1025 reg0).length; rw [List.length_replicate])
          have E4 := Lib.hid (show 1 = (flatC 1 0 1025 1 []).ports.length from by show _ = (List.replicate 1 prtX).length; rw [List.length_replicate])
          have E5 := Lib.hid (show 0 = (flatC 1 0 1025 1 []).chans.length from by rfl)
          obtain ⟨x, hx⟩ : ∃ x, x = flatC 1 0 1025 1 [] := ⟨_, rfl⟩
          have HX := Lib.hid hx
          have HC0 := Lib.hid (show chkBad x = (7, 3, 1024) from by rw [hx]; exact more_bad (s := 3) (m := 1024) (.inr <| .inr <| .inl ⟨rfl, rfl, rfl, rfl, rfl, rfl⟩) rfl)
          have HT0 := Lib.hid (show x.total ≤ 4194304 from by rw [hx]; exact more_tot (s := 3) (m := 1024) (.inr <| .inr <| .inl ⟨rfl, rfl, rfl, rfl, rfl, rfl⟩) (by decide))
          have HBX := Lib.hid (YSt.cfg HY7.out (x := x) (by rw [hx, HK.out]; rw [show List.replicate 1024 reg0 ++ [reg0] = List.replicate 1025 reg0 from (List.replicate_succ').symm]; rfl) (by rw [HX.out]; exact E1.out) (by rw [HX.out]; exact E2.out) (by rw [HX.out]; exact E3.out) (by rw [HX.out]; exact E4.out) (by rw [HX.out]; exact E5.out))
          clear hx
          obtain ⟨z0, z1, z2, z3, z4, z5⟩ := (show w7.cell? ⟨gx, 0, none⟩ = some (.int .u64 0) ∧ w7.cell? ⟨gx, 1, none⟩ = some (.slice (some ⟨b1, 0, none⟩) 1 1) ∧ w7.cell? ⟨gx, 2, none⟩ = some (.slice none 0 0) ∧ w7.cell? ⟨gx, 3, none⟩ = some (.slice VA (1024 + 1) vc) ∧ w7.cell? ⟨gx, 4, none⟩ = some (.slice (some ⟨b4, 0, none⟩) 1 1) ∧ w7.cell? ⟨gx, 5, none⟩ = some (.slice none 0 0) from by
            have y0 := HY7.out.box.cell 0
            have y1 := HY7.out.box.cell 1
            have y2 := HY7.out.box.cell 2
            have y3 := HY7.out.box.cell 3
            have y4 := HY7.out.box.cell 4
            have y5 := HY7.out.box.cell 5
            simp at y0 y1 y2 y3 y4 y5
            exact ⟨y0, y1, y2, y3, y4, y5⟩)
          have yz := HY7.out.box.lt
          go_wp2_with fail
          refine (confCheckN x (some ⟨b1, 0, none⟩) none VA (some ⟨b4, 0, none⟩) none 1 0 vc 1 0 1 0 1025 1 0 0 (by rw [HX.out]; rfl) (by rw [HX.out]; exact E1.out) (by rw [HX.out]; exact E2.out) (by rw [HX.out]; exact E3.out) (by rw [HX.out]; exact E4.out) (by rw [HX.out]; exact E5.out) w7 HBX.out HT0.out 7 3 1024 HC0).mono ?_
          rintro e w8 ⟨rfl, hbw8⟩
          have HZ := Lib.hid (Below.then_ HY7.out.bel hbw8)
          clear hbw8 z0 z1 z2 z3 z4 z5 yz HBX HC0 HT0 HX E1 E2 E3 E4 E5
          go_wp2
          go_ret
          exact ⟨rfl, HZ.out⟩
set_option maxRecDepth 100000 in
set_option maxHeartbeats 16000000 in
theorem lim4_ok (sec : Int) (h0 : 0 ≤ sec) (h1 : sec ≤ 255) (hm : sec % 6 = 3) (w : World) : Calls Tryz.prog 8 #[.int .u8 sec] w fun e w' => e = .returned (.bool true) ∧ Below w.heap.size w w' := by
  have hmk1 := mkPar1
  have hmk4 := mkPrt1
  have hs1 : 1 + sec % 6 = 4 := by omega
  go_enter Tryz.func8, Tryz.ntmps8
  go_wp2_with fail
  refine (limit4_ok _).mono ?_
  rintro e w1 ⟨rfl, hb1⟩
  have HB1 := Lib.hid hb1
  have hsz1 := hb1.size
  clear hb1
  go_upto_region 3 with (fail)
  go_cut [5] (fun t wx => ∃ gx b1 b4, t = .pointer (some ⟨gx, 0, none⟩) ∧ Hid (YSt w.heap.size gx w wx 0 (.slice (some ⟨b1, 0, none⟩) 1 1) (.slice none 0 0) (.slice none 0 0) (.slice (some ⟨b4, 0, none⟩) 1 1) (.slice none 0 0) (List.replicate 1 par0) [] [] (List.replicate 1 prt0) []))
  case first =>
    have HBW := HB1
    go_region
    all_goals
      go_wp2_with fail
      go_meet
      case rel =>
        first
        | (refine lim_begin (b1 := w1.heap.size) (b4 := w1.heap.size + 1) ?_ ?_ ?_ ?_ ?_; (focus ((repeat (first | exact Blk.newG _ _ _ _ (by first | rfl | (simp; done) | (simp; omega)) | with_reducible refine Blk.alloc ?_ _ | with_reducible refine Blk.drew1 ?_)); done)); (focus ((repeat (first | exact own_lit1 _ _ _ 4 _ _ (by first | omega | (simp; done) | (simp; omega)) (by first | rfl | (simp; done) | (simp; omega)) rfl _ rfl | with_reducible refine own_up1 ?_ _ | with_reducible refine own_drew1 ?_)); done)); (focus ((repeat (first | exact own_lit1 _ _ _ 6 _ _ (by first | omega | (simp; done) | (simp; omega)) (by first | rfl | (simp; done) | (simp; omega)) rfl _ rfl | with_reducible refine own_up1 ?_ _ | with_reducible refine own_drew1 ?_)); done)); (focus ((repeat (first | with_reducible exact HBW.out | with_reducible exact Below.refl _ _ | with_reducible refine Below.drew ?_ | (with_reducible refine Below.alloc ?_ (by first | (simp; done) | (have hq := HBW.out.size; simp at hq ⊢; omega)) _) | (with_reducible refine Below.setCell ?_ (by first | (simp; done) | (have hq := HBW.out.size; simp at hq ⊢; omega)) _))); done)); (focus (first | (simp; done) | (simp; omega) | omega)))
        | (refine lim_begin (b1 := w1.heap.size) (b4 := w1.heap.size + 1 + 1) ?_ ?_ ?_ ?_ ?_; (focus ((repeat (first | exact Blk.newG _ _ _ _ (by first | rfl | (simp; done) | (simp; omega)) | with_reducible refine Blk.alloc ?_ _ | with_reducible refine Blk.drew1 ?_)); done)); (focus ((repeat (first | exact own_lit1 _ _ _ 4 _ _ (by first | omega | (simp; done) | (simp; omega)) (by first | rfl | (simp; done) | (simp; omega)) rfl _ rfl | with_reducible refine own_up1 ?_ _ | with_reducible refine own_drew1 ?_)); done)); (focus ((repeat (first | exact own_lit1 _ _ _ 6 _ _ (by first | omega | (simp; done) | (simp; omega)) (by first | rfl | (simp; done) | (simp; omega)) rfl _ rfl | with_reducible refine own_up1 ?_ _ | with_reducible refine own_drew1 ?_)); done)); (focus ((repeat (first | with_reducible exact HBW.out | with_reducible exact Below.refl _ _ | with_reducible refine Below.drew ?_ | (with_reducible refine Below.alloc ?_ (by first | (simp; done) | (have hq := HBW.out.size; simp at hq ⊢; omega)) _) | (with_reducible refine Below.setCell ?_ (by first | (simp; done) | (have hq := HBW.out.size; simp at hq ⊢; omega)) _))); done)); (focus (first | (simp; done) | (simp; omega) | omega)))
        | (refine lim_begin (b1 := w1.heap.size + 1) (b4 := w1.heap.size) ?_ ?_ ?_ ?_ ?_; (focus ((repeat (first | exact Blk.newG _ _ _ _ (by first | rfl | (simp; done) | (simp; omega)) | with_reducible refine Blk.alloc ?_ _ | with_reducible refine Blk.drew1 ?_)); done)); (focus ((repeat (first | exact own_lit1 _ _ _ 4 _ _ (by first | omega | (simp; done) | (simp; omega)) (by first | rfl | (simp; done) | (simp; omega)) rfl _ rfl | with_reducible refine own_up1 ?_ _ | with_reducible refine own_drew1 ?_)); done)); (focus ((repeat (first | exact own_lit1 _ _ _ 6 _ _ (by first | omega | (simp; done) | (simp; omega)) (by first | rfl | (simp; done) | (simp; omega)) rfl _ rfl | with_reducible refine own_up1 ?_ _ | with_reducible refine own_drew1 ?_)); done)); (focus ((repeat (first | with_reducible exact HBW.out | with_reducible exact Below.refl _ _ | with_reducible refine Below.drew ?_ | (with_reducible refine Below.alloc ?_ (by first | (simp; done) | (have hq := HBW.out.size; simp at hq ⊢; omega)) _) | (with_reducible refine Below.setCell ?_ (by first | (simp; done) | (have hq := HBW.out.size; simp at hq ⊢; omega)) _))); done)); (focus (first | (simp; done) | (simp; omega) | omega)))
        | (refine lim_begin (b1 := w1.heap.size + 1) (b4 := w1.heap.size + 1 + 1) ?_ ?_ ?_ ?_ ?_; (focus ((repeat (first | exact Blk.newG _ _ _ _ (by first | rfl | (simp; done) | (simp; omega)) | with_reducible refine Blk.alloc ?_ _ | with_reducible refine Blk.drew1 ?_)); done)); (focus ((repeat (first | exact own_lit1 _ _ _ 4 _ _ (by first | omega | (simp; done) | (simp; omega)) (by first | rfl | (simp; done) | (simp; omega)) rfl _ rfl | with_reducible refine own_up1 ?_ _ | with_reducible refine own_drew1 ?_)); done)); (focus ((repeat (first | exact own_lit1 _ _ _ 6 _ _ (by first | omega | (simp; done) | (simp; omega)) (by first | rfl | (simp; done) | (simp; omega)) rfl _ rfl | with_reducible refine own_up1 ?_ _ | with_reducible refine own_drew1 ?_)); done)); (focus ((repeat (first | with_reducible exact HBW.out | with_reducible exact Below.refl _ _ | with_reducible refine Below.drew ?_ | (with_reducible refine Below.alloc ?_ (by first | (simp; done) | (have hq := HBW.out.size; simp at hq ⊢; omega)) _) | (with_reducible refine Below.setCell ?_ (by first | (simp; done) | (have hq := HBW.out.size; simp at hq ⊢; omega)) _))); done)); (focus (first | (simp; done) | (simp; omega) | omega)))
        | (refine lim_begin (b1 := w1.heap.size + 1 + 1) (b4 := w1.heap.size) ?_ ?_ ?_ ?_ ?_; (focus ((repeat (first | exact Blk.newG _ _ _ _ (by first | rfl | (simp; done) | (simp; omega)) | with_reducible refine Blk.alloc ?_ _ | with_reducible refine Blk.drew1 ?_)); done)); (focus ((repeat (first | exact own_lit1 _ _ _ 4 _ _ (by first | omega | (simp; done) | (simp; omega)) (by first | rfl | (simp; done) | (simp; omega)) rfl _ rfl | with_reducible refine own_up1 ?_ _ | with_reducible refine own_drew1 ?_)); done)); (focus ((repeat (first | exact own_lit1 _ _ _ 6 _ _ (by first | omega | (simp; done) | (simp; omega)) (by first | rfl | (simp; done) | (simp; omega)) rfl _ rfl | with_reducible refine own_up1 ?_ _ | with_reducible refine own_drew1 ?_)); done)); (focus ((repeat (first | with_reducible exact HBW.out | with_reducible exact Below.refl _ _ | with_reducible refine Below.drew ?_ | (with_reducible refine Below.alloc ?_ (by first | (simp; done) | (have hq := HBW.out.size; simp at hq ⊢; omega)) _) | (with_reducible refine Below.setCell ?_ (by first | (simp; done) | (have hq := HBW.out.size; simp at hq ⊢; omega)) _))); done)); (focus (first | (simp; done) | (simp; omega) | omega)))
        | (refine lim_begin (b1 := w1.heap.size + 1 + 1) (b4 := w1.heap.size + 1) ?_ ?_ ?_ ?_ ?_; (focus ((repeat (first | exact Blk.newG _ _ _ _ (by first | rfl | (simp; done) | (simp; omega)) | with_reducible refine Blk.alloc ?_ _ | with_reducible refine Blk.drew1 ?_)); done)); (focus ((repeat (first | exact own_lit1 _ _ _ 4 _ _ (by first | omega | (simp; done) | (simp; omega)) (by first | rfl | (simp; done) | (simp; omega)) rfl _ rfl | with_reducible refine own_up1 ?_ _ | with_reducible refine own_drew1 ?_)); done)); (focus ((repeat (first | exact own_lit1 _ _ _ 6 _ _ (by first | omega | (simp; done) | (simp; omega)) (by first | rfl | (simp; done) | (simp; omega)) rfl _ rfl | with_reducible refine own_up1 ?_ _ | with_reducible refine own_drew1 ?_)); done)); (focus ((repeat (first | with_reducible exact HBW.out | with_reducible exact Below.refl _ _ | with_reducible refine Below.drew ?_ | (with_reducible refine Below.alloc ?_ (by first | (simp; done) | (have hq := HBW.out.size; simp at hq ⊢; omega)) _) | (with_reducible refine Below.setCell ?_ (by first | (simp; done) | (have hq := HBW.out.size; simp at hq ⊢; omega)) _))); done)); (focus (first | (simp; done) | (simp; omega) | omega)))
        | fail
  case rest =>
  obtain ⟨gx, b1, b4, rfl, HY⟩ := hcut
  obtain ⟨WC, rfl⟩ : ∃ WC, WC = wc := ⟨_, rfl⟩
  clear hmk1 hmk4 HB1 hsz1
  obtain ⟨V, hmk, hbV, hoV⟩ := makePrt 1024 (by decide) WC
  have hmk2 : (Instr.makeSlice 26 (.int .i64 1024) (.int .i64 1024)).run Tryz.prog WC = .ok (.slice (some ⟨WC.heap.size, 0, none⟩) 1024 1024) V := hmk
  obtain ⟨K, hK⟩ : ∃ K, K = List.replicate 1024 prt0 := ⟨_, rfl⟩
  have hKl : K.length = 1024 := by rw [hK, List.length_replicate]
  have HK := Lib.hid hK
  rw [← hK] at hoV
  have HYV := Lib.hid (HY.out.up hbV)
  have HY2 := Lib.hid (YSt.app4 (T' := K) (v' := .slice (some ⟨WC.heap.size, 0, none⟩) 1024 1024) HYV.out (Below.refl _ _) (off_new _ (Below.refl _ _)) (by rw [hKl]; exact own_lessC hoV HY.out.hB))
  have bq := HYV.out.box.cell 4
  have bf := HYV.out.box.frozen 4
  have bz := HYV.out.box.lt
  simp at bq
  have HKL := Lib.hid hKl
  generalize WC.heap.size = bk at *
  clear hmk hbV hoV hK hKl HY HYV
  go_upto_region 16 with (fail)
  clear hmk2 bq bf bz
  generalize V.setCell ⟨gx, 4, none⟩ (.slice (some ⟨bk, 0, none⟩) 1024 1024) = W2 at *
  have HL0 : Hid (YSt w.heap.size gx w W2 0 (.slice (some ⟨b1, 0, none⟩) 1 1) (.slice none 0 0) (.slice none 0 0) (.slice (some ⟨bk, 0, none⟩) 1024 1024) (.slice none 0 0) (halfR 1 0 parX par0) [] [] (halfR 1024 0 prtX prt0) []) := by rw [halfR_zero, halfR_zero, ← HK.out]; exact HY2
  clear HY2
  have y1 := HL0.out.box.cell 1
  have yz := HL0.out.box.lt
  simp at y1
  go_wp2_with fail
  clear y1 yz
  go_loopw [51] (fun i wr => ∃ k : Nat, k ≤ 1 ∧ i = .int .i64 k ∧ Hid (YSt w.heap.size gx w wr 0 (.slice (some ⟨b1, 0, none⟩) 1 1) (.slice none 0 0) (.slice none 0 0) (.slice (some ⟨bk, 0, none⟩) 1024 1024) (.slice none 0 0) (halfR 1 k parX par0) [] [] (halfR 1024 0 prtX prt0) [])) (fun i _ => 1 - (intOf i).toNat)
  case atStart => exact ⟨0, Nat.zero_le _, rfl, HL0⟩
  case round =>
    clear HL0
    obtain ⟨k, hk, rfl, HL⟩ := hrel
    have y1 := HL.out.box.cell 1
    have yz := HL.out.box.lt
    simp at y1
    by_cases hlt : k < 1
    · have g0 := own_at0 Par.cells 4 (fun _ => rfl) HL.out.o1 (halfR_len hk parX par0).symm (halfR_at hlt parX par0) 1 _ rfl (by decide)
      have f0 := World.ownsRow.frozenAt (show wr.ownsRow w.heap.size 36 4 (.slice (some ⟨b1, 0, none⟩) 1 1) 1 ((halfR 1 k parX par0).flatMap Par.cells) from by have h := HL.out.o1; rwa [halfR_len hk] at h) (k * 4 + 1)
      have HN := Lib.hid (YSt.nam1 HL.out (halfR_len hk parX par0).symm (halfR_at hlt parX par0) ⟨#[120]⟩)
      rw [parX_set hlt] at HN
      have k0 : (0 : Int) ≤ (k : Int) := by omega
      have k1 : (k : Int) < 1 := by omega
      go_wp2
      go_roundw
      case rel => exact ⟨k + 1, by omega, by go_num, HN⟩
      case measure => simp [intOf]; omega
    · obtain rfl : k = 1 := by omega
      have y4 := HL.out.box.cell 4
      simp at y4
      go_wp2_with fail
      clear y1 yz y4
      go_loopw [63] (fun i wr => ∃ k : Nat, k ≤ 1024 ∧ i = .int .i64 k ∧ Hid (YSt w.heap.size gx w wr 0 (.slice (some ⟨b1, 0, none⟩) 1 1) (.slice none 0 0) (.slice none 0 0) (.slice (some ⟨bk, 0, none⟩) 1024 1024) (.slice none 0 0) (halfR 1 1 parX par0) [] [] (halfR 1024 k prtX prt0) [])) (fun i _ => 1024 - (intOf i).toNat)
      case atStart => exact ⟨0, Nat.zero_le _, rfl, HL⟩
      case round =>
        clear HL
        obtain ⟨k, hk, rfl, HL⟩ := hrel
        have y4 := HL.out.box.cell 4
        have yz := HL.out.box.lt
        simp at y4
        by_cases hlt : k < 1024
        · have g0 := own_at0 Prt.cells 6 (fun _ => rfl) HL.out.o4 (halfR_len hk prtX prt0).symm (halfR_at hlt prtX prt0) 2 _ rfl (by decide)
          have f0 := World.ownsRow.frozenAt (show wr.ownsRow w.heap.size 43 6 (.slice (some ⟨bk, 0, none⟩) 1024 1024) 1024 ((halfR 1024 k prtX prt0).flatMap Prt.cells) from by have h := HL.out.o4; rwa [halfR_len hk] at h) (k * 6 + 2)
          have HN := Lib.hid (YSt.nam4 HL.out (halfR_len hk prtX prt0).symm (halfR_at hlt prtX prt0) ⟨#[120]⟩)
          rw [prtX_set hlt] at HN
          have k0 : (0 : Int) ≤ (k : Int) := by omega
          have k1 : (k : Int) < 1024 := by omega
          go_wp2
          go_roundw
          case rel => exact ⟨k + 1, by omega, by go_num, HN⟩
          case measure => simp [intOf]; omega
        · obtain rfl : k = 1024 := by omega
          clear y4 yz
          have HF : Hid (YSt w.heap.size gx w wr 0 (.slice (some ⟨b1, 0, none⟩) 1 1) (.slice none 0 0) (.slice none 0 0) (.slice (some ⟨bk, 0, none⟩) 1024 1024) (.slice none 0 0) (List.replicate 1 parX) [] [] (List.replicate 1024 prtX) []) := by
            have h := HL
            rw [halfR_end, halfR_end] at h
            exact h
          clear HL
          have E1 := Lib.hid (show 1 = (flatC 1 0 0 1024 []).parts.length from by show _ = (List.replicate 1 parX).length; rw [List.length_replicate])
          have E2 := Lib.hid (show 0 = (flatC 1 0 0 1024 []).wins.length from by show _ = (List.replicate 0 win0).length; rw [List.length_replicate])
          have E3 := Lib.hid (show 0 = (flatC 1 0 0 1024 []).regs.length from by show _ = (List.replicate 0 reg0).length; rw [List.length_replicate])
          have E4 := Lib.hid (show 1024 = (flatC 1 0 0 1024 []).ports.length from by show _ = (List.replicate 1024 prtX).length; rw [List.length_replicate])
          have E5 := Lib.hid (show 0 = (flatC 1 0 0 1024 []).chans.length from by rfl)
          obtain ⟨x, hx⟩ : ∃ x, x = flatC 1 0 0 1024 [] := ⟨_, rfl⟩
          have HX := Lib.hid hx
          have HC0 := Lib.hid (show chkBad x = (0, 0, 0) from by rw [hx]; exact full_ok (s := 4) (m := 1024) (.inr <| .inr <| .inr <| .inl ⟨rfl, rfl, rfl, rfl, rfl, rfl⟩) rfl)
          have HT0 := Lib.hid (show x.total ≤ 4194304 from by rw [hx]; exact full_tot (s := 4) (m := 1024) (.inr <| .inr <| .inr <| .inl ⟨rfl, rfl, rfl, rfl, rfl, rfl⟩) (by decide))
          have HBX := Lib.hid (YSt.cfg HF.out (x := x) (by rw [hx]; rfl) (by rw [HX.out]; exact E1.out) (by rw [HX.out]; exact E2.out) (by rw [HX.out]; exact E3.out) (by rw [HX.out]; exact E4.out) (by rw [HX.out]; exact E5.out))
          clear hx
          obtain ⟨z0, z1, z2, z3, z4, z5⟩ := (show wr.cell? ⟨gx, 0, none⟩ = some (.int .u64 0) ∧ wr.cell? ⟨gx, 1, none⟩ = some (.slice (some ⟨b1, 0, none⟩) 1 1) ∧ wr.cell? ⟨gx, 2, none⟩ = some (.slice none 0 0) ∧ wr.cell? ⟨gx, 3, none⟩ = some (.slice none 0 0) ∧ wr.cell? ⟨gx, 4, none⟩ = some (.slice (some ⟨bk, 0, none⟩) 1024 1024) ∧ wr.cell? ⟨gx, 5, none⟩ = some (.slice none 0 0) from by
            have y0 := HF.out.box.cell 0
            have y1 := HF.out.box.cell 1
            have y2 := HF.out.box.cell 2
            have y3 := HF.out.box.cell 3
            have y4 := HF.out.box.cell 4
            have y5 := HF.out.box.cell 5
            simp at y0 y1 y2 y3 y4 y5
            exact ⟨y0, y1, y2, y3, y4, y5⟩)
          have yz := HF.out.box.lt
          go_wp2_with fail
          refine (confCheckN x (some ⟨b1, 0, none⟩) none none (some ⟨bk, 0, none⟩) none 1 0 0 1024 0 1 0 0 1024 0 0 (by rw [HX.out]; rfl) (by rw [HX.out]; exact E1.out) (by rw [HX.out]; exact E2.out) (by rw [HX.out]; exact E3.out) (by rw [HX.out]; exact E4.out) (by rw [HX.out]; exact E5.out) wr HBX.out HT0.out 0 0 0 HC0).mono ?_
          rintro e w5 ⟨rfl, hbw5⟩
          have HY5 := Lib.hid (HF.out.up hbw5)
          clear hbw5 z0 z1 z2 z3 z4 z5 yz HF HBX HC0 HT0 HX E1 E2 E3 E4 E5
          obtain ⟨PP, hPP⟩ : ∃ PP, PP = List.replicate 1024 prtX := ⟨_, rfl⟩
          have HPL := Lib.hid (show PP.length = 1024 by rw [hPP, List.length_replicate])
          have HP0 := Lib.hid (show PP[0]? = some prtX by rw [hPP, List.getElem?_replicate, if_pos (by decide)])
          have HPP := Lib.hid hPP
          rw [← hPP] at HY5
          clear hPP
          have HO5 := Lib.hid (show w5.ownsRow w.heap.size 43 6 (.slice (some ⟨bk, 0, none⟩) 1024 1024) 1024 (PP.flatMap Prt.cells) from by
            have h := HY5.out.o4
            rwa [HPL.out] at h)
          have hbk5 : bk < w5.heap.size := by
            obtain ⟨g, cap, h, _, hlt⟩ := HO5.out.form (by decide)
            injection h with h
            injection h with h
            injection h with h
            omega
          obtain ⟨i0, hi0, hq0, hq1, hq2⟩ := info_parts infoPort
          go_upto_region 37 with (fail)
          refine wp_region_A 113 9 6 7 _ rfl rfl (by kernel_rfl) (by kernel_rfl) (by kernel_rfl) (by kernel_rfl) (by kernel_rfl) (Nat.le_of_ble_eq_true (by kernel_rfl)) (by decide) (by decide) (by decide) rfl
            (fun i => i == 0 || i == 2 || i == 8) ?hanc
            [.pointer (some ⟨gx, 4, none⟩), (.slice (some ⟨bk, 0, none⟩) 1024 1024), .pointer (some ⟨gx, 4, none⟩), (.slice (some ⟨bk, 0, none⟩) 1024 1024), .pointer (some ⟨bk, 0, none⟩), .agg #[.int .u16 0, .int .u16 0, .string ⟨#[120]⟩, .bool false, .bool false, .int .u32 0], undef, undef, .pointer (some ⟨gx, 4, none⟩)]
            (fun v U => ∃ g, v = .slice (some ⟨g, 0, none⟩) 1 1 ∧ w5.heap.size ≤ g ∧ Blk U g 43 #[.int .u16 0, .int .u16 0, .string ⟨#[120]⟩, .bool false, .bool false, .int .u32 0])
            (fun v U => ∃ VA vc, v = .slice VA (1024 + 1) vc ∧ U.ownsRow w.heap.size 43 6 v (1024 + 1) (PP.flatMap Prt.cells ++ [.int .u16 0, .int .u16 0, .string ⟨#[120]⟩, .bool false, .bool false, .int .u32 0]) ∧ ∃ W1, Below w5.heap.size w5 W1 ∧ Off 43 W1 U ∧ Below w.heap.size W1 U)
            (fun U => Blk U gx 29 #[.int .u64 0, .slice (some ⟨b1, 0, none⟩) 1 1, .slice none 0 0, .slice none 0 0, .slice (some ⟨bk, 0, none⟩) 1024 1024, .slice none 0 0] ∧ w5.heap.size ≤ U.heap.size)
            (fun U => Below w5.heap.size w5 U)
            (fun U U' => U.grownBy U' (Value.ownBlock (.slice (some ⟨bk, 0, none⟩) 1024 1024)))
            ((Below.refl _ _).drew) (fun U hU => ⟨HY5.out.box.below hU HY5.out.box.lt, hU.size⟩)
            (fun v U U' ⟨g, h1, h2, h3⟩ hb => ⟨g, h1, h2, h3.below hb h3.lt⟩)
            (fun v U U' ⟨VA, vc, h1, h2, W1, h3, h4, h5⟩ hb => ⟨VA, vc, h1, own_below h2 hb, W1, h3, off_below h4 hb, h5.trans (hb.mono (Nat.le_trans (Nat.le_trans HY5.out.hB h3.size) h5.size))⟩)
            (fun v U U' hU ⟨g, h1, h2, h3⟩ hg => ⟨g, h1, h2, (hg.block g h3.lt (fun e => by
              have e2 : bk = g := by injection e with e; exact e.symm
              omega)).trans h3⟩)
            ?hpure ?hlit ?happ (fun o ho => by cases ho; exact ⟨{ on := 6, ground := .data }, by simp, rfl, rfl⟩) ?hend
          case hanc =>
            intro l hc h7 i hi hF h2
            have h6 := hc 7 _ rfl h7 { on := 6, ground := .data } (by simp) rfl
            have h1 := hc 7 _ rfl h7 { on := 1, ground := .data } (by simp) rfl
            have h5 := hc 6 _ rfl h6 { on := 5, ground := .data } (by simp) rfl
            have h4 := hc 5 _ rfl h5 { on := 4, ground := .data } (by simp) rfl
            have h3 := hc 4 _ rfl h4 { on := 3, ground := .data } (by simp) rfl
            match i, hi, hF, h2 with
            | 0, _, hF, _ => cases hF
            | 1, _, _, _ => exact h1
            | 2, _, hF, _ => cases hF
            | 3, _, _, _ => exact h3
            | 4, _, _, _ => exact h4
            | 5, _, _, _ => exact h5
            | 6, _, _, _ => exact h6
            | 7, _, _, h2 => exact absurd rfl h2
            | 8, _, hF, _ => cases hF
            | t + 9, hi, _, _ => omega
          case hpure =>
            intro q o ho hq h1 h2 U hE ρ r0 r1 r2
            match q, ho, hE with
            | 0, ho, _ =>
              cases ho
              have e := r1 5 (by decide)
              simp only [execOp]
              go_simp
            | 1, ho, hE =>
              cases ho
              have e : ρ (.tmp 113) = _ := r2 { on := 0, ground := .data } (by simp) rfl (by decide) (by decide)
              have y := (HY5.out.box.below (hE rfl) HY5.out.box.lt).cell 4
              simp at y
              simp only [execOp]
              go_simp
            | 2, ho, _ =>
              cases ho
              have e := r1 5 (by decide)
              simp only [execOp]
              go_simp
            | 3, ho, hE =>
              cases ho
              have e : ρ (.tmp 115) = _ := r2 { on := 2, ground := .data } (by simp) rfl (by decide) (by decide)
              have y := (HY5.out.box.below (hE rfl) HY5.out.box.lt).cell 4
              simp at y
              simp only [execOp]
              go_simp
            | 4, ho, hE =>
              cases ho
              have e : ρ (.tmp 116) = _ := r2 { on := 3, ground := .data } (by simp) rfl (by decide) (by decide)
              simp only [execOp]
              go_simp
            | 5, ho, hE =>
              cases ho
              have e : ρ (.tmp 117) = _ := r2 { on := 4, ground := .data } (by simp) rfl (by decide) (by decide)
              have hUo := own_below HY5.out.o4 (hE rfl)
              have g0 : U.cell? ⟨bk, 0, none⟩ = some (.int .u16 0) := own_at0 Prt.cells 6 (fun _ => rfl) hUo HPL.out.symm HP0.out 0 (.int .u16 0) rfl (by decide)
              have g1 : U.cell? ⟨bk, 1, none⟩ = some (.int .u16 0) := own_at0 Prt.cells 6 (fun _ => rfl) hUo HPL.out.symm HP0.out 1 (.int .u16 0) rfl (by decide)
              have g2 : U.cell? ⟨bk, 2, none⟩ = some (.string ⟨#[120]⟩) := own_at0 Prt.cells 6 (fun _ => rfl) hUo HPL.out.symm HP0.out 2 (.string ⟨#[120]⟩) rfl (by decide)
              have g3 : U.cell? ⟨bk, 3, none⟩ = some (.bool false) := own_at0 Prt.cells 6 (fun _ => rfl) hUo HPL.out.symm HP0.out 3 (.bool false) rfl (by decide)
              have g4 : U.cell? ⟨bk, 4, none⟩ = some (.bool false) := own_at0 Prt.cells 6 (fun _ => rfl) hUo HPL.out.symm HP0.out 4 (.bool false) rfl (by decide)
              have g5 : U.cell? ⟨bk, 5, none⟩ = some (.int .u32 0) := own_at0 Prt.cells 6 (fun _ => rfl) hUo HPL.out.symm HP0.out 5 (.int .u32 0) rfl (by decide)
              clear hUo
              simp only [execOp]
              go_simp
            | 6, _, _ => exact absurd rfl h1
            | 7, _, _ => exact absurd rfl h2
            | 8, ho, _ =>
              cases ho
              have e := r1 5 (by decide)
              simp only [execOp]
              go_simp
            | t + 9, ho, _ => omega
          case hlit =>
            intro o ho U hE ρ r0 r2
            cases ho
            have e : ρ (.tmp 118) = _ := r2 { on := 5, ground := .data } (by simp) rfl (by decide)
            refine ⟨.slice (some ⟨U.heap.size, 0, none⟩) 1 1, U.alloc (.cells #[.int .u16 0, .int .u16 0, .string ⟨#[120]⟩, .bool false, .bool false, .int .u32 0] 43), ?_, ⟨hE.1.alloc _, by have := hE.2; simp; omega⟩, fun hS => hS.alloc hE.2 _, below_one _ _, U.heap.size, rfl, hE.2, Blk.new _ _ _⟩
            simp only [execOp]
            go_simp
          case happ =>
            intro o ho U v hE ⟨g, hv, hg, hbk⟩ ρ r1 r2
            cases ho
            subst hv
            have e : ρ (.tmp 114) = (.slice (some ⟨bk, 0, none⟩) 1024 1024) := r2 { on := 1, ground := .data } (by simp) rfl (by decide)
            have r3 : ρ (.tmp 119) = .slice (some ⟨g, 0, none⟩) 1 1 := r1
            have hown := own_below HO5.out hE
            have hszU : w.heap.size ≤ U.heap.size := Nat.le_trans HY5.out.hB hE.size
            obtain ⟨v', w', hrun, h2, h3⟩ := run_append_rd (P := Tryz.prog) U w.heap.size 26 26 43 i0 (.agg #[.int .u16 0, .int .u16 0, .string .empty, .bool false, .bool false, .int .u32 0]) 6 32 Tryz.underlying26 hi0 hq0 hq1 hq2 rfl (by decide) _ 1024 _ hown U.heap.size (some ⟨g, 0, none⟩) 1 1 [.int .u16 0, .int .u16 0, .string ⟨#[120]⟩, .bool false, .bool false, .int .u32 0] (rd_block hbk rfl) (onePrt [prtX]) (by unfold maxLen; omega) (by omega) hszU
            have hof := Off.of_own hown h3
            obtain ⟨VA, vc, rfl, _⟩ := own_form h2
            refine ⟨_, w', ?_, ⟨(HY5.out.box.below hE HY5.out.box.lt).off hof (by decide), Nat.le_trans hE.size h3.size⟩, h3, VA, vc, rfl, h2, U, hE, hof, below_own (Below.refl w.heap.size U) h3 hown hszU⟩
            simp only [List.getElem_toArray, List.getElem_cons_succ, List.getElem_cons_zero, execOp, resolve, invoke, builtin, Sem.run_bind, Sem.run_pure, Result.andThen_ok, List.map_toArray, List.map_cons, List.map_nil, e, r3, hrun]
          case hend =>
            intro u U hE ⟨VA, vc, hu, hq, W1, hc, hof, hb4⟩ hcs ρ r0 r1 r2
            have hYW := HY5.out.up hc
            have HYN := Lib.hid (YSt.app4 (T' := PP ++ [prtX]) (v' := .slice VA (1024 + 1) vc) hYW hb4 hof (by rw [← hu, List.length_append, HPL.out, List.flatMap_append]; exact hq))
            have b0 := hE.1.cell 4
            have bf := hE.1.frozen 4
            have bz := hE.1.lt
            simp at b0
            have e1 : ρ (.tmp 120) = .slice VA (1024 + 1) vc := (r2 7 (by decide)).trans hu
            have e2 : ρ (.tmp 121) = _ := (r2 8 (by decide)).trans (hcs 8 (by decide) (by decide) (by decide))
            refine ⟨U.setCell ⟨gx, 4, none⟩ (.slice VA (1024 + 1) vc), by simp only [execOp]; go_simp, ?_⟩
            simp only [mkAt, List.take_succ_cons, List.take_zero, List.drop_succ_cons, List.drop_zero, List.range, List.range.loop, List.map_cons, List.map_nil, List.cons_append, List.nil_append]
            clear b0 bf bz hq hof hc e1 e2 hYW hb4 hE hu hcs HY5 HO5
            go_wp2_with fail
            refine (alive_ok _).mono ?_
            rintro e w7 ⟨rfl, hb7⟩
            have HY7 := Lib.hid (HYN.out.up hb7)
            clear hb7 HYN
            have E1 := Lib.hid (show 1 = (flatC 1 0 0 1025 []).parts.length from by show _ = (List.replicate 1 parX).length; rw [List.length_replicate])
            have E2 := Lib.hid (show 0 = (flatC 1 0 0 1025 []).wins.length from by show _ = (List.replicate 0 win0).length; rw [List.length_replicate])
            have E3 := Lib.hid (show 0 = (flatC 1 0 0 1025 []).regs.length from by show _ = (List.replicate 0 reg0).length; rw [List.length_replicate])
            have E4 := Lib.hid (show 1025 = (flatC 1 0 0 1025 []).ports.length from by show _ = (List.replicate 1025 prtX).length; rw [List.length_replicate])
            have E5 := Lib.hid (show 0 = (flatC 1 0 0 1025 []).chans.length from by rfl)
            obtain ⟨x, hx⟩ : ∃ x, x = flatC 1 0 0 1025 [] := ⟨_, rfl⟩
            have HX := Lib.hid hx
            have HC0 := Lib.hid (show chkBad x = (7, 4, 1024) from by rw [hx]; exact more_bad (s := 4) (m := 1024) (.inr <| .inr <| .inr <| .inl ⟨rfl, rfl, rfl, rfl, rfl, rfl⟩) rfl)
            have HT0 := Lib.hid (show x.total ≤ 4194304 from by rw [hx]; exact more_tot (s := 4) (m := 1024) (.inr <| .inr <| .inr <| .inl ⟨rfl, rfl, rfl, rfl, rfl, rfl⟩) (by decide))
            have HBX := Lib.hid (YSt.cfg HY7.out (x := x) (by rw [hx, HPP.out]; rw [show List.replicate 1024 prtX ++ [prtX] = List.replicate 1025 prtX from (List.replicate_succ').symm]; rfl) (by rw [HX.out]; exact E1.out) (by rw [HX.out]; exact E2.out) (by rw [HX.out]; exact E3.out) (by rw [HX.out]; exact E4.out) (by rw [HX.out]; exact E5.out))
            clear hx
            obtain ⟨z0, z1, z2, z3, z4, z5⟩ := (show w7.cell? ⟨gx, 0, none⟩ = some (.int .u64 0) ∧ w7.cell? ⟨gx, 1, none⟩ = some (.slice (some ⟨b1, 0, none⟩) 1 1) ∧ w7.cell? ⟨gx, 2, none⟩ = some (.slice none 0 0) ∧ w7.cell? ⟨gx, 3, none⟩ = some (.slice none 0 0) ∧ w7.cell? ⟨gx, 4, none⟩ = some (.slice VA (1024 + 1) vc) ∧ w7.cell? ⟨gx, 5, none⟩ = some (.slice none 0 0) from by
              have y0 := HY7.out.box.cell 0
              have y1 := HY7.out.box.cell 1
              have y2 := HY7.out.box.cell 2
              have y3 := HY7.out.box.cell 3
              have y4 := HY7.out.box.cell 4
              have y5 := HY7.out.box.cell 5
              simp at y0 y1 y2 y3 y4 y5
              exact ⟨y0, y1, y2, y3, y4, y5⟩)
            have yz := HY7.out.box.lt
            go_wp2_with fail
            refine (confCheckN x (some ⟨b1, 0, none⟩) none none VA none 1 0 0 vc 0 1 0 0 1025 0 0 (by rw [HX.out]; rfl) (by rw [HX.out]; exact E1.out) (by rw [HX.out]; exact E2.out) (by rw [HX.out]; exact E3.out) (by rw [HX.out]; exact E4.out) (by rw [HX.out]; exact E5.out) w7 HBX.out HT0.out 7 4 1024 HC0).mono ?_
            rintro e w8 ⟨rfl, hbw8⟩
            have HZ := Lib.hid (Below.then_ HY7.out.bel hbw8)
            clear hbw8 z0 z1 z2 z3 z4 z5 yz HBX HC0 HT0 HX E1 E2 E3 E4 E5
            go_wp2
            go_ret
            exact ⟨rfl, HZ.out⟩
set_option maxRecDepth 100000 in
set_option maxHeartbeats 16000000 in
theorem lim5_ok (sec : Int) (h0 : 0 ≤ sec) (h1 : sec ≤ 255) (hm : sec % 6 = 4) (w : World) : Calls Tryz.prog 8 #[.int .u8 sec] w fun e w' => e = .returned (.bool true) ∧ Below w.heap.size w w' := by
  have hmk1 := mkPar1
  have hmk4 := mkPrt1
  have hs1 : 1 + sec % 6 = 5 := by omega
  go_enter Tryz.func8, Tryz.ntmps8
  go_wp2_with fail
  refine (limit5_ok _).mono ?_
  rintro e w1 ⟨rfl, hb1⟩
  have HB1 := Lib.hid hb1
  have hsz1 := hb1.size
  clear hb1
  go_upto_region 3 with (fail)
  go_cut [5] (fun t wx => ∃ gx b1 b4, t = .pointer (some ⟨gx, 0, none⟩) ∧ Hid (YSt w.heap.size gx w wx 0 (.slice (some ⟨b1, 0, none⟩) 1 1) (.slice none 0 0) (.slice none 0 0) (.slice (some ⟨b4, 0, none⟩) 1 1) (.slice none 0 0) (List.replicate 1 par0) [] [] (List.replicate 1 prt0) []))
  case first =>
    have HBW := HB1
    go_region
    all_goals
      go_wp2_with fail
      go_meet
      case rel =>
        first
        | (refine lim_begin (b1 := w1.heap.size) (b4 := w1.heap.size + 1) ?_ ?_ ?_ ?_ ?_; (focus ((repeat (first | exact Blk.newG _ _ _ _ (by first | rfl | (simp; done) | (simp; omega)) | with_reducible refine Blk.alloc ?_ _ | with_reducible refine Blk.drew1 ?_)); done)); (focus ((repeat (first | exact own_lit1 _ _ _ 4 _ _ (by first | omega | (simp; done) | (simp; omega)) (by first | rfl | (simp; done) | (simp; omega)) rfl _ rfl | with_reducible refine own_up1 ?_ _ | with_reducible refine own_drew1 ?_)); done)); (focus ((repeat (first | exact own_lit1 _ _ _ 6 _ _ (by first | omega | (simp; done) | (simp; omega)) (by first | rfl | (simp; done) | (simp; omega)) rfl _ rfl | with_reducible refine own_up1 ?_ _ | with_reducible refine own_drew1 ?_)); done)); (focus ((repeat (first | with_reducible exact HBW.out | with_reducible exact Below.refl _ _ | with_reducible refine Below.drew ?_ | (with_reducible refine Below.alloc ?_ (by first | (simp; done) | (have hq := HBW.out.size; simp at hq ⊢; omega)) _) | (with_reducible refine Below.setCell ?_ (by first | (simp; done) | (have hq := HBW.out.size; simp at hq ⊢; omega)) _))); done)); (focus (first | (simp; done) | (simp; omega) | omega)))
        | (refine lim_begin (b1 := w1.heap.size) (b4 := w1.heap.size + 1 + 1) ?_ ?_ ?_ ?_ ?_; (focus ((repeat (first | exact Blk.newG _ _ _ _ (by first | rfl | (simp; done) | (simp; omega)) | with_reducible refine Blk.alloc ?_ _ | with_reducible refine Blk.drew1 ?_)); done)); (focus ((repeat (first | exact own_lit1 _ _ _ 4 _ _ (by first | omega | (simp; done) | (simp; omega)) (by first | rfl | (simp; done) | (simp; omega)) rfl _ rfl | with_reducible refine own_up1 ?_ _ | with_reducible refine own_drew1 ?_)); done)); (focus ((repeat (first | exact own_lit1 _ _ _ 6 _ _ (by first | omega | (simp; done) | (simp; omega)) (by first | rfl | (simp; done) | (simp; omega)) rfl _ rfl | with_reducible refine own_up1 ?_ _ | with_reducible refine own_drew1 ?_)); done)); (focus ((repeat (first | with_reducible exact HBW.out | with_reducible exact Below.refl _ _ | with_reducible refine Below.drew ?_ | (with_reducible refine Below.alloc ?_ (by first | (simp; done) | (have hq := HBW.out.size; simp at hq ⊢; omega)) _) | (with_reducible refine Below.setCell ?_ (by first | (simp; done) | (have hq := HBW.out.size; simp at hq ⊢; omega)) _))); done)); (focus (first | (simp; done) | (simp; omega) | omega)))
        | (refine lim_begin (b1 := w1.heap.size + 1) (b4 := w1.heap.size) ?_ ?_ ?_ ?_ ?_; (focus ((repeat (first | exact Blk.newG _ _ _ _ (by first | rfl | (simp; done) | (simp; omega)) | with_reducible refine Blk.alloc ?_ _ | with_reducible refine Blk.drew1 ?_)); done)); (focus ((repeat (first | exact own_lit1 _ _ _ 4 _ _ (by first | omega | (simp; done) | (simp; omega)) (by first | rfl | (simp; done) | (simp; omega)) rfl _ rfl | with_reducible refine own_up1 ?_ _ | with_reducible refine own_drew1 ?_)); done)); (focus ((repeat (first | exact own_lit1 _ _ _ 6 _ _ (by first | omega | (simp; done) | (simp; omega)) (by first | rfl | (simp; done) | (simp; omega)) rfl _ rfl | with_reducible refine own_up1 ?_ _ | with_reducible refine own_drew1 ?_)); done)); (focus ((repeat (first | with_reducible exact HBW.out | with_reducible exact Below.refl _ _ | with_reducible refine Below.drew ?_ | (with_reducible refine Below.alloc ?_ (by first | (simp; done) | (have hq := HBW.out.size; simp at hq ⊢; omega)) _) | (with_reducible refine Below.setCell ?_ (by first | (simp; done) | (have hq := HBW.out.size; simp at hq ⊢; omega)) _))); done)); (focus (first | (simp; done) | (simp; omega) | omega)))
        | (refine lim_begin (b1 := w1.heap.size + 1) (b4 := w1.heap.size + 1 + 1) ?_ ?_ ?_ ?_ ?_; (focus ((repeat (first | exact Blk.newG _ _ _ _ (by first | rfl | (simp; done) | (simp; omega)) | with_reducible refine Blk.alloc ?_ _ | with_reducible refine Blk.drew1 ?_)); done)); (focus ((repeat (first | exact own_lit1 _ _ _ 4 _ _ (by first | omega | (simp; done) | (simp; omega)) (by first | rfl | (simp; done) | (simp; omega)) rfl _ rfl | with_reducible refine own_up1 ?_ _ | with_reducible refine own_drew1 ?_)); done)); (focus ((repeat (first | exact own_lit1 _ _ _ 6 _ _ (by first | omega | (simp; done) | (simp; omega)) (by first | rfl | (simp; done) | (simp; omega)) rfl _ rfl | with_reducible refine own_up1 ?_ _ | with_reducible refine own_drew1 ?_)); done)); (focus ((repeat (first | with_reducible exact HBW.out | with_reducible exact Below.refl _ _ | with_reducible refine Below.drew ?_ | (with_reducible refine Below.alloc ?_ (by first | (simp; done) | (have hq := HBW.out.size; simp at hq ⊢; omega)) _) | (with_reducible refine Below.setCell ?_ (by first | (simp; done) | (have hq := HBW.out.size; simp at hq ⊢; omega)) _))); done)); (focus (first | (simp; done) | (simp; omega) | omega)))
        | (refine lim_begin (b1 := w1.heap.size + 1 + 1) (b4 := w1.heap.size) ?_ ?_ ?_ ?_ ?_; (focus ((repeat (first | exact Blk.newG _ _ _ _ (by first | rfl | (simp; done) | (simp; omega)) | with_reducible refine Blk.alloc ?_ _ | with_reducible refine Blk.drew1 ?_)); done)); (focus ((repeat (first | exact own_lit1 _ _ _ 4 _ _ (by first | omega | (simp; done) | (simp; omega)) (by first | rfl | (simp; done) | (simp; omega)) rfl _ rfl | with_reducible refine own_up1 ?_ _ | with_reducible refine own_drew1 ?_)); done)); (focus ((repeat (first | exact own_lit1 _ _ _ 6 _ _ (by first | omega | (simp; done) | (simp; omega)) (by first | rfl | (simp; done) | (simp; omega)) rfl _ rfl | with_reducible refine own_up1 ?_ _ | with_reducible refine own_drew1 ?_)); done)); (focus ((repeat (first | with_reducible exact HBW.out | with_reducible exact Below.refl _ _ | with_reducible refine Below.drew ?_ | (with_reducible refine Below.alloc ?_ (by first | (simp; done) | (have hq := HBW.out.size; simp at hq ⊢; omega)) _) | (with_reducible refine Below.setCell ?_ (by first | (simp; done) | (have hq := HBW.out.size; simp at hq ⊢; omega)) _))); done)); (focus (first | (simp; done) | (simp; omega) | omega)))
        | (refine lim_begin (b1 := w1.heap.size + 1 + 1) (b4 := w1.heap.size + 1) ?_ ?_ ?_ ?_ ?_; (focus ((repeat (first | exact Blk.newG _ _ _ _ (by first | rfl | (simp; done) | (simp; omega)) | with_reducible refine Blk.alloc ?_ _ | with_reducible refine Blk.drew1 ?_)); done)); (focus ((repeat (first | exact own_lit1 _ _ _ 4 _ _ (by first | omega | (simp; done) | (simp; omega)) (by first | rfl | (simp; done) | (simp; omega)) rfl _ rfl | with_reducible refine own_up1 ?_ _ | with_reducible refine own_drew1 ?_)); done)); (focus ((repeat (first | exact own_lit1 _ _ _ 6 _ _ (by first | omega | (simp; done) | (simp; omega)) (by first | rfl | (simp; done) | (simp; omega)) rfl _ rfl | with_reducible refine own_up1 ?_ _ | with_reducible refine own_drew1 ?_)); done)); (focus ((repeat (first | with_reducible exact HBW.out | with_reducible exact Below.refl _ _ | with_reducible refine Below.drew ?_ | (with_reducible refine Below.alloc ?_ (by first | (simp; done) | (have hq := HBW.out.size; simp at hq ⊢; omega)) _) | (with_reducible refine Below.setCell ?_ (by first | (simp; done) | (have hq := HBW.out.size; simp at hq ⊢; omega)) _))); done)); (focus (first | (simp; done) | (simp; omega) | omega)))
        | fail
  case rest =>
  obtain ⟨gx, b1, b4, rfl, HY⟩ := hcut
  obtain ⟨WC, rfl⟩ : ∃ WC, WC = wc := ⟨_, rfl⟩
  clear hmk1 hmk4 HB1 hsz1
  obtain ⟨V, hmk, hbV, hoV⟩ := makeChn 512 (by decide) WC
  have hmk2 : (Instr.makeSlice 27 (.int .i64 512) (.int .i64 512)).run Tryz.prog WC = .ok (.slice (some ⟨WC.heap.size, 0, none⟩) 512 512) V := hmk
  obtain ⟨K, hK⟩ : ∃ K, K = List.replicate 512 ce0 := ⟨_, rfl⟩
  have hKl : K.length = 512 := by rw [hK, List.length_replicate]
  have HK := Lib.hid hK
  rw [← hK] at hoV
  have HYV := Lib.hid (HY.out.up hbV)
  have HY2 := Lib.hid (YSt.app5 (L' := K) (v' := .slice (some ⟨WC.heap.size, 0, none⟩) 512 512) HYV.out (Below.refl _ _) (off_new _ (Below.refl _ _)) (by rw [hKl]; exact own_lessC hoV HY.out.hB) (by rw [hK]; exact ce0_own _ _ _))
  have bq := HYV.out.box.cell 5
  have bf := HYV.out.box.frozen 5
  have bz := HYV.out.box.lt
  simp at bq
  have HKL := Lib.hid hKl
  generalize WC.heap.size = bk at *
  clear hmk hbV hoV hK hKl HY HYV
  go_upto_region 16 with (fail)
  clear hmk2 bq bf bz
  generalize V.setCell ⟨gx, 5, none⟩ (.slice (some ⟨bk, 0, none⟩) 512 512) = W2 at *
  have HL0 : Hid (YSt w.heap.size gx w W2 0 (.slice (some ⟨b1, 0, none⟩) 1 1) (.slice none 0 0) (.slice none 0 0) (.slice (some ⟨b4, 0, none⟩) 1 1) (.slice (some ⟨bk, 0, none⟩) 512 512) (halfR 1 0 parX par0) [] [] (halfR 1 0 prtX prt0) K) := by rw [halfR_zero, halfR_zero]; exact HY2
  clear HY2
  have y1 := HL0.out.box.cell 1
  have yz := HL0.out.box.lt
  simp at y1
  go_wp2_with fail
  clear y1 yz
  go_loopw [51] (fun i wr => ∃ k : Nat, k ≤ 1 ∧ i = .int .i64 k ∧ Hid (YSt w.heap.size gx w wr 0 (.slice (some ⟨b1, 0, none⟩) 1 1) (.slice none 0 0) (.slice none 0 0) (.slice (some ⟨b4, 0, none⟩) 1 1) (.slice (some ⟨bk, 0, none⟩) 512 512) (halfR 1 k parX par0) [] [] (halfR 1 0 prtX prt0) K)) (fun i _ => 1 - (intOf i).toNat)
  case atStart => exact ⟨0, Nat.zero_le _, rfl, HL0⟩
  case round =>
    clear HL0
    obtain ⟨k, hk, rfl, HL⟩ := hrel
    have y1 := HL.out.box.cell 1
    have yz := HL.out.box.lt
    simp at y1
    by_cases hlt : k < 1
    · have g0 := own_at0 Par.cells 4 (fun _ => rfl) HL.out.o1 (halfR_len hk parX par0).symm (halfR_at hlt parX par0) 1 _ rfl (by decide)
      have f0 := World.ownsRow.frozenAt (show wr.ownsRow w.heap.size 36 4 (.slice (some ⟨b1, 0, none⟩) 1 1) 1 ((halfR 1 k parX par0).flatMap Par.cells) from by have h := HL.out.o1; rwa [halfR_len hk] at h) (k * 4 + 1)
      have HN := Lib.hid (YSt.nam1 HL.out (halfR_len hk parX par0).symm (halfR_at hlt parX par0) ⟨#[120]⟩)
      rw [parX_set hlt] at HN
      have k0 : (0 : Int) ≤ (k : Int) := by omega
      have k1 : (k : Int) < 1 := by omega
      go_wp2
      go_roundw
      case rel => exact ⟨k + 1, by omega, by go_num, HN⟩
      case measure => simp [intOf]; omega
    · obtain rfl : k = 1 := by omega
      have y4 := HL.out.box.cell 4
      simp at y4
      go_wp2_with fail
      clear y1 yz y4
      go_loopw [63] (fun i wr => ∃ k : Nat, k ≤ 1 ∧ i = .int .i64 k ∧ Hid (YSt w.heap.size gx w wr 0 (.slice (some ⟨b1, 0, none⟩) 1 1) (.slice none 0 0) (.slice none 0 0) (.slice (some ⟨b4, 0, none⟩) 1 1) (.slice (some ⟨bk, 0, none⟩) 512 512) (halfR 1 1 parX par0) [] [] (halfR 1 k prtX prt0) K)) (fun i _ => 1 - (intOf i).toNat)
      case atStart => exact ⟨0, Nat.zero_le _, rfl, HL⟩
      case round =>
        clear HL
        obtain ⟨k, hk, rfl, HL⟩ := hrel
        have y4 := HL.out.box.cell 4
        have yz := HL.out.box.lt
        simp at y4
        by_cases hlt : k < 1
        · have g0 := own_at0 Prt.cells 6 (fun _ => rfl) HL.out.o4 (halfR_len hk prtX prt0).symm (halfR_at hlt prtX prt0) 2 _ rfl (by decide)
          have f0 := World.ownsRow.frozenAt (show wr.ownsRow w.heap.size 43 6 (.slice (some ⟨b4, 0, none⟩) 1 1) 1 ((halfR 1 k prtX prt0).flatMap Prt.cells) from by have h := HL.out.o4; rwa [halfR_len hk] at h) (k * 6 + 2)
          have HN := Lib.hid (YSt.nam4 HL.out (halfR_len hk prtX prt0).symm (halfR_at hlt prtX prt0) ⟨#[120]⟩)
          rw [prtX_set hlt] at HN
          have k0 : (0 : Int) ≤ (k : Int) := by omega
          have k1 : (k : Int) < 1 := by omega
          go_wp2
          go_roundw
          case rel => exact ⟨k + 1, by omega, by go_num, HN⟩
          case measure => simp [intOf]; omega
        · obtain rfl : k = 1 := by omega
          clear y4 yz
          have HF : Hid (YSt w.heap.size gx w wr 0 (.slice (some ⟨b1, 0, none⟩) 1 1) (.slice none 0 0) (.slice none 0 0) (.slice (some ⟨b4, 0, none⟩) 1 1) (.slice (some ⟨bk, 0, none⟩) 512 512) (List.replicate 1 parX) [] [] (List.replicate 1 prtX) K) := by
            have h := HL
            rw [halfR_end, halfR_end] at h
            exact h
          clear HL
          have E1 := Lib.hid (show 1 = (flatC 1 0 0 1 (List.replicate 512 chn0)).parts.length from by show _ = (List.replicate 1 parX).length; rw [List.length_replicate])
          have E2 := Lib.hid (show 0 = (flatC 1 0 0 1 (List.replicate 512 chn0)).wins.length from by show _ = (List.replicate 0 win0).length; rw [List.length_replicate])
          have E3 := Lib.hid (show 0 = (flatC 1 0 0 1 (List.replicate 512 chn0)).regs.length from by show _ = (List.replicate 0 reg0).length; rw [List.length_replicate])
          have E4 := Lib.hid (show 1 = (flatC 1 0 0 1 (List.replicate 512 chn0)).ports.length from by show _ = (List.replicate 1 prtX).length; rw [List.length_replicate])
          have E5 := Lib.hid (show 512 = (flatC 1 0 0 1 (List.replicate 512 chn0)).chans.length from by show _ = (List.replicate 512 chn0).length; rw [List.length_replicate])
          obtain ⟨x, hx⟩ : ∃ x, x = flatC 1 0 0 1 (List.replicate 512 chn0) := ⟨_, rfl⟩
          have HX := Lib.hid hx
          have HC0 := Lib.hid (show chkBad x = (0, 0, 0) from by rw [hx]; exact full_ok (s := 5) (m := 512) (.inr <| .inr <| .inr <| .inr <| .inl ⟨rfl, rfl, rfl, rfl, rfl, rfl⟩) rfl)
          have HT0 := Lib.hid (show x.total ≤ 4194304 from by rw [hx]; exact full_tot (s := 5) (m := 512) (.inr <| .inr <| .inr <| .inr <| .inl ⟨rfl, rfl, rfl, rfl, rfl, rfl⟩) (by decide))
          have HBX := Lib.hid (YSt.cfg HF.out (x := x) (by rw [hx, HK.out]; simp only [List.map_replicate]; rfl) (by rw [HX.out]; exact E1.out) (by rw [HX.out]; exact E2.out) (by rw [HX.out]; exact E3.out) (by rw [HX.out]; exact E4.out) (by rw [HX.out]; exact E5.out))
          clear hx
          obtain ⟨z0, z1, z2, z3, z4, z5⟩ := (show wr.cell? ⟨gx, 0, none⟩ = some (.int .u64 0) ∧ wr.cell? ⟨gx, 1, none⟩ = some (.slice (some ⟨b1, 0, none⟩) 1 1) ∧ wr.cell? ⟨gx, 2, none⟩ = some (.slice none 0 0) ∧ wr.cell? ⟨gx, 3, none⟩ = some (.slice none 0 0) ∧ wr.cell? ⟨gx, 4, none⟩ = some (.slice (some ⟨b4, 0, none⟩) 1 1) ∧ wr.cell? ⟨gx, 5, none⟩ = some (.slice (some ⟨bk, 0, none⟩) 512 512) from by
            have y0 := HF.out.box.cell 0
            have y1 := HF.out.box.cell 1
            have y2 := HF.out.box.cell 2
            have y3 := HF.out.box.cell 3
            have y4 := HF.out.box.cell 4
            have y5 := HF.out.box.cell 5
            simp at y0 y1 y2 y3 y4 y5
            exact ⟨y0, y1, y2, y3, y4, y5⟩)
          have yz := HF.out.box.lt
          go_wp2_with fail
          refine (confCheckN x (some ⟨b1, 0, none⟩) none none (some ⟨b4, 0, none⟩) (some ⟨bk, 0, none⟩) 1 0 0 1 512 1 0 0 1 512 0 (by rw [HX.out]; rfl) (by rw [HX.out]; exact E1.out) (by rw [HX.out]; exact E2.out) (by rw [HX.out]; exact E3.out) (by rw [HX.out]; exact E4.out) (by rw [HX.out]; exact E5.out) wr HBX.out HT0.out 0 0 0 HC0).mono ?_
          rintro e w5 ⟨rfl, hbw5⟩
          have HY5 := Lib.hid (HF.out.up hbw5)
          clear hbw5 z0 z1 z2 z3 z4 z5 yz HF HBX HC0 HT0 HX E1 E2 E3 E4 E5
          have q0 := HY5.out.box.cell 5
          simp at q0
          have qz := HY5.out.box.lt
          have HYA := Lib.hid (HY5.out.up (below_one w5 (.cells #[.int .u16 0, .int .u16 0, .slice none 0 0] 46)))
          have HR3 := Lib.hid (show (w5.alloc (.cells #[.int .u16 0, .int .u16 0, .slice none 0 0] 46)).ownsRow w.heap.size 46 3 (.slice (some ⟨bk, 0, none⟩) 512 512) 512 (K.flatMap CE.cells) from by
            have h := HYA.out.o5
            rwa [HKL.out] at h)
          obtain ⟨i0, hi0, hq0, hq1, hq2⟩ := info_parts infoChannel
          have hszw : w.heap.size ≤ w5.heap.size := HY5.out.hB
          go_wp2_with (at_builtin; go_loud ((refine wpList_append_rd _ rfl (.tmp 125) (.tmp 127) _ rfl w.heap.size 46 i0 (.agg #[.int .u16 0, .int .u16 0, .slice none 0 0]) 3 32 Tryz.underlying27 hi0 hq0 hq1 hq2 rfl (by decide) _ _ _ rfl HR3.out (w5.alloc (.cells #[.int .u16 0, .int .u16 0, .slice none 0 0] 46)).heap.size (some ⟨w5.heap.size, 0, none⟩) 1 1 ([ce0].flatMap CE.cells) rfl (rd_block (heap_alloc_new w5 _) rfl) (oneCe0) (by unfold maxLen; omega) (by omega) (by simp; omega) ?_); intro v' w6 hown hg; (obtain ⟨VA, vc, rfl, _, _, _⟩ := own_form hown); have hofA := Off.of_own HR3.out hg; have hbx := HYA.out.box.off hofA (by decide); have HYN := Lib.hid (YSt.app5 (L' := K ++ [ce0]) (v' := .slice VA (512 + 1) vc) HYA.out (below_own (Below.refl w.heap.size _) hg HR3.out (by simp; omega)) hofA (by rw [List.length_append, HKL.out, List.flatMap_append]; exact hown) (HYA.out.ch.off hofA (by decide) |>.snoc (World.ownsRow_nil _ _ _ _) (fun _ _ _ _ h => by cases h))); have b0 := hbx.cell 5; have bf := hbx.frozen 5; have bz := hbx.lt; (simp at b0); clear hofA hbx hown hg))
          clear b0 bf bz q0 qz HYA HR3 HY5
          go_wp2_with fail
          refine (alive_ok _).mono ?_
          rintro e w7 ⟨rfl, hb7⟩
          have HY7 := Lib.hid (HYN.out.up hb7)
          clear hb7 HYN
          have E1 := Lib.hid (show 1 = (flatC 1 0 0 1 (List.replicate 512 chn0 ++ [chn0])).parts.length from by show _ = (List.replicate 1 parX).length; rw [List.length_replicate])
          have E2 := Lib.hid (show 0 = (flatC 1 0 0 1 (List.replicate 512 chn0 ++ [chn0])).wins.length from by show _ = (List.replicate 0 win0).length; rw [List.length_replicate])
          have E3 := Lib.hid (show 0 = (flatC 1 0 0 1 (List.replicate 512 chn0 ++ [chn0])).regs.length from by show _ = (List.replicate 0 reg0).length; rw [List.length_replicate])
          have E4 := Lib.hid (show 1 = (flatC 1 0 0 1 (List.replicate 512 chn0 ++ [chn0])).ports.length from by show _ = (List.replicate 1 prtX).length; rw [List.length_replicate])
          have E5 := Lib.hid (show 513 = (flatC 1 0 0 1 (List.replicate 512 chn0 ++ [chn0])).chans.length from by show _ = (List.replicate 512 chn0 ++ [chn0]).length; rw [List.length_append, List.length_replicate]; rfl)
          obtain ⟨x, hx⟩ : ∃ x, x = flatC 1 0 0 1 (List.replicate 512 chn0 ++ [chn0]) := ⟨_, rfl⟩
          have HX := Lib.hid hx
          have HC0 := Lib.hid (show chkBad x = (7, 5, 512) from by rw [hx]; exact more_bad (s := 5) (m := 512) (.inr <| .inr <| .inr <| .inr <| .inl ⟨rfl, rfl, rfl, rfl, rfl, rfl⟩) rfl)
          have HT0 := Lib.hid (show x.total ≤ 4194304 from by rw [hx]; exact more_tot (s := 5) (m := 512) (.inr <| .inr <| .inr <| .inr <| .inl ⟨rfl, rfl, rfl, rfl, rfl, rfl⟩) (by decide))
          have HBX := Lib.hid (YSt.cfg HY7.out (x := x) (by rw [hx, HK.out]; simp only [List.map_append, List.map_replicate]; rfl) (by rw [HX.out]; exact E1.out) (by rw [HX.out]; exact E2.out) (by rw [HX.out]; exact E3.out) (by rw [HX.out]; exact E4.out) (by rw [HX.out]; exact E5.out))
          clear hx
          obtain ⟨z0, z1, z2, z3, z4, z5⟩ := (show w7.cell? ⟨gx, 0, none⟩ = some (.int .u64 0) ∧ w7.cell? ⟨gx, 1, none⟩ = some (.slice (some ⟨b1, 0, none⟩) 1 1) ∧ w7.cell? ⟨gx, 2, none⟩ = some (.slice none 0 0) ∧ w7.cell? ⟨gx, 3, none⟩ = some (.slice none 0 0) ∧ w7.cell? ⟨gx, 4, none⟩ = some (.slice (some ⟨b4, 0, none⟩) 1 1) ∧ w7.cell? ⟨gx, 5, none⟩ = some (.slice VA (512 + 1) vc) from by
            have y0 := HY7.out.box.cell 0
            have y1 := HY7.out.box.cell 1
            have y2 := HY7.out.box.cell 2
            have y3 := HY7.out.box.cell 3
            have y4 := HY7.out.box.cell 4
            have y5 := HY7.out.box.cell 5
            simp at y0 y1 y2 y3 y4 y5
            exact ⟨y0, y1, y2, y3, y4, y5⟩)
          have yz := HY7.out.box.lt
          go_wp2_with fail
          refine (confCheckN x (some ⟨b1, 0, none⟩) none none (some ⟨b4, 0, none⟩) VA 1 0 0 1 vc 1 0 0 1 513 0 (by rw [HX.out]; rfl) (by rw [HX.out]; exact E1.out) (by rw [HX.out]; exact E2.out) (by rw [HX.out]; exact E3.out) (by rw [HX.out]; exact E4.out) (by rw [HX.out]; exact E5.out) w7 HBX.out HT0.out 7 5 512 HC0).mono ?_
          rintro e w8 ⟨rfl, hbw8⟩
          have HZ := Lib.hid (Below.then_ HY7.out.bel hbw8)
          clear hbw8 z0 z1 z2 z3 z4 z5 yz HBX HC0 HT0 HX E1 E2 E3 E4 E5
          go_wp2
          go_ret
          exact ⟨rfl, HZ.out⟩
set_option maxRecDepth 100000 in
set_option maxHeartbeats 16000000 in
theorem lim6_ok (sec : Int) (h0 : 0 ≤ sec) (h1 : sec ≤ 255) (hm : sec % 6 = 5) (w : World) : Calls Tryz.prog 8 #[.int .u8 sec] w fun e w' => e = .returned (.bool true) ∧ Below w.heap.size w w' := by
  have hmk1 := mkPar1
  have hmk4 := mkPrt1
  have hs1 : 1 + sec % 6 = 6 := by omega
  go_enter Tryz.func8, Tryz.ntmps8
  go_wp2_with fail
  refine (limit6_ok _).mono ?_
  rintro e w1 ⟨rfl, hb1⟩
  have HB1 := Lib.hid hb1
  have hsz1 := hb1.size
  clear hb1
  go_upto_region 3 with (fail)
  go_cut [5] (fun t wx => ∃ gx b1 b4, t = .pointer (some ⟨gx, 0, none⟩) ∧ Hid (YSt w.heap.size gx w wx 0 (.slice (some ⟨b1, 0, none⟩) 1 1) (.slice none 0 0) (.slice none 0 0) (.slice (some ⟨b4, 0, none⟩) 1 1) (.slice none 0 0) (List.replicate 1 par0) [] [] (List.replicate 1 prt0) []))
  case first =>
    have HBW := HB1
    go_region
    all_goals
      go_wp2_with fail
      go_meet
      case rel =>
        first
        | (refine lim_begin (b1 := w1.heap.size) (b4 := w1.heap.size + 1) ?_ ?_ ?_ ?_ ?_; (focus ((repeat (first | exact Blk.newG _ _ _ _ (by first | rfl | (simp; done) | (simp; omega)) | with_reducible refine Blk.alloc ?_ _ | with_reducible refine Blk.drew1 ?_)); done)); (focus ((repeat (first | exact own_lit1 _ _ _ 4 _ _ (by first | omega | (simp; done) | (simp; omega)) (by first | rfl | (simp; done) | (simp; omega)) rfl _ rfl | with_reducible refine own_up1 ?_ _ | with_reducible refine own_drew1 ?_)); done)); (focus ((repeat (first | exact own_lit1 _ _ _ 6 _ _ (by first | omega | (simp; done) | (simp; omega)) (by first | rfl | (simp; done) | (simp; omega)) rfl _ rfl | with_reducible refine own_up1 ?_ _ | with_reducible refine own_drew1 ?_)); done)); (focus ((repeat (first | with_reducible exact HBW.out | with_reducible exact Below.refl _ _ | with_reducible refine Below.drew ?_ | (with_reducible refine Below.alloc ?_ (by first | (simp; done) | (have hq := HBW.out.size; simp at hq ⊢; omega)) _) | (with_reducible refine Below.setCell ?_ (by first | (simp; done) | (have hq := HBW.out.size; simp at hq ⊢; omega)) _))); done)); (focus (first | (simp; done) | (simp; omega) | omega)))
        | (refine lim_begin (b1 := w1.heap.size) (b4 := w1.heap.size + 1 + 1) ?_ ?_ ?_ ?_ ?_; (focus ((repeat (first | exact Blk.newG _ _ _ _ (by first | rfl | (simp; done) | (simp; omega)) | with_reducible refine Blk.alloc ?_ _ | with_reducible refine Blk.drew1 ?_)); done)); (focus ((repeat (first | exact own_lit1 _ _ _ 4 _ _ (by first | omega | (simp; done) | (simp; omega)) (by first | rfl | (simp; done) | (simp; omega)) rfl _ rfl | with_reducible refine own_up1 ?_ _ | with_reducible refine own_drew1 ?_)); done)); (focus ((repeat (first | exact own_lit1 _ _ _ 6 _ _ (by first | omega | (simp; done) | (simp; omega)) (by first | rfl | (simp; done) | (simp; omega)) rfl _ rfl | with_reducible refine own_up1 ?_ _ | with_reducible refine own_drew1 ?_)); done)); (focus ((repeat (first | with_reducible exact HBW.out | with_reducible exact Below.refl _ _ | with_reducible refine Below.drew ?_ | (with_reducible refine Below.alloc ?_ (by first | (simp; done) | (have hq := HBW.out.size; simp at hq ⊢; omega)) _) | (with_reducible refine Below.setCell ?_ (by first | (simp; done) | (have hq := HBW.out.size; simp at hq ⊢; omega)) _))); done)); (focus (first | (simp; done) | (simp; omega) | omega)))
        | (refine lim_begin (b1 := w1.heap.size + 1) (b4 := w1.heap.size) ?_ ?_ ?_ ?_ ?_; (focus ((repeat (first | exact Blk.newG _ _ _ _ (by first | rfl | (simp; done) | (simp; omega)) | with_reducible refine Blk.alloc ?_ _ | with_reducible refine Blk.drew1 ?_)); done)); (focus ((repeat (first | exact own_lit1 _ _ _ 4 _ _ (by first | omega | (simp; done) | (simp; omega)) (by first | rfl | (simp; done) | (simp; omega)) rfl _ rfl | with_reducible refine own_up1 ?_ _ | with_reducible refine own_drew1 ?_)); done)); (focus ((repeat (first | exact own_lit1 _ _ _ 6 _ _ (by first | omega | (simp; done) | (simp; omega)) (by first | rfl | (simp; done) | (simp; omega)) rfl _ rfl | with_reducible refine own_up1 ?_ _ | with_reducible refine own_drew1 ?_)); done)); (focus ((repeat (first | with_reducible exact HBW.out | with_reducible exact Below.refl _ _ | with_reducible refine Below.drew ?_ | (with_reducible refine Below.alloc ?_ (by first | (simp; done) | (have hq := HBW.out.size; simp at hq ⊢; omega)) _) | (with_reducible refine Below.setCell ?_ (by first | (simp; done) | (have hq := HBW.out.size; simp at hq ⊢; omega)) _))); done)); (focus (first | (simp; done) | (simp; omega) | omega)))
        | (refine lim_begin (b1 := w1.heap.size + 1) (b4 := w1.heap.size + 1 + 1) ?_ ?_ ?_ ?_ ?_; (focus ((repeat (first | exact Blk.newG _ _ _ _ (by first | rfl | (simp; done) | (simp; omega)) | with_reducible refine Blk.alloc ?_ _ | with_reducible refine Blk.drew1 ?_)); done)); (focus ((repeat (first | exact own_lit1 _ _ _ 4 _ _ (by first | omega | (simp; done) | (simp; omega)) (by first | rfl | (simp; done) | (simp; omega)) rfl _ rfl | with_reducible refine own_up1 ?_ _ | with_reducible refine own_drew1 ?_)); done)); (focus ((repeat (first | exact own_lit1 _ _ _ 6 _ _ (by first | omega | (simp; done) | (simp; omega)) (by first | rfl | (simp; done) | (simp; omega)) rfl _ rfl | with_reducible refine own_up1 ?_ _ | with_reducible refine own_drew1 ?_)); done)); (focus ((repeat (first | with_reducible exact HBW.out | with_reducible exact Below.refl _ _ | with_reducible refine Below.drew ?_ | (with_reducible refine Below.alloc ?_ (by first | (simp; done) | (have hq := HBW.out.size; simp at hq ⊢; omega)) _) | (with_reducible refine Below.setCell ?_ (by first | (simp; done) | (have hq := HBW.out.size; simp at hq ⊢; omega)) _))); done)); (focus (first | (simp; done) | (simp; omega) | omega)))
        | (refine lim_begin (b1 := w1.heap.size + 1 + 1) (b4 := w1.heap.size) ?_ ?_ ?_ ?_ ?_; (focus ((repeat (first | exact Blk.newG _ _ _ _ (by first | rfl | (simp; done) | (simp; omega)) | with_reducible refine Blk.alloc ?_ _ | with_reducible refine Blk.drew1 ?_)); done)); (focus ((repeat (first | exact own_lit1 _ _ _ 4 _ _ (by first | omega | (simp; done) | (simp; omega)) (by first | rfl | (simp; done) | (simp; omega)) rfl _ rfl | with_reducible refine own_up1 ?_ _ | with_reducible refine own_drew1 ?_)); done)); (focus ((repeat (first | exact own_lit1 _ _ _ 6 _ _ (by first | omega | (simp; done) | (simp; omega)) (by first | rfl | (simp; done) | (simp; omega)) rfl _ rfl | with_reducible refine own_up1 ?_ _ | with_reducible refine own_drew1 ?_)); done)); (focus ((repeat (first | with_reducible exact HBW.out | with_reducible exact Below.refl _ _ | with_reducible refine Below.drew ?_ | (with_reducible refine Below.alloc ?_ (by first | (simp; done) | (have hq := HBW.out.size; simp at hq ⊢; omega)) _) | (with_reducible refine Below.setCell ?_ (by first | (simp; done) | (have hq := HBW.out.size; simp at hq ⊢; omega)) _))); done)); (focus (first | (simp; done) | (simp; omega) | omega)))
        | (refine lim_begin (b1 := w1.heap.size + 1 + 1) (b4 := w1.heap.size + 1) ?_ ?_ ?_ ?_ ?_; (focus ((repeat (first | exact Blk.newG _ _ _ _ (by first | rfl | (simp; done) | (simp; omega)) | with_reducible refine Blk.alloc ?_ _ | with_reducible refine Blk.drew1 ?_)); done)); (focus ((repeat (first | exact own_lit1 _ _ _ 4 _ _ (by first | omega | (simp; done) | (simp; omega)) (by first | rfl | (simp; done) | (simp; omega)) rfl _ rfl | with_reducible refine own_up1 ?_ _ | with_reducible refine own_drew1 ?_)); done)); (focus ((repeat (first | exact own_lit1 _ _ _ 6 _ _ (by first | omega | (simp; done) | (simp; omega)) (by first | rfl | (simp; done) | (simp; omega)) rfl _ rfl | with_reducible refine own_up1 ?_ _ | with_reducible refine own_drew1 ?_)); done)); (focus ((repeat (first | with_reducible exact HBW.out | with_reducible exact Below.refl _ _ | with_reducible refine Below.drew ?_ | (with_reducible refine Below.alloc ?_ (by first | (simp; done) | (have hq := HBW.out.size; simp at hq ⊢; omega)) _) | (with_reducible refine Below.setCell ?_ (by first | (simp; done) | (have hq := HBW.out.size; simp at hq ⊢; omega)) _))); done)); (focus (first | (simp; done) | (simp; omega) | omega)))
        | fail
  case rest =>
  obtain ⟨gx, b1, b4, rfl, HY⟩ := hcut
  obtain ⟨WC, rfl⟩ : ∃ WC, WC = wc := ⟨_, rfl⟩
  clear hmk1 hmk4 HB1 hsz1
  have hmkU := mkU1
  obtain ⟨V1, hmk, hbV, hoV, hzV⟩ := makeU 1024 (by decide) WC
  have hmk2 : (Instr.makeSlice 44 (.int .i64 1024) (.int .i64 1024)).run Tryz.prog WC = .ok (.slice (some ⟨WC.heap.size, 0, none⟩) 1024 1024) V1 := hmk
  obtain ⟨K, hK⟩ : ∃ K, K = List.replicate 1024 (0 : Int) := ⟨_, rfl⟩
  have hKl : K.length = 1024 := by rw [hK, List.length_replicate]
  have HK := Lib.hid hK
  rw [← hK] at hoV
  obtain ⟨V, hV⟩ : ∃ V, V1.alloc (.cells #[.int .u16 0, .int .u16 0, .slice (some ⟨WC.heap.size, 0, none⟩) 1024 1024] 46) = V := ⟨_, rfl⟩
  have hb2 : Below V1.heap.size V1 V := by rw [← hV]; exact below_one _ _
  have hoC : V.ownsRow w.heap.size 46 3 (.slice (some ⟨V1.heap.size, 0, none⟩) 1 1) 1 (([⟨⟨0, 0, K⟩, some ⟨WC.heap.size, 0, none⟩, 1024⟩] : List CE).flatMap CE.cells) := by
    rw [← hV]
    exact own_lit1 _ _ _ 3 _ _ (Nat.le_trans HY.out.hB hbV.size) rfl rfl _ (by simp [CE.cells, CE.v, hKl])
  have HYV := Lib.hid (HY.out.up (Below.then_ hbV hb2))
  have HY2 := Lib.hid (YSt.app5 (L' := [⟨⟨0, 0, K⟩, some ⟨WC.heap.size, 0, none⟩, 1024⟩]) (v' := .slice (some ⟨V1.heap.size, 0, none⟩) 1 1) HYV.out (Below.refl _ _) (off_new _ (Below.refl _ _)) hoC
    (ChnsO.nil.snoc (e := ⟨⟨0, 0, K⟩, some ⟨WC.heap.size, 0, none⟩, 1024⟩) (by
      have h := own_lessC (own_below hoV hb2) HY.out.hB
      show V.ownsRow w.heap.size 34 1 (.slice (some ⟨WC.heap.size, 0, none⟩) K.length 1024) K.length (K.map (Value.int .u16))
      rw [hKl]; exact h) (fun a ha => by cases ha)))
  have bq := HYV.out.box.cell 5
  have bf := HYV.out.box.frozen 5
  have bz := HYV.out.box.lt
  simp at bq
  have HKL := Lib.hid hKl
  have HV := Lib.hid hV
  rw [← hV] at bq bf bz
  clear hmk hbV hoV hK hKl HY HYV hb2 hoC hV hzV
  go_upto_region 16 with (fail)
  rw [HV.out]
  clear hmk2 bq bf bz HV
  generalize WC.heap.size = bk at *
  generalize V1.heap.size = bk2 at *
  generalize V.setCell ⟨gx, 5, none⟩ (.slice (some ⟨bk2, 0, none⟩) 1 1) = W2 at *
  have HL0 : Hid (YSt w.heap.size gx w W2 0 (.slice (some ⟨b1, 0, none⟩) 1 1) (.slice none 0 0) (.slice none 0 0) (.slice (some ⟨b4, 0, none⟩) 1 1) (.slice (some ⟨bk2, 0, none⟩) 1 1) (halfR 1 0 parX par0) [] [] (halfR 1 0 prtX prt0) [⟨⟨0, 0, K⟩, some ⟨bk, 0, none⟩, 1024⟩]) := by rw [halfR_zero, halfR_zero]; exact HY2
  clear HY2
  have y1 := HL0.out.box.cell 1
  have yz := HL0.out.box.lt
  simp at y1
  go_wp2_with fail
  clear y1 yz
  go_loopw [51] (fun i wr => ∃ k : Nat, k ≤ 1 ∧ i = .int .i64 k ∧ Hid (YSt w.heap.size gx w wr 0 (.slice (some ⟨b1, 0, none⟩) 1 1) (.slice none 0 0) (.slice none 0 0) (.slice (some ⟨b4, 0, none⟩) 1 1) (.slice (some ⟨bk2, 0, none⟩) 1 1) (halfR 1 k parX par0) [] [] (halfR 1 0 prtX prt0) [⟨⟨0, 0, K⟩, some ⟨bk, 0, none⟩, 1024⟩])) (fun i _ => 1 - (intOf i).toNat)
  case atStart => exact ⟨0, Nat.zero_le _, rfl, HL0⟩
  case round =>
    clear HL0
    obtain ⟨k, hk, rfl, HL⟩ := hrel
    have y1 := HL.out.box.cell 1
    have yz := HL.out.box.lt
    simp at y1
    by_cases hlt : k < 1
    · have g0 := own_at0 Par.cells 4 (fun _ => rfl) HL.out.o1 (halfR_len hk parX par0).symm (halfR_at hlt parX par0) 1 _ rfl (by decide)
      have f0 := World.ownsRow.frozenAt (show wr.ownsRow w.heap.size 36 4 (.slice (some ⟨b1, 0, none⟩) 1 1) 1 ((halfR 1 k parX par0).flatMap Par.cells) from by have h := HL.out.o1; rwa [halfR_len hk] at h) (k * 4 + 1)
      have HN := Lib.hid (YSt.nam1 HL.out (halfR_len hk parX par0).symm (halfR_at hlt parX par0) ⟨#[120]⟩)
      rw [parX_set hlt] at HN
      have k0 : (0 : Int) ≤ (k : Int) := by omega
      have k1 : (k : Int) < 1 := by omega
      go_wp2
      go_roundw
      case rel => exact ⟨k + 1, by omega, by go_num, HN⟩
      case measure => simp [intOf]; omega
    · obtain rfl : k = 1 := by omega
      have y4 := HL.out.box.cell 4
      simp at y4
      go_wp2_with fail
      clear y1 yz y4
      go_loopw [63] (fun i wr => ∃ k : Nat, k ≤ 1 ∧ i = .int .i64 k ∧ Hid (YSt w.heap.size gx w wr 0 (.slice (some ⟨b1, 0, none⟩) 1 1) (.slice none 0 0) (.slice none 0 0) (.slice (some ⟨b4, 0, none⟩) 1 1) (.slice (some ⟨bk2, 0, none⟩) 1 1) (halfR 1 1 parX par0) [] [] (halfR 1 k prtX prt0) [⟨⟨0, 0, K⟩, some ⟨bk, 0, none⟩, 1024⟩])) (fun i _ => 1 - (intOf i).toNat)
      case atStart => exact ⟨0, Nat.zero_le _, rfl, HL⟩
      case round =>
        clear HL
        obtain ⟨k, hk, rfl, HL⟩ := hrel
        have y4 := HL.out.box.cell 4
        have yz := HL.out.box.lt
        simp at y4
        by_cases hlt : k < 1
        · have g0 := own_at0 Prt.cells 6 (fun _ => rfl) HL.out.o4 (halfR_len hk prtX prt0).symm (halfR_at hlt prtX prt0) 2 _ rfl (by decide)
          have f0 := World.ownsRow.frozenAt (show wr.ownsRow w.heap.size 43 6 (.slice (some ⟨b4, 0, none⟩) 1 1) 1 ((halfR 1 k prtX prt0).flatMap Prt.cells) from by have h := HL.out.o4; rwa [halfR_len hk] at h) (k * 6 + 2)
          have HN := Lib.hid (YSt.nam4 HL.out (halfR_len hk prtX prt0).symm (halfR_at hlt prtX prt0) ⟨#[120]⟩)
          rw [prtX_set hlt] at HN
          have k0 : (0 : Int) ≤ (k : Int) := by omega
          have k1 : (k : Int) < 1 := by omega
          go_wp2
          go_roundw
          case rel => exact ⟨k + 1, by omega, by go_num, HN⟩
          case measure => simp [intOf]; omega
        · obtain rfl : k = 1 := by omega
          clear y4 yz
          have HF : Hid (YSt w.heap.size gx w wr 0 (.slice (some ⟨b1, 0, none⟩) 1 1) (.slice none 0 0) (.slice none 0 0) (.slice (some ⟨b4, 0, none⟩) 1 1) (.slice (some ⟨bk2, 0, none⟩) 1 1) (List.replicate 1 parX) [] [] (List.replicate 1 prtX) [⟨⟨0, 0, K⟩, some ⟨bk, 0, none⟩, 1024⟩]) := by
            have h := HL
            rw [halfR_end, halfR_end] at h
            exact h
          clear HL
          have E1 := Lib.hid (show 1 = (flatC 1 0 0 1 [⟨0, 0, List.replicate 1024 0⟩]).parts.length from by show _ = (List.replicate 1 parX).length; rw [List.length_replicate])
          have E2 := Lib.hid (show 0 = (flatC 1 0 0 1 [⟨0, 0, List.replicate 1024 0⟩]).wins.length from by show _ = (List.replicate 0 win0).length; rw [List.length_replicate])
          have E3 := Lib.hid (show 0 = (flatC 1 0 0 1 [⟨0, 0, List.replicate 1024 0⟩]).regs.length from by show _ = (List.replicate 0 reg0).length; rw [List.length_replicate])
          have E4 := Lib.hid (show 1 = (flatC 1 0 0 1 [⟨0, 0, List.replicate 1024 0⟩]).ports.length from by show _ = (List.replicate 1 prtX).length; rw [List.length_replicate])
          have E5 := Lib.hid (show 1 = (flatC 1 0 0 1 [⟨0, 0, List.replicate 1024 0⟩]).chans.length from by rfl)
          obtain ⟨x, hx⟩ : ∃ x, x = flatC 1 0 0 1 [⟨0, 0, List.replicate 1024 0⟩] := ⟨_, rfl⟩
          have HX := Lib.hid hx
          have HC0 := Lib.hid (show chkBad x = (0, 0, 0) from by rw [hx]; exact full_ok (s := 6) (m := 1024) (.inr <| .inr <| .inr <| .inr <| .inr ⟨rfl, rfl, rfl, rfl, rfl, rfl⟩) rfl)
          have HT0 := Lib.hid (show x.total ≤ 4194304 from by rw [hx]; exact full_tot (s := 6) (m := 1024) (.inr <| .inr <| .inr <| .inr <| .inr ⟨rfl, rfl, rfl, rfl, rfl, rfl⟩) (by decide))
          have HBX := Lib.hid (YSt.cfg HF.out (x := x) (by rw [hx, HK.out]; rfl) (by rw [HX.out]; exact E1.out) (by rw [HX.out]; exact E2.out) (by rw [HX.out]; exact E3.out) (by rw [HX.out]; exact E4.out) (by rw [HX.out]; exact E5.out))
          clear hx
          obtain ⟨z0, z1, z2, z3, z4, z5⟩ := (show wr.cell? ⟨gx, 0, none⟩ = some (.int .u64 0) ∧ wr.cell? ⟨gx, 1, none⟩ = some (.slice (some ⟨b1, 0, none⟩) 1 1) ∧ wr.cell? ⟨gx, 2, none⟩ = some (.slice none 0 0) ∧ wr.cell? ⟨gx, 3, none⟩ = some (.slice none 0 0) ∧ wr.cell? ⟨gx, 4, none⟩ = some (.slice (some ⟨b4, 0, none⟩) 1 1) ∧ wr.cell? ⟨gx, 5, none⟩ = some (.slice (some ⟨bk2, 0, none⟩) 1 1) from by
            have y0 := HF.out.box.cell 0
            have y1 := HF.out.box.cell 1
            have y2 := HF.out.box.cell 2
            have y3 := HF.out.box.cell 3
            have y4 := HF.out.box.cell 4
            have y5 := HF.out.box.cell 5
            simp at y0 y1 y2 y3 y4 y5
            exact ⟨y0, y1, y2, y3, y4, y5⟩)
          have yz := HF.out.box.lt
          go_wp2_with fail
          refine (confCheckN x (some ⟨b1, 0, none⟩) none none (some ⟨b4, 0, none⟩) (some ⟨bk2, 0, none⟩) 1 0 0 1 1 1 0 0 1 1 0 (by rw [HX.out]; rfl) (by rw [HX.out]; exact E1.out) (by rw [HX.out]; exact E2.out) (by rw [HX.out]; exact E3.out) (by rw [HX.out]; exact E4.out) (by rw [HX.out]; exact E5.out) wr HBX.out HT0.out 0 0 0 HC0).mono ?_
          rintro e w5 ⟨rfl, hbw5⟩
          have HY5 := Lib.hid (HF.out.up hbw5)
          clear hbw5 z0 z1 z2 z3 z4 z5 yz HF HBX HC0 HT0 HX E1 E2 E3 E4 E5
          have HO5 := Lib.hid (show w5.ownsRow w.heap.size 46 3 (.slice (some ⟨bk2, 0, none⟩) 1 1) 1 (([⟨⟨0, 0, K⟩, some ⟨bk, 0, none⟩, 1024⟩] : List CE).flatMap CE.cells) from HY5.out.o5)
          have hbk5 : bk2 < w5.heap.size := by
            obtain ⟨g, cap, h, _, hlt⟩ := HO5.out.form (by decide)
            injection h with h
            injection h with h
            injection h with h
            omega
          have hbk6 : bk < w5.heap.size := by
            obtain ⟨g, cap, h, _, hlt⟩ := (HY5.out.ch.own _ (List.mem_singleton_self _)).form (by show 0 < K.length; rw [HKL.out]; decide)
            injection h with h
            injection h with h
            injection h with h
            omega
          have hwB : w.heap.size ≤ w5.heap.size := HY5.out.hB
          obtain ⟨i0, hi0, hq0, hq1, hq2⟩ := info_parts infoChannel
          go_upto_region 29 with (fail)
          refine wp_region_D 77 7 _ rfl rfl (by kernel_rfl) (by kernel_rfl) (by kernel_rfl) (by kernel_rfl) (by kernel_rfl) (Nat.le_of_ble_eq_true (by kernel_rfl))
            (s6 w.heap.size gx bk2 w5 ((([⟨⟨0, 0, K⟩, some ⟨bk, 0, none⟩, 1024⟩] : List CE).flatMap CE.cells)))
            (fun l U => Blk U gx 29 #[.int .u64 0, .slice (some ⟨b1, 0, none⟩) 1 1, .slice none 0 0, .slice none 0 0, .slice (some ⟨b4, 0, none⟩) 1 1, .slice (some ⟨bk2, 0, none⟩) 1 1] ∧ w5.heap.size ≤ U.heap.size ∧ (l[5]? = some false → Below w5.heap.size w5 U)) (le6 bk2)
            ⟨HY5.out.box, Nat.le_refl _, fun _ => (Below.refl _ _).drew⟩
            (fun l i j u U U' hij _ _ _ hS hL => s6_stay hbk5 hwB hij hS hL) (fun i j u v U _ hij hS => s6_loc v hij hS) ?hop ?hend
          case hop =>
            intro q o ho hq l u U hE hf hp ρ r0 rf r1 r2
            match q, ho, hf with
            | 0, ho, _ =>
              cases ho
              have e := r1 5 (by decide)
              refine RunsTo.val (.pointer (some ⟨gx, 5, none⟩)) (by simp only [execOp]; go_simp) ⟨⟨hE.1, hE.2.1, fun h => hE.2.2 (by rwa [Array.getElem?_setIfInBounds_ne (by decide)] at h)⟩, Below.refl _ _, upd_self _ _ _⟩
            | 1, ho, _ =>
              cases ho
              have e : ρ (.tmp 77) = .pointer (some ⟨gx, 5, none⟩) := (r2 { on := 0, ground := .data } (by simp) rfl).trans (hp { on := 0, ground := .data } (by simp) rfl)
              have y := hE.1.cell 5
              simp at y
              refine RunsTo.val (.slice (some ⟨bk2, 0, none⟩) 1 1) (by simp only [execOp]; go_simp) ⟨⟨hE.1, hE.2.1, fun h => hE.2.2 (by rwa [Array.getElem?_setIfInBounds_ne (by decide)] at h)⟩, Below.refl _ _, upd_self _ _ _⟩
            | 2, ho, _ =>
              cases ho
              have e := mkU1r U
              refine RunsTo.val (.slice (some ⟨U.heap.size, 0, none⟩) 1 1) (V := U.alloc (.cells #[.int .u16 0] 34)) (by simp only [execOp]; go_simp) ⟨⟨hE.1.alloc _, by have := hE.2.1; simp; omega, fun h => (hE.2.2 (by rwa [Array.getElem?_setIfInBounds_ne (by decide)] at h)).alloc hE.2.1 _⟩, below_one _ _, U.heap.size, upd_self _ _ _, hE.2.1, Blk.new _ _ _⟩
            | 3, ho, _ =>
              cases ho
              obtain ⟨g, hu, hg⟩ := hp { on := 2, ground := .data } (by simp) rfl
              have e : ρ (.tmp 79) = .slice (some ⟨g, 0, none⟩) 1 1 := (r2 { on := 2, ground := .data } (by simp) rfl).trans hu
              refine RunsTo.val (.agg #[.int .u16 0, .int .u16 0, .slice (some ⟨g, 0, none⟩) 1 1]) (by simp only [execOp]; go_simp) ⟨⟨hE.1, hE.2.1, fun h => hE.2.2 (by rwa [Array.getElem?_setIfInBounds_ne (by decide)] at h)⟩, Below.refl _ _, g, upd_self _ _ _, hg⟩
            | 4, ho, _ =>
              cases ho
              obtain ⟨g, hu, hg⟩ := hp { on := 3, ground := .data } (by simp) rfl
              have e : ρ (.tmp 80) = .agg #[.int .u16 0, .int .u16 0, .slice (some ⟨g, 0, none⟩) 1 1] := (r2 { on := 3, ground := .data } (by simp) rfl).trans hu
              refine RunsTo.val (.slice (some ⟨U.heap.size, 0, none⟩) 1 1) (V := U.alloc (.cells #[.int .u16 0, .int .u16 0, .slice (some ⟨g, 0, none⟩) 1 1] 46)) (by simp only [execOp]; go_simp) ⟨⟨hE.1.alloc _, by have := hE.2.1; simp; omega, fun h => (hE.2.2 (by rwa [Array.getElem?_setIfInBounds_ne (by decide)] at h)).alloc hE.2.1 _⟩, below_one _ _, g, U.heap.size, upd_self _ _ _, ⟨hg.1, hg.2.alloc _⟩, hE.2.1, Blk.new _ _ _⟩
            | 5, ho, hf =>
              cases ho
              have hu1 := hp { on := 1, ground := .data } (by simp) rfl
              obtain ⟨g, g2, hu, hg, hg2, hk2⟩ := hp { on := 4, ground := .data } (by simp) rfl
              have e : ρ (.tmp 78) = .slice (some ⟨bk2, 0, none⟩) 1 1 := (r2 { on := 1, ground := .data } (by simp) rfl).trans hu1
              have r3 : ρ (.tmp 81) = .slice (some ⟨g2, 0, none⟩) 1 1 := (r2 { on := 4, ground := .data } (by simp) rfl).trans hu
              have hbU := hE.2.2 hf
              have hown := own_below HO5.out hbU
              have hszU : w.heap.size ≤ U.heap.size := Nat.le_trans hwB hE.2.1
              obtain ⟨v', w', hrun, h2, h3⟩ := run_append_rd (P := Tryz.prog) U w.heap.size 27 27 46 i0 (.agg #[.int .u16 0, .int .u16 0, .slice none 0 0]) 3 32 Tryz.underlying27 hi0 hq0 hq1 hq2 rfl (by decide) _ 1 _ hown U.heap.size (some ⟨g2, 0, none⟩) 1 1 [.int .u16 0, .int .u16 0, .slice (some ⟨g, 0, none⟩) 1 1] (rd_block hk2 rfl) oneCh1 (by unfold maxLen; omega) (by omega) hszU
              have hof := Off.of_own hown h3
              obtain ⟨VA, vc, rfl, _⟩ := own_form h2
              refine RunsTo.val (.slice VA (1 + 1) vc) (V := w') ?_ ⟨⟨hE.1.off hof (by decide), Nat.le_trans hE.2.1 h3.size, fun h => by
                rw [Array.getElem?_setIfInBounds_self] at h
                split at h <;> cases h⟩, by rw [le6, if_pos rfl]; exact h3, VA, vc, g, upd_self _ _ _, ⟨hg.1, hg.2.off hof (by decide)⟩, h2, U, hbU, hof, below_own (Below.refl w.heap.size U) h3 hown hszU⟩
              simp only [List.getElem_toArray, List.getElem_cons_succ, List.getElem_cons_zero, execOp, resolve, invoke, builtin, Sem.run_bind, Sem.run_pure, Result.andThen_ok, List.map_toArray, List.map_cons, List.map_nil, e, r3, hrun]
            | 6, ho, _ =>
              cases ho
              have e := r1 5 (by decide)
              refine RunsTo.val (.pointer (some ⟨gx, 5, none⟩)) (by simp only [execOp]; go_simp) ⟨⟨hE.1, hE.2.1, fun h => hE.2.2 (by rwa [Array.getElem?_setIfInBounds_ne (by decide)] at h)⟩, Below.refl _ _, upd_self _ _ _⟩
            | t + 7, _, _ => omega
          case hend =>
            intro l u U hE hS ρ hρ r0 rf r1 r2 Kk hKk
            obtain ⟨VA, vc, g, hu, hg, hq, W1, hc, hof, hb4⟩ := hS 5 (by decide)
            have hu6 := hS 6 (by decide)
            have hYW := HY5.out.up hc
            have hchU := (hYW.ch.off hof (by decide)).snoc (e := ⟨⟨0, 0, [0]⟩, some ⟨g, 0, none⟩, 1⟩) (own_blk hg.2 (Nat.le_trans hwB hg.1)) (fun a ha g' h1 h2 => by
              rw [List.mem_singleton] at ha
              subst ha
              simp [Value.ownBlock] at h1 h2
              have := hg.1
              omega)
            have HYN := Lib.hid (YSt.app5 (L' := [⟨⟨0, 0, K⟩, some ⟨bk, 0, none⟩, 1024⟩] ++ [⟨⟨0, 0, [0]⟩, some ⟨g, 0, none⟩, 1⟩]) (v' := .slice VA (1 + 1) vc) hYW hb4 hof (by rw [List.flatMap_append]; exact hq) hchU)
            have b0 := hE.1.cell 5
            have bf := hE.1.frozen 5
            have bz := hE.1.lt
            simp at b0
            have e1 : ρ (.tmp 82) = .slice VA (1 + 1) vc := (r2 5 (by decide)).trans hu
            have e2 : ρ (.tmp 83) = .pointer (some ⟨gx, 5, none⟩) := (r2 6 (by decide)).trans hu6
            refine wp_skipR hρ (w' := U.setCell ⟨gx, 5, none⟩ (.slice VA (1 + 1) vc)) (by clear hρ r0 rf r1 r2; simp only [execOp]; go_simp) (hKk _ _ ?_)
            clear b0 bf bz hq hof hc e1 e2 hYW hb4 hE hu hu6 HY5 HO5 hchU r0 rf r1 r2 hS hKk hρ
            simp only [mkAt, List.take_succ_cons, List.take_zero, List.drop_succ_cons, List.drop_zero, List.range, List.range.loop, List.map_cons, List.map_nil, List.cons_append, List.nil_append]
            go_wp2_with fail
            refine (alive_ok _).mono ?_
            rintro e w7 ⟨rfl, hb7⟩
            have HY7 := Lib.hid (HYN.out.up hb7)
            clear hb7 HYN
            have E1 := Lib.hid (show 1 = (flatC 1 0 0 1 ([⟨0, 0, List.replicate 1024 0⟩] ++ [⟨0, 0, List.replicate 1 0⟩])).parts.length from by show _ = (List.replicate 1 parX).length; rw [List.length_replicate])
            have E2 := Lib.hid (show 0 = (flatC 1 0 0 1 ([⟨0, 0, List.replicate 1024 0⟩] ++ [⟨0, 0, List.replicate 1 0⟩])).wins.length from by show _ = (List.replicate 0 win0).length; rw [List.length_replicate])
            have E3 := Lib.hid (show 0 = (flatC 1 0 0 1 ([⟨0, 0, List.replicate 1024 0⟩] ++ [⟨0, 0, List.replicate 1 0⟩])).regs.length from by show _ = (List.replicate 0 reg0).length; rw [List.length_replicate])
            have E4 := Lib.hid (show 1 = (flatC 1 0 0 1 ([⟨0, 0, List.replicate 1024 0⟩] ++ [⟨0, 0, List.replicate 1 0⟩])).ports.length from by show _ = (List.replicate 1 prtX).length; rw [List.length_replicate])
            have E5 := Lib.hid (show 2 = (flatC 1 0 0 1 ([⟨0, 0, List.replicate 1024 0⟩] ++ [⟨0, 0, List.replicate 1 0⟩])).chans.length from by rfl)
            obtain ⟨x, hx⟩ : ∃ x, x = flatC 1 0 0 1 ([⟨0, 0, List.replicate 1024 0⟩] ++ [⟨0, 0, List.replicate 1 0⟩]) := ⟨_, rfl⟩
            have HX := Lib.hid hx
            have HC0 := Lib.hid (show chkBad x = (7, 6, 1024) from by rw [hx]; exact more_bad (s := 6) (m := 1024) (.inr <| .inr <| .inr <| .inr <| .inr ⟨rfl, rfl, rfl, rfl, rfl, rfl⟩) rfl)
            have HT0 := Lib.hid (show x.total ≤ 4194304 from by rw [hx]; exact more_tot (s := 6) (m := 1024) (.inr <| .inr <| .inr <| .inr <| .inr ⟨rfl, rfl, rfl, rfl, rfl, rfl⟩) (by decide))
            have HBX := Lib.hid (YSt.cfg HY7.out (x := x) (by rw [hx, HK.out]; rfl) (by rw [HX.out]; exact E1.out) (by rw [HX.out]; exact E2.out) (by rw [HX.out]; exact E3.out) (by rw [HX.out]; exact E4.out) (by rw [HX.out]; exact E5.out))
            clear hx
            obtain ⟨z0, z1, z2, z3, z4, z5⟩ := (show w7.cell? ⟨gx, 0, none⟩ = some (.int .u64 0) ∧ w7.cell? ⟨gx, 1, none⟩ = some (.slice (some ⟨b1, 0, none⟩) 1 1) ∧ w7.cell? ⟨gx, 2, none⟩ = some (.slice none 0 0) ∧ w7.cell? ⟨gx, 3, none⟩ = some (.slice none 0 0) ∧ w7.cell? ⟨gx, 4, none⟩ = some (.slice (some ⟨b4, 0, none⟩) 1 1) ∧ w7.cell? ⟨gx, 5, none⟩ = some (.slice VA (1 + 1) vc) from by
              have y0 := HY7.out.box.cell 0
              have y1 := HY7.out.box.cell 1
              have y2 := HY7.out.box.cell 2
              have y3 := HY7.out.box.cell 3
              have y4 := HY7.out.box.cell 4
              have y5 := HY7.out.box.cell 5
              simp at y0 y1 y2 y3 y4 y5
              exact ⟨y0, y1, y2, y3, y4, y5⟩)
            have yz := HY7.out.box.lt
            go_wp2_with fail
            refine (confCheckN x (some ⟨b1, 0, none⟩) none none (some ⟨b4, 0, none⟩) VA 1 0 0 1 vc 1 0 0 1 2 0 (by rw [HX.out]; rfl) (by rw [HX.out]; exact E1.out) (by rw [HX.out]; exact E2.out) (by rw [HX.out]; exact E3.out) (by rw [HX.out]; exact E4.out) (by rw [HX.out]; exact E5.out) w7 HBX.out HT0.out 7 6 1024 HC0).mono ?_
            rintro e w8 ⟨rfl, hbw8⟩
            have HZ := Lib.hid (Below.then_ HY7.out.bel hbw8)
            clear hbw8 z0 z1 z2 z3 z4 z5 yz HBX HC0 HT0 HX E1 E2 E3 E4 E5
            go_wp2
            go_ret
            exact ⟨rfl, HZ.out⟩
theorem confLimits_ok (sec : Int) (hsec : wU8 sec) (w : World) : Calls Tryz.prog 8 #[.int .u8 sec] w fun e w' => e = .returned (.bool true) ∧ Below w.heap.size w w' := by
  have kb := Go.bounds_u8 hsec
  have h0 : 0 ≤ sec := kb.1
  have h1 : sec ≤ 255 := kb.2
  have h6 : sec % 6 = 0 ∨ sec % 6 = 1 ∨ sec % 6 = 2 ∨ sec % 6 = 3 ∨ sec % 6 = 4 ∨ sec % 6 = 5 := by omega
  rcases h6 with h | h | h | h | h | h
  · exact lim1_ok sec h0 h1 h w
  · exact lim2_ok sec h0 h1 h w
  · exact lim3_ok sec h0 h1 h w
  · exact lim4_ok sec h0 h1 h w
  · exact lim5_ok sec h0 h1 h w
  · exact lim6_ok sec h0 h1 h w
end Go.Proofs.YtldchpmilknlmaaGreat
