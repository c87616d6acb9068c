/-
  The example of the chapter of layer 5 holds: 'alive' returns true.
-/
import Derived.Test.YtldchpmilknlmaaGreatEq7
namespace Go.Proofs.YtldchpmilknlmaaGreat
open Go.RowKit
attribute [local go_sem] eq7
theorem Rd.block5 {w : World} {g sz n : Nat} {t : TypeId} {cs : Array Value} (h : w.heap[g]? = some (.cells cs t (0, 0))) (hn : cs.size = n * sz) : Rd w w.heap.size sz (some ⟨g, 0, none⟩) n cs.toList :=
  ⟨by simpa using hn, fun _ => ⟨g, 0, rfl, (Array.getElem?_eq_some_iff.1 h).1, fun j u hu => by
    have := World.news_of_block h j u hu
    rwa [addr_add] at this⟩⟩
def aC : Cfg := ⟨100, [], [⟨50, 5, 0⟩, ⟨10, 5, 0⟩], [], [], []⟩
def aN : Cfg := ⟨100, [], [⟨10, 5, 0⟩, ⟨50, 5, 0⟩], [], [], []⟩
theorem normK_nil {α : Type} (key : α → List Int) : normK key [] = [] := by unfold normK; simp
theorem a_norm : aC.norm = aN := by
  have h : ([⟨10, 5, 0⟩, ⟨50, 5, 0⟩] : List Win) = normK keyWin [⟨50, 5, 0⟩, ⟨10, 5, 0⟩] := by
    refine normK_unique keyWin (fun _ _ => keyWin_inj) (List.Perm.swap _ _ _) ?_
    unfold Asc
    simp [keyWin, cmpL, Lib.compareInt]
  unfold Cfg.norm aC aN
  simp only [normK_nil, List.map_nil]
  rw [← h]
theorem a_ne : ¬ aC = aC.norm := by rw [a_norm]; intro h; injection h with _ _ h; simp at h
def aW (w : World) : World := w.alloc (.cells #[.int .u64 50, .int .u64 5, .int .u16 0, .int .u64 10, .int .u64 5, .int .u16 0] 38)
theorem aR (w : World) : CfgR (aW w) (aW w).heap.size aC none (some ⟨w.heap.size, 0, none⟩) none none none 0 2 0 0 0 := by
  have h1 : Rd (aW w) (aW w).heap.size 3 (some ⟨w.heap.size, 0, none⟩) 2 [.int .u64 50, .int .u64 5, .int .u16 0, .int .u64 10, .int .u64 5, .int .u16 0] := Rd.block5 (heap_alloc_new w _) rfl
  exact ⟨Rd.nil, h1, Rd.nil, Rd.nil, ⟨_, rfl, Rd.nil⟩, ⟨Nat.le_refl _, by unfold maxLen; omega⟩, ⟨Nat.le_refl _, by unfold maxLen; omega⟩, ⟨Nat.le_refl _, by unfold maxLen; omega⟩, ⟨Nat.le_refl _, by unfold maxLen; omega⟩, ⟨Nat.le_refl _, by unfold maxLen; omega⟩⟩
theorem aStart (w : World) : ∃ W4 W0 : World, W4.heap.size = w.heap.size + 1 ∧ (aW w).alloc (.cells #[.int .u64 100, .slice none 0 0, .slice (some ⟨w.heap.size, 0, none⟩) 2 2, .slice none 0 0, .slice none 0 0, .slice none 0 0] 29) = W0 ∧
    St W4 W0 aC none (some ⟨w.heap.size, 0, none⟩) none none none 0 2 0 0 0 ∧ Below w.heap.size w W4 :=
  ⟨aW w, _, by simp [aW], rfl, St.start (aR w) _, below_one _ _⟩
set_option maxRecDepth 100000 in
set_option maxHeartbeats 4000000 in
theorem alive_ok (w : World) : Calls Tryz.prog 10 #[] w fun e w' => e = .returned (.bool true) ∧ Below w.heap.size w w' := by
  obtain ⟨W4, W0, h4, hW, st, hb4⟩ := aStart w
  unfold aW at hW
  have ST0 := Lib.hid st
  have HW := Lib.hid hW
  have H4 := Lib.hid h4
  have HE := Lib.hid (show eqC aN aN.norm = true from eqC_yes (by rw [← a_norm, norm_idem]))
  have HF := Lib.hid (show eqC aC aC.norm = false from eqC_no a_ne)
  clear hW st h4
  go_enter Tryz.func10, Tryz.ntmps10
  go_upto_region 2 with (fail)
  rw [HW.out, ← H4.out]
  obtain ⟨x0, x1, x2, x3, x4, x5, hz⟩ := ST0.out.cells
  go_wp2_with fail
  refine (normal_ok aC _ _ _ _ _ _ _ _ _ _ _ ST0.out.R (show 2 ≤ 4194304 by omega)).mono ?_
  rintro e w1 ⟨B1, B2, B3, B4, B5, b1, b2, b3, b4, b5, he, hown, hb1⟩
  replace he : e = .returned (cfgV 100 B1 B2 B3 B4 B5 0 2 0 0 0 b1 b2 b3 b4 b5) := he
  subst he
  rw [a_norm] at hown
  have ST1 := Lib.hid (ST0.out.up hb1)
  have hR1 := hown.toR
  obtain ⟨V, hV, sn⟩ := St.start_any hR1 29
  have HV := Lib.hid hV
  have SN := Lib.hid sn
  have ST2 := Lib.hid (ST1.out.up sn.bel)
  obtain ⟨bw, ow, ew, hbw, g0, g1, g2⟩ := win_at (l := aN.wins) (k := 0) (x := ⟨10, 5, 0⟩) sn.R.wins rfl
  subst ew
  simp only [Nat.zero_mul, Nat.add_zero] at g0 g1 g2
  clear hown hb1 hR1 hV x0 x1 x2 x3 x4 x5 hz
  go_upto_region 3 with (fail)
  have hV2 := HV.out
  simp only [show aN.parts.length = 0 from rfl, show aN.wins.length = 2 from rfl, show aN.regs.length = 0 from rfl, show aN.ports.length = 0 from rfl, show aN.chans.length = 0 from rfl, show aN.frame = 100 from rfl] at hV2
  rw [hV2]
  clear hV2
  obtain ⟨y0, y1, y2, y3, y4, y5, hzy⟩ := sn.cells
  obtain ⟨x0, x1, x2, x3, x4, x5, hz⟩ := ST2.out.cells
  simp only [show aN.parts.length = 0 from rfl, show aN.wins.length = 2 from rfl, show aN.regs.length = 0 from rfl, show aN.ports.length = 0 from rfl, show aN.chans.length = 0 from rfl, show aN.frame = 100 from rfl] at y0 y1 y2 y3 y4 y5
  clear sn
  go_wp2_with fail
  refine (isNormal_ok aN _ _ _ _ _ _ _ _ _ _ _ SN.out.R (show 2 ≤ 4194304 by omega) true HE).mono ?_
  rintro e w2 ⟨rfl, hb2⟩
  have ST3 := Lib.hid (ST2.out.up hb2)
  clear hb2 x0 x1 x2 x3 x4 x5 hz y0 y1 y2 y3 y4 y5 hzy g0 g1 g2 hbw
  obtain ⟨x0, x1, x2, x3, x4, x5, hz⟩ := ST3.out.cells
  go_wp2_with fail
  refine (isNormal_ok aC _ _ _ _ _ _ _ _ _ _ _ ST3.out.R (show 2 ≤ 4194304 by omega) false HF).mono ?_
  rintro e w3 ⟨rfl, hb3⟩
  have ST4 := Lib.hid (ST3.out.up hb3)
  clear hb3 x0 x1 x2 x3 x4 x5 hz
  obtain ⟨x0, x1, x2, x3, x4, x5, hz⟩ := ST4.out.cells
  go_wp2_with fail
  refine (countsW_ok aC _ _ _ _ _ _ _ _ _ _ _ ST4.out.R (show 2 ≤ 4194304 by omega)).mono ?_
  rintro e w4 ⟨he, hb5⟩
  replace he : e = .returned (.agg #[.int .i64 0, .int .i64 0, .int .i64 2, .int .i64 0, .int .i64 0, .int .i64 0, .int .i64 0]) := he
  subst he
  have HZ := Lib.hid (Below.then_ hb4 (ST4.out.up hb5).bel)
  clear hb4 hb5 x0 x1 x2 x3 x4 x5 hz
  go_wp2
  go_ret
  exact ⟨rfl, HZ.out⟩
end Go.Proofs.YtldchpmilknlmaaGreat
