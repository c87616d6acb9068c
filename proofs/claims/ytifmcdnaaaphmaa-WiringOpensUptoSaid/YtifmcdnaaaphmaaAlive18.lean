/-
  The example of the chapter of layer 18 holds: 'alive' returns true.
-/
import Derived.Test.YtifmcdnaaaphmaaFlowW
import Derived.Test.YtifmcdnaaaphmaaWirH
namespace Go.Proofs.Ytifmcdnaaaphmaa
open Go.RowKit Go.Lib
theorem Rd.block {w : World} {g sz n : Nat} {t : TypeId} {cs : Array Value} (h : w.heap[g]? = some (.cells cs t (0, 0))) (hn : cs.size = n * sz) : Rd w w.heap.size sz (some ⟨g, 0, none⟩) n cs.toList :=
  ⟨by simpa using hn, fun _ => ⟨g, 0, rfl, (Array.getElem?_eq_some_iff.1 h).1, fun j u hu => by
    have := World.news_of_block h j u hu
    rwa [addr_add] at this⟩⟩
def aC : Cfg := ⟨0, [⟨1, ⟨#[97]⟩, 0, 0⟩, ⟨2, ⟨#[98]⟩, 0, 0⟩], [], [], [⟨1, 1, ⟨#[120]⟩, true, false, 8⟩, ⟨2, 2, ⟨#[120]⟩, false, false, 8⟩], [⟨1, 1, [2]⟩]⟩
theorem aC_ok : aC.ok := by
  refine ⟨by unfold wU64; decide, ?_, by simp [aC], by simp [aC], ?_, ?_⟩
  · intro p hp
    simp [aC] at hp
    rcases hp with rfl | rfl <;> exact ⟨by unfold wU16; decide, by show 1 ≤ _; unfold maxLen; omega, by unfold wU64; decide, by unfold wU64; decide⟩
  · intro p hp
    simp [aC] at hp
    rcases hp with rfl | rfl <;> exact ⟨by unfold wU16; decide, by unfold wU16; decide, by show 1 ≤ _; unfold maxLen; omega, by unfold wU32; decide⟩
  · intro p hp
    simp [aC] at hp
    subst hp
    exact ⟨by unfold wU16; decide, by unfold wU16; decide, by intro d hd; simp at hd; subst hd; unfold wU16; decide⟩
theorem aC_small : aC.small := by
  refine ⟨by show 6 ≤ BIG; unfold BIG; omega, ?_, ?_⟩
  · intro p hp
    simp [aC] at hp
    rcases hp with rfl | rfl <;> (show 1 ≤ BIG; unfold BIG; omega)
  · intro p hp
    simp [aC] at hp
    rcases hp with rfl | rfl <;> (show 1 ≤ BIG; unfold BIG; omega)
def aP : Obj := .cells #[.int .u16 1, .string ⟨#[97]⟩, .int .u64 0, .int .u64 0, .int .u16 2, .string ⟨#[98]⟩, .int .u64 0, .int .u64 0] 49
def aT : Obj := .cells #[.int .u16 1, .int .u16 1, .string ⟨#[120]⟩, .bool true, .bool false, .int .u32 8, .int .u16 2, .int .u16 2, .string ⟨#[120]⟩, .bool false, .bool false, .int .u32 8] 43
def aD : Obj := .cells #[.int .u16 2] 38
def aX (w : World) : Obj := .cells #[.int .u16 1, .int .u16 1, .slice (some ⟨w.heap.size + 1 + 1, 0, none⟩) 1 1] 55
def aW (w : World) : World := (((w.alloc aP).alloc aT).alloc aD).alloc (aX w)
theorem aW_size (w : World) : (aW w).heap.size = w.heap.size + 1 + 1 + 1 + 1 := by simp [aW]
theorem block_at {w : World} {cs : Array Value} {t : TypeId} {sz n g : Nat} (hg : w.heap.size = g) (hn : cs.size = n * sz) : Rd (w.alloc (.cells cs t)) (w.alloc (.cells cs t)).heap.size sz (some ⟨g, 0, none⟩) n cs.toList := by
  subst hg; exact Rd.block (heap_alloc_new w _) hn
theorem aR (w : World) : CfgR (aW w) (aW w).heap.size aC (some ⟨w.heap.size, 0, none⟩) none none (some ⟨w.heap.size + 1, 0, none⟩) (some ⟨w.heap.size + 1 + 1 + 1, 0, none⟩) 2 0 0 2 1 := by
  have h1 := (((block_at (w := w) (cs := #[.int .u16 1, .string ⟨#[97]⟩, .int .u64 0, .int .u64 0, .int .u16 2, .string ⟨#[98]⟩, .int .u64 0, .int .u64 0]) (t := 49) (sz := 4) (n := 2) rfl rfl).up (below_one _ aT)).up (below_one _ aD)).up (below_one _ (aX w))
  have h2 := ((block_at (w := w.alloc aP) (g := w.heap.size + 1) (cs := #[.int .u16 1, .int .u16 1, .string ⟨#[120]⟩, .bool true, .bool false, .int .u32 8, .int .u16 2, .int .u16 2, .string ⟨#[120]⟩, .bool false, .bool false, .int .u32 8]) (t := 43) (sz := 6) (n := 2) (by simp) rfl).up (below_one _ aD)).up (below_one _ (aX w))
  have h3 := (block_at (w := (w.alloc aP).alloc aT) (g := w.heap.size + 1 + 1) (cs := #[.int .u16 2]) (t := 38) (sz := 1) (n := 1) (by simp) rfl).up (below_one _ (aX w))
  have h4 := block_at (w := ((w.alloc aP).alloc aT).alloc aD) (g := w.heap.size + 1 + 1 + 1) (cs := #[.int .u16 1, .int .u16 1, .slice (some ⟨w.heap.size + 1 + 1, 0, none⟩) 1 1]) (t := 55) (sz := 3) (n := 1) (by simp) rfl
  exact ⟨h1, Rd.nil, Rd.nil, h2, ⟨_, ⟨[.int .u16 1, .int .u16 1, .slice (some ⟨w.heap.size + 1 + 1, 0, none⟩) 1 1], [], rfl, ⟨_, 1, rfl, Nat.le_refl _, by unfold maxLen; omega, h3⟩, rfl⟩, h4⟩, ⟨Nat.le_refl _, by unfold maxLen; omega⟩, ⟨Nat.le_refl _, by unfold maxLen; omega⟩, ⟨Nat.le_refl _, by unfold maxLen; omega⟩, ⟨Nat.le_refl _, by unfold maxLen; omega⟩, ⟨Nat.le_refl _, by unfold maxLen; omega⟩⟩
theorem aB (w : World) : Below w.heap.size w (aW w) := Below.then_ (Below.then_ (Below.then_ (below_one w aP) (below_one _ aT)) (below_one _ aD)) (below_one _ (aX w))
theorem aStart (w : World) : ∃ W4 W0 : World, W4.heap.size = w.heap.size + 1 + 1 + 1 + 1 ∧
    (aW w).alloc (.cells #[.int .u64 0, .slice (some ⟨w.heap.size, 0, none⟩) 2 2, .slice none 0 0, .slice none 0 0, .slice (some ⟨w.heap.size + 1, 0, none⟩) 2 2, .slice (some ⟨w.heap.size + 1 + 1 + 1, 0, none⟩) 1 1] 29) = W0 ∧
    St W4 W0 aC (some ⟨w.heap.size, 0, none⟩) none none (some ⟨w.heap.size + 1, 0, none⟩) (some ⟨w.heap.size + 1 + 1 + 1, 0, none⟩) 2 0 0 2 1 ∧ Below w.heap.size w W4 :=
  ⟨aW w, _, aW_size w, rfl, St.start (aR w) _, aB w⟩
theorem a_from : fromOf aC 2 = (1, true) := by decide
theorem a_ports : pFlt aC = noFlt := badFlt_0 (by decide)
theorem a_chans : xFlt aC = noFlt := badFlt_0 (by decide)
theorem a_right : rightB aC = true := by decide
theorem a_rows : matRows aC = [[1], []] := by decide
theorem a_yes : flowB aC 1 2 = true := flowB_yes (i := 0) (j := 1) (by decide) (by decide) (.one (by rw [a_rows]; decide))
theorem a_no : flowB aC 2 1 = false := by
  refine flowB_not (i := 1) (j := 0) (by decide) (by decide) ?_
  have := FlowInv.start_ (matRows aC) 1 0
  rw [show rowOf (matRows aC) 1 = [] from by rw [a_rows]; decide] at this
  exact this.done
set_option maxRecDepth 100000 in
set_option maxHeartbeats 4000000 in
theorem alive_ok (w : World) : Calls Try.prog 10 #[] w fun e w' => e = .returned (.bool true) ∧ Below w.heap.size w w' := by
  obtain ⟨W4, W0, h4, hW, st, hb4⟩ := aStart w
  unfold aW aP aT aD aX at hW
  have ST0 := Lib.hid st
  have HW := Lib.hid hW
  have H4 := Lib.hid h4
  clear hW st h4
  go_enter Try.func10, Try.ntmps10
  go_upto_region 2 with (fail)
  rw [HW.out, ← H4.out]
  obtain ⟨x0, x1, x2, x3, x4, x5, hz⟩ := ST0.out.cells
  go_wp2_with fail
  refine (from_ok aC _ _ _ _ _ _ _ _ _ _ _ ST0.out.R aC_small 2).mono ?_
  rintro e w1 ⟨rfl, hb1⟩
  rw [a_from]
  have ST1 := Lib.hid (ST0.out.up hb1)
  clear hb1 x0 x1 x2 x3 x4 x5 hz
  obtain ⟨x0, x1, x2, x3, x4, x5, hz⟩ := ST1.out.cells
  go_wp2_with fail
  refine (wPorts_ok aC _ _ _ _ _ _ _ _ _ _ _ ST1.out.R aC_small aC_ok).mono ?_
  rintro e w2 ⟨rfl, hb2⟩
  rw [a_ports]
  have ST2 := Lib.hid (ST1.out.up hb2)
  clear hb2 x0 x1 x2 x3 x4 x5 hz
  obtain ⟨x0, x1, x2, x3, x4, x5, hz⟩ := ST2.out.cells
  go_wp2_with fail
  refine (wChannels_ok aC _ _ _ _ _ _ _ _ _ _ _ ST2.out.R aC_small aC_ok).mono ?_
  rintro e w3 ⟨rfl, hb3⟩
  rw [a_chans]
  have ST3 := Lib.hid (ST2.out.up hb3)
  clear hb3 x0 x1 x2 x3 x4 x5 hz
  obtain ⟨x0, x1, x2, x3, x4, x5, hz⟩ := ST3.out.cells
  go_wp2_with fail
  refine (flow_ok aC _ _ _ _ _ _ _ _ _ _ _ ST3.out.R aC_small aC_ok a_right 1 2 (by unfold wU16; decide) (by unfold wU16; decide)).mono ?_
  rintro e w4 ⟨rfl, hb4'⟩
  rw [a_yes]
  have ST4 := Lib.hid (ST3.out.up hb4')
  clear hb4' x0 x1 x2 x3 x4 x5 hz
  obtain ⟨x0, x1, x2, x3, x4, x5, hz⟩ := ST4.out.cells
  go_wp2_with fail
  refine (flow_ok aC _ _ _ _ _ _ _ _ _ _ _ ST4.out.R aC_small aC_ok a_right 2 1 (by unfold wU16; decide) (by unfold wU16; decide)).mono ?_
  rintro e w5 ⟨rfl, hb5⟩
  rw [a_no]
  have HZ := Lib.hid (Below.then_ hb4 (ST4.out.up hb5).bel)
  clear hb4 hb5 x0 x1 x2 x3 x4 x5 hz
  go_wp2
  go_ret
  exact ⟨rfl, HZ.out⟩
end Go.Proofs.Ytifmcdnaaaphmaa
