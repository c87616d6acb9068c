/-
  The example of the chapter of layer 17 holds: 'alive' returns true.
-/
import Derived.Test.YtoolcolbmkicpaaGreatMemB
import Derived.Test.YtoolcolbmkicpaaGreatMemP
namespace Go.Proofs.YtoolcolbmkicpaaGreat
open Go.RowKit Go.Lib
theorem eqInt_same (l : List Int) (A B : Option Addr) (a b : Nat) (w : World) (hl : l.length ≤ 4194304) (hA : Rd w w.heap.size 1 A l.length (l.map (Value.int .i64))) (hB : Rd w w.heap.size 1 B l.length (l.map (Value.int .i64))) :
    Calls Tryz.prog 16 #[.slice A l.length a, .slice B l.length b] w fun e w' => e = .returned (.bool true) ∧ Below w.heap.size w w' := by
  have HA := Lib.hid hA
  have HB := Lib.hid hB
  clear hA hB
  go_enter Tryz.func16, Tryz.ntmps16
  go_wp2
  go_loopw [13] (fun i wr => ∃ k : Nat, k ≤ l.length ∧ i = .int .i64 k ∧ Hid (Below w.heap.size w wr)) (fun i _ => l.length - (intOf i).toNat)
  case atStart => exact ⟨0, Nat.zero_le _, rfl, Lib.hid (Below.refl _ _)⟩
  case round =>
    obtain ⟨k, hk, rfl, HW⟩ := hrel
    by_cases hlt : k < l.length
    · obtain ⟨x, hx⟩ := get_lt hlt
      obtain ⟨b1, o1, rfl, h1, g1⟩ := int_at (HA.out.below HW.out) hx
      obtain ⟨b2, o2, rfl, h2, g2⟩ := int_at (HB.out.below HW.out) hx
      have k0 : (0 : Int) ≤ (k : Int) := by omega
      have k1 : (k : Int) < (l.length : Int) := by omega
      clear hx
      go_wp2
      go_quiet (fail)
      go_wp2
      go_roundw
      case rel => exact ⟨k + 1, by omega, by go_num, Lib.hid (below_drewN HW.out _)⟩
      case measure => simp [intOf]; omega
    · obtain rfl : k = l.length := by omega
      go_wp2
      go_ret
      exact ⟨rfl, HW.out⟩
attribute [local go_sem] ext_cell
theorem Rd.blockM {w : World} {g sz n : Nat} {t : TypeId} {cs : Array Value} (h : w.heap[g]? = some (.cells cs t (0, 0))) (hn : cs.size = n * sz) : Rd w w.heap.size sz (some ⟨g, 0, none⟩) n cs.toList :=
  ⟨by simpa using hn, fun _ => ⟨g, 0, rfl, (Array.getElem?_eq_some_iff.1 h).1, fun j u hu => by
    have := World.news_of_block h j u hu
    rwa [addr_add] at this⟩⟩
def aC : Cfg := ⟨0, [⟨1, ⟨#[97]⟩, 0, 0⟩], [], [⟨8, 8, 1, 1, false⟩, ⟨0, 8, 1, 3, false⟩], [], []⟩
theorem aC_ok : aC.ok := by
  refine ⟨by unfold wU64; decide, ?_, by simp [aC], ?_, by simp [aC], by simp [aC]⟩
  · intro p hp
    simp [aC] at hp
    subst hp
    exact ⟨by unfold wU16; decide, by show 1 ≤ _; unfold maxLen; omega, by unfold wU64; decide, by unfold wU64; decide⟩
  · intro p hp
    simp [aC] at hp
    rcases hp with rfl | rfl <;> exact ⟨by unfold wU64; decide, by unfold wU64; decide, by unfold wU16; decide, by unfold wU8; decide⟩
theorem aC_small : aC.small := by
  refine ⟨by show 3 ≤ BIG; unfold BIG; omega, ?_, ?_⟩
  · intro p hp
    simp [aC] at hp
    subst hp; show 1 ≤ BIG; unfold BIG; omega
  · intro p hp
    simp [aC] at hp
def aP : Obj := .cells #[.int .u16 1, .string ⟨#[97]⟩, .int .u64 0, .int .u64 0] 41
def aG : Obj := .cells #[.int .u64 8, .int .u64 8, .int .u16 1, .int .u8 1, .bool false, .int .u64 0, .int .u64 8, .int .u16 1, .int .u8 3, .bool false] 43
def aW (w : World) : World := (w.alloc aP).alloc aG
theorem aW_size (w : World) : (aW w).heap.size = w.heap.size + 1 + 1 := by simp [aW]
theorem block_atM {w : World} {cs : Array Value} {t : TypeId} {sz n g : Nat} (hg : w.heap.size = g) (hn : cs.size = n * sz) : Rd (w.alloc (.cells cs t)) (w.alloc (.cells cs t)).heap.size sz (some ⟨g, 0, none⟩) n cs.toList := by
  subst hg; exact Rd.blockM (heap_alloc_new w _) hn
theorem aR (w : World) : CfgR (aW w) (aW w).heap.size aC (some ⟨w.heap.size, 0, none⟩) none (some ⟨w.heap.size + 1, 0, none⟩) none none 1 0 2 0 0 := by
  have h1 := (block_atM (w := w) (cs := #[.int .u16 1, .string ⟨#[97]⟩, .int .u64 0, .int .u64 0]) (t := 41) (sz := 4) (n := 1) rfl rfl).up (below_one _ aG)
  have h2 := block_atM (w := w.alloc aP) (g := w.heap.size + 1) (cs := #[.int .u64 8, .int .u64 8, .int .u16 1, .int .u8 1, .bool false, .int .u64 0, .int .u64 8, .int .u16 1, .int .u8 3, .bool false]) (t := 43) (sz := 5) (n := 2) (by simp) rfl
  exact ⟨h1, Rd.nil, h2, Rd.nil, ⟨_, rfl, Rd.nil⟩, ⟨Nat.le_refl _, by unfold maxLen; omega⟩, ⟨Nat.le_refl _, by unfold maxLen; omega⟩, ⟨Nat.le_refl _, by unfold maxLen; omega⟩, ⟨Nat.le_refl _, by unfold maxLen; omega⟩, ⟨Nat.le_refl _, by unfold maxLen; omega⟩⟩
theorem aB (w : World) : Below w.heap.size w (aW w) := Below.then_ (below_one w aP) (below_one _ aG)
theorem aStart (w : World) : ∃ W4 W0 : World, W4.heap.size = w.heap.size + 1 + 1 ∧
    (aW w).alloc (.cells #[.int .u64 0, .slice (some ⟨w.heap.size, 0, none⟩) 1 1, .slice none 0 0, .slice (some ⟨w.heap.size + 1, 0, none⟩) 2 2, .slice none 0 0, .slice none 0 0] 29) = W0 ∧
    St W4 W0 aC (some ⟨w.heap.size, 0, none⟩) none (some ⟨w.heap.size + 1, 0, none⟩) none none 1 0 2 0 0 ∧ Below w.heap.size w W4 :=
  ⟨aW w, _, aW_size w, rfl, St.start (aR w) _, aB w⟩
theorem a_flt : memFlt aC = noFlt := by kernel_rfl
theorem a_own : ownL aC 9 = [0] := by decide
theorem a_of1 : ofL aC 1 1 = [⟨8, 8, 1, 1, false⟩, ⟨0, 8, 1, 3, false⟩] := by kernel_rfl
theorem a_of2 : ofL aC 1 2 = [⟨0, 8, 1, 3, false⟩] := by kernel_rfl
theorem a_yes : allowB 6 4 (covB (ofL aC 1 1) 6 4) = true := by
  rw [covB_yes]
  · decide
  · intro a h1 h2
    rw [a_of1]
    by_cases h : a < 8
    · exact ⟨_, List.mem_cons_of_mem _ (List.mem_singleton.2 rfl), ownsB_iff.2 ⟨by simp; omega, by simp; omega⟩⟩
    · exact ⟨_, List.mem_cons_self, ownsB_iff.2 ⟨by simp; omega, by simp; omega⟩⟩
theorem a_no : allowB 6 4 (covB (ofL aC 1 2) 6 4) = false := by
  rw [covB_no]
  · decide
  · intro h
    obtain ⟨r, hr, ho⟩ := h 8 (by decide) (by decide)
    rw [a_of2, List.mem_singleton] at hr
    subst hr
    revert ho; decide
set_option maxRecDepth 100000 in
set_option maxHeartbeats 4000000 in
theorem alive_ok (w : World) : Calls Tryz.prog 5 #[] w fun e w' => e = .returned (.bool true) ∧ Below w.heap.size w w' := by
  obtain ⟨W4, W0, h4, hW, st, hb4⟩ := aStart w
  unfold aW aP aG at hW
  have ST0 := Lib.hid st
  have HW := Lib.hid hW
  have H4 := Lib.hid h4
  clear hW st h4
  go_enter Tryz.func5, Tryz.ntmps5
  go_upto_region 2 with (fail)
  rw [HW.out, ← H4.out]
  obtain ⟨x0, x1, x2, x3, x4, x5, hz⟩ := ST0.out.cells
  go_wp2_with fail
  refine (memCheck_ok aC _ _ _ _ _ _ _ _ _ _ _ ST0.out.R aC_small aC_ok).mono ?_
  rintro e w1 ⟨rfl, hb1⟩
  rw [a_flt]
  have ST1 := Lib.hid (ST0.out.up hb1)
  clear hb1 x0 x1 x2 x3 x4 x5 hz
  obtain ⟨x0, x1, x2, x3, x4, x5, hz⟩ := ST1.out.cells
  go_wp2_with fail
  refine (memAllowed_ok aC _ _ _ _ _ _ _ _ _ _ _ ST1.out.R aC_small aC_ok 1 1 6 4 (by unfold wU64; decide) (by unfold wU64; decide)).mono ?_
  rintro e w2 ⟨rfl, hb2⟩
  rw [a_yes]
  have ST2 := Lib.hid (ST1.out.up hb2)
  clear hb2 x0 x1 x2 x3 x4 x5 hz
  obtain ⟨x0, x1, x2, x3, x4, x5, hz⟩ := ST2.out.cells
  go_wp2_with fail
  refine (memAllowed_ok aC _ _ _ _ _ _ _ _ _ _ _ ST2.out.R aC_small aC_ok 1 2 6 4 (by unfold wU64; decide) (by unfold wU64; decide)).mono ?_
  rintro e w3 ⟨rfl, hb3⟩
  rw [a_no]
  have ST3 := Lib.hid (ST2.out.up hb3)
  clear hb3 x0 x1 x2 x3 x4 x5 hz
  obtain ⟨x0, x1, x2, x3, x4, x5, hz⟩ := ST3.out.cells
  go_wp2_with fail
  refine (memOwners_ok aC _ _ _ _ _ _ _ _ _ _ _ ST3.out.R aC_small aC_ok 9 (by unfold wU64; decide)).mono ?_
  rintro e w4 ⟨v, rfl, ho, hb4'⟩
  rw [a_own] at ho
  have ST4 := Lib.hid (ST3.out.up hb4')
  obtain ⟨RA, rc, rfl, _, _, hrd⟩ := own_form ho
  have HRD := Lib.hid hrd
  clear ho hrd hb4' x0 x1 x2 x3 x4 x5 hz
  go_upto_region 7 with (fail)
  have HRD5 := Lib.hid (HRD.out.up (below_one w4 (.cells #[.int .i64 0] 3)))
  have ST5 := Lib.hid (ST4.out.up (below_one w4 (.cells #[.int .i64 0] 3)))
  go_wp2_with fail
  refine (eqInt_same [0] _ _ _ _ _ (by simp) HRD5.out (one_newI w4 0 3)).mono ?_
  rintro e w5 ⟨rfl, hb5⟩
  have HZ := Lib.hid (Below.then_ hb4 (ST5.out.up hb5).bel)
  clear hb4 hb5
  go_wp2
  go_ret
  exact ⟨rfl, HZ.out⟩
end Go.Proofs.YtoolcolbmkicpaaGreat
