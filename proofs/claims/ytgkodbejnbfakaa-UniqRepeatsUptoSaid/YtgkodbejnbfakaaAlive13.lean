/-
  The example of the chapter of layer 13 holds: 'alive' returns true.
-/
import Derived.Test.YtgkodbejnbfakaaIndex
namespace Go.Proofs.Ytgkodbejnbfakaa
open Go.RowKit
theorem Rd.block {w : World} {g sz n : Nat} {t : TypeId} {cs : Array Value} (h : w.heap[g]? = some (.cells cs t (0, 0))) (hn : cs.size = n * sz) : Rd w w.heap.size sz (some ⟨g, 0, none⟩) n cs.toList :=
  ⟨by simpa using hn, fun _ => ⟨g, 0, rfl, (Array.getElem?_eq_some_iff.1 h).1, fun j u hu => by
    have := World.news_of_block h j u hu
    rwa [addr_add] at this⟩⟩
def alive13 : Cfg := ⟨0, [], [], [], [⟨5, 1, ⟨#[97]⟩, false, false, 0⟩], []⟩
theorem alive13_ok : alive13.ok := by
  refine ⟨by unfold wU64; decide, by simp [alive13], by simp [alive13], by simp [alive13], ?_, by simp [alive13]⟩
  intro p hp
  simp [alive13] at hp
  subst hp
  exact ⟨by unfold wU16; decide, by unfold wU16; decide, by show 1 ≤ _; unfold maxLen; omega, by unfold wU32; decide⟩
theorem alive13_small : alive13.small := by
  refine ⟨by show 1 ≤ BIG; unfold BIG; omega, by simp [alive13], ?_⟩
  intro p hp
  simp [alive13] at hp
  subst hp
  show 1 ≤ BIG
  unfold BIG
  omega
theorem alive13_new (w : World) :
    Calls Try.prog 10 #[.agg #[.int .u64 0, .slice none 0 0, .slice none 0 0, .slice none 0 0, .slice (some ⟨w.heap.size, 0, none⟩) 1 1, .slice none 0 0]] (w.alloc (.cells #[.int .u16 5, .int .u16 1, .string ⟨#[97]⟩, .bool false, .bool false, .int .u32 0] 37)) fun e w' =>
      ∃ g, e = .returned (.pointer (some ⟨g, 0, none⟩)) ∧ IdxAt w' w'.heap.size g alive13 ∧ Below w.heap.size w w' := by
  have hR : CfgR (w.alloc (.cells #[.int .u16 5, .int .u16 1, .string ⟨#[97]⟩, .bool false, .bool false, .int .u32 0] 37)) (w.alloc (.cells #[.int .u16 5, .int .u16 1, .string ⟨#[97]⟩, .bool false, .bool false, .int .u32 0] 37)).heap.size alive13 none none none (some ⟨w.heap.size, 0, none⟩) none 0 0 0 1 0 :=
    ⟨Rd.nil, Rd.nil, Rd.nil, Rd.block (heap_alloc_new w _) rfl, ⟨[], rfl, Rd.nil⟩, ⟨Nat.le_refl _, by unfold maxLen; omega⟩, ⟨Nat.le_refl _, by unfold maxLen; omega⟩, ⟨Nat.le_refl _, by unfold maxLen; omega⟩, ⟨Nat.le_refl _, by unfold maxLen; omega⟩, ⟨Nat.le_refl _, by unfold maxLen; omega⟩⟩
  have h := new_ok alive13 none none none (some ⟨w.heap.size, 0, none⟩) none 0 0 0 1 0 _ hR alive13_small alive13_ok
  refine (show Calls _ _ _ _ _ from h).mono fun e w' ⟨g, he, _, hi, hb⟩ => ⟨g, he, hi, ?_⟩
  exact ((Below.refl _ _).alloc (Nat.le_refl _) _).trans (hb.mono (by simp))
set_option maxRecDepth 100000 in
set_option maxHeartbeats 1000000 in
theorem alive_ok (w : World) : Calls Try.prog 9 #[] w fun e w' => e = .returned (.bool true) ∧ Below w.heap.size w w' := by
  go_enter Try.func9, Try.ntmps9
  go_wp2_with (go_at_call 10; refine (alive13_new _).mono ?_; rintro e w1 ⟨g, rfl, hI, hb1⟩)
  refine (repeated_ok [5, 7, 7, 5] _ _ (by simp) (by intro x hx; simp at hx; rcases hx with rfl | rfl | rfl <;> (unfold wU16; decide)) _ (Rd.block (heap_alloc_new _ _) rfl)).mono ?_
  rintro e w2 ⟨rfl, hb2⟩
  have hbw2 : Below w1.heap.size w1 w2 := ((Below.refl _ _).alloc (Nat.le_refl _) _).trans (hb2.mono (by simp))
  have e1 : rep [(5 : Int), 7, 7, 5] = 2 := by decide
  rw [e1]
  have hI2 := hI.up hbw2
  go_wp2_with fail
  refine (repeated_ok [] none 0 (by simp) (by simp) _ Rd.nil).mono ?_
  rintro e w3 ⟨rfl, hb3⟩
  rw [show rep ([] : List Int) = -1 from rfl]
  have hI3 := hI2.up hb3
  go_wp2_with fail
  refine (iPort_ok alive13 g 5 _ hI3 (by unfold wU16; decide)).mono ?_
  rintro e w4 ⟨rfl, hb4⟩
  rw [show idx (fun x => x.id == 5) alive13.ports = 0 from by decide]
  have hI4 := hI3.up hb4
  go_wp2_with fail
  refine (iNamed_ok alive13 g 1 ⟨#[97]⟩ _ hI4 (by unfold wU16; decide) (by show 1 ≤ _; unfold maxLen; omega)).mono ?_
  rintro e w5 ⟨rfl, hb5⟩
  rw [show idx (fun x => x.part == 1 && x.name == ⟨#[97]⟩) alive13.ports = 0 from by decide]
  have hI5 := hI4.up hb5
  go_wp2_with fail
  refine (iNamed_ok alive13 g 2 ⟨#[97]⟩ _ hI5 (by unfold wU16; decide) (by show 1 ≤ _; unfold maxLen; omega)).mono ?_
  rintro e w6 ⟨rfl, hb6⟩
  rw [show idx (fun x => x.part == 2 && x.name == ⟨#[97]⟩) alive13.ports = -1 from by decide]
  have hz := hb1.trans (((hbw2.trans (hb3.mono hbw2.size)).trans (hb4.mono (Nat.le_trans hbw2.size hb3.size))).trans (hb5.mono (Nat.le_trans (Nat.le_trans hbw2.size hb3.size) hb4.size)) |>.mono hb1.size)
  have HZ := Lib.hid (hz.trans (hb6.mono hz.size))
  clear hz hI hI2 hI3 hI4 hI5 hb1 hb2 hb3 hb4 hb5 hb6 hbw2
  go_wp2
  go_ret
  exact ⟨rfl, HZ.out⟩
end Go.Proofs.Ytgkodbejnbfakaa
