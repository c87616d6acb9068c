/-
  What Open of the reference of layer 18 returns, walked once.
-/
import Derived.Test.YtifmcdnaaaphmaaRef18e
import Derived.IntWalk
namespace Go.Proofs.Ytifmcdnaaaphmaa
open Go.RowKit
attribute [local go_sem] ext_cell
def isOpen (c : Cfg) (id : Int) : Bool := decide (0 ≤ idx (fun x => x.id == id) c.ports) && !usesL c.chans id
def openTo (c : Cfg) (m : Nat) : List Int := ((List.range m).filter (fun k : Nat => isOpen c (k : Int))).map (fun k : Nat => (k : Int))
def openL (c : Cfg) : List Int := openTo c 65536
theorem openTo_yes {c : Cfg} {m : Nat} (h : isOpen c (m : Int) = true) : openTo c (m + 1) = openTo c m ++ [(m : Int)] := by
  unfold openTo; rw [List.range_succ, List.filter_append]; simp [h]
theorem openTo_no {c : Cfg} {m : Nat} (h : isOpen c (m : Int) = false) : openTo c (m + 1) = openTo c m := by
  unfold openTo; rw [List.range_succ, List.filter_append]; simp [h]
theorem openTo_len (c : Cfg) (m : Nat) : (openTo c m).length ≤ m := by
  unfold openTo; rw [List.length_map]; exact Nat.le_trans (List.length_filter_le _ _) (by simp)
theorem openL_asc (c : Cfg) : (openL c).Pairwise (· < ·) := by
  unfold openL openTo
  rw [List.pairwise_map]
  refine List.Pairwise.filter _ ?_
  exact List.pairwise_lt_range.imp (by intro a b h; omega)
theorem openL_mem {c : Cfg} {x : Int} : x ∈ openL c ↔ (0 ≤ x ∧ x < 65536) ∧ isOpen c x = true := by
  unfold openL openTo
  rw [List.mem_map]
  constructor
  · rintro ⟨k, hk, rfl⟩
    rw [List.mem_filter, List.mem_range] at hk
    exact ⟨⟨by omega, by omega⟩, hk.2⟩
  · rintro ⟨⟨h0, h1⟩, h2⟩
    obtain ⟨k, rfl⟩ : ∃ k : Nat, x = (k : Int) := ⟨x.toNat, by omega⟩
    exact ⟨k, List.mem_filter.2 ⟨List.mem_range.2 (by omega), h2⟩, rfl⟩
theorem one_newU (w : World) (a : Int) (t : TypeId) : Rd (w.alloc (.cells #[.int .u16 a] t)) (w.alloc (.cells #[.int .u16 a] t)).heap.size 1 (some ⟨w.heap.size, 0, none⟩) 1 [.int .u16 a] := by
  refine ⟨rfl, fun _ => ⟨_, _, rfl, by simp, fun j u hu => ?_⟩⟩
  have := World.news_of_block (heap_alloc_new w (.cells #[.int .u16 a] t)) j u (by simpa using hu)
  rwa [addr_add] at this
set_option maxRecDepth 100000 in
set_option maxHeartbeats 4000000 in
theorem rOpen_ok (c : Cfg) (A1 A2 A3 A4 A5 : Option Addr) (c1 c2 c3 c4 c5 : Nat) (w : World) (hR : CfgR w w.heap.size c A1 A2 A3 A4 A5 c1 c2 c3 c4 c5) (hs : c.small) : Calls Try.prog 28 #[cfgV c.frame A1 A2 A3 A4 A5 c.parts.length c.wins.length c.regs.length c.ports.length c.chans.length c1 c2 c3 c4 c5] w fun e w' => ∃ v, e = .returned v ∧ w'.ownsRow w.heap.size 38 1 v (openL c).length ((openL c).map (Value.int .u16)) ∧ Below w.heap.size w w' := by
  have hbd := hs.bd
  have ST0 := Lib.hid (St.start hR 29)
  have bt := hbd.t
  have bx := hbd.x
  obtain ⟨i0, hi, hz0, hz1, hz2⟩ := info_parts info_u16
  clear hR hbd
  go_enter Try.func28, Try.ntmps28
  go_wp2
  go_loopw [3, 4] (fun o i wr => ∃ k : Nat, k ≤ 65536 ∧ i = .int .i64 k ∧ Hid (wr.ownsRow (w.heap.size + 1) 38 1 o (openTo c k).length ((openTo c k).map (Value.int .u16))) ∧ Hid (St w (wr) c A1 A2 A3 A4 A5 c1 c2 c3 c4 c5)) (fun _ i _ => 65536 - (intOf i).toNat)
  case atStart => exact ⟨0, by omega, rfl, Lib.hid (World.ownsRow_nil _ _ _ _), ST0⟩
  case round =>
    obtain ⟨k, hk, rfl, HO, ST⟩ := hrel
    obtain ⟨x0, x1, x2, x3, x4, x5, hz⟩ := ST.out.cells
    by_cases hlt : k < 65536
    · have hcv : IntKind.u16.wrap (k : Int) = (k : Int) := IntWalk.u16_in _ (by omega)
      have hlen := openTo_len c k
      have kz : (k : Int) < 65536 := by omega
      have HLT := Lib.hid hlt
      have HK := Lib.hid hk
      clear hlt hk
      rcases idx_cases (fun x => x.id == (k : Int)) c.ports with ⟨h1, _⟩ | ⟨j, p, h1, hj, _⟩
      · have HI := Lib.hid h1
        have HN := Lib.hid (openTo_no (c := c) (m := k) (by unfold isOpen; rw [h1]; rfl))
        clear h1
        go_wp2_with fail
        refine (rPort_val c _ _ _ _ _ _ _ _ _ _ _ ST.out.R hs (k : Int) (-1) HI).mono ?_
        rintro e w1 ⟨rfl, hb1⟩
        have HB1 := Lib.hid hb1
        clear hb1 x0 x1 x2 x3 x4 x5 hz
        go_wp2
        go_roundw
        case rel => have hlt := HLT.out; exact ⟨k + 1, by omega, by go_num, Lib.hid (by rw [HN.out]; exact own_below HO.out HB1.out), Lib.hid (ST.out.up HB1.out)⟩
        case measure => have hlt := HLT.out; simp [intOf]; omega
      · have HI := Lib.hid h1
        have h0 : decide (0 ≤ idx (fun x => x.id == (k : Int)) c.ports) = true := decide_eq_true (by omega)
        have j0 : (0 : Int) ≤ (j : Int) := by omega
        have hub : usesL c.chans (k : Int) = true ∨ usesL c.chans (k : Int) = false := by cases usesL c.chans (k : Int) <;> simp
        rcases hub with hu | hu
        · have HU := Lib.hid (show usesL (c.chans.take c.chans.length) (k : Int) = true by rw [List.take_length]; exact hu)
          have HN := Lib.hid (openTo_no (c := c) (m := k) (by unfold isOpen; rw [h0, hu]; rfl))
          clear h1 h0 hu
          go_wp2_with fail
          refine (rPort_val c _ _ _ _ _ _ _ _ _ _ _ ST.out.R hs (k : Int) j HI).mono ?_
          rintro e w1 ⟨rfl, hb1⟩
          have HB1 := Lib.hid hb1
          have ST1 := Lib.hid (ST.out.up hb1)
          clear hb1 x0 x1 x2 x3 x4 x5 hz
          obtain ⟨x0, x1, x2, x3, x4, x5, hz⟩ := ST1.out.cells
          go_wp2_with fail
          refine (uses_val c _ _ _ _ _ _ _ _ _ _ _ ST1.out.R hs c.chans.length (Nat.le_refl _) (k : Int) true HU).mono ?_
          rintro e w2 ⟨rfl, hb2⟩
          have HB2 := Lib.hid (Below.then_ HB1.out hb2)
          clear hb2 x0 x1 x2 x3 x4 x5 hz
          go_wp2
          go_roundw
          case rel => have hlt := HLT.out; exact ⟨k + 1, by omega, by go_num, Lib.hid (by rw [HN.out]; exact own_below HO.out HB2.out), Lib.hid (ST.out.up HB2.out)⟩
          case measure => have hlt := HLT.out; simp [intOf]; omega
        · have HU := Lib.hid (show usesL (c.chans.take c.chans.length) (k : Int) = false by rw [List.take_length]; exact hu)
          have HN := Lib.hid (openTo_yes (c := c) (m := k) (by unfold isOpen; rw [h0, hu]; rfl))
          clear h1 h0 hu
          go_wp2_with fail
          refine (rPort_val c _ _ _ _ _ _ _ _ _ _ _ ST.out.R hs (k : Int) j HI).mono ?_
          rintro e w1 ⟨rfl, hb1⟩
          have HB1 := Lib.hid hb1
          have ST1 := Lib.hid (ST.out.up hb1)
          clear hb1 x0 x1 x2 x3 x4 x5 hz
          obtain ⟨x0, x1, x2, x3, x4, x5, hz⟩ := ST1.out.cells
          go_wp2_with fail
          refine (uses_val c _ _ _ _ _ _ _ _ _ _ _ ST1.out.R hs c.chans.length (Nat.le_refl _) (k : Int) false HU).mono ?_
          rintro e w2 ⟨rfl, hb2⟩
          have HB2 := Lib.hid (Below.then_ HB1.out hb2)
          have ST2 := Lib.hid (ST1.out.up hb2)
          have hO2 := own_below HO.out HB2.out
          obtain ⟨rA, rc, rfl, _⟩ := own_form hO2
          have HR3 := Lib.hid (own_below hO2 (below_one w2 (.cells #[.int .u16 k] 38)))
          have hsz := ST2.out.z
          clear hb2 x0 x1 x2 x3 x4 x5 hz hO2
          go_wp2_with (at_builtin; go_loud (refine wpList_append_rd _ rfl (.tmp 24) (.tmp 27) _ rfl (w.heap.size + 1) 38 i0 (.int .u16 0) 1 2 Try.underlying53 hi hz0 hz1 hz2 rfl (by decide) _ _ _ rfl HR3.out (w2.alloc (.cells #[.int .u16 k] 38)).heap.size (some ⟨w2.heap.size, 0, none⟩) 1 1 [.int .u16 k] rfl (one_newU w2 k 38) (by intro u hu; simp at hu; subst hu; rfl) (by unfold maxLen; omega) (by omega) (by simp; omega) ?_); intro v' w3 hown hg)
          have hb3 := below_own ((Below.refl (w.heap.size + 1) w2).alloc (by omega) (.cells #[.int .u16 k] 38)) hg HR3.out (by simp; omega)
          have HO3 := Lib.hid (show w3.ownsRow (w.heap.size + 1) 38 1 v' (openTo c (k + 1)).length ((openTo c (k + 1)).map (Value.int .u16)) by rw [HN.out]; simpa using hown)
          have ST3 := Lib.hid (ST2.out.keep hb3)
          clear hown hg hb3
          go_wp2
          go_roundw
          case rel => have hlt := HLT.out; exact ⟨k + 1, by omega, by go_num, HO3, ST3⟩
          case measure => have hlt := HLT.out; simp [intOf]; omega
    · obtain rfl : k = 65536 := by omega
      go_wp2
      go_ret
      exact ⟨_, rfl, own_less HO.out (by omega), ST.out.bel⟩
end Go.Proofs.Ytifmcdnaaaphmaa
