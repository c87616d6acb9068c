/-
  What the reference of layer 18 (wiring) computes, walked once: Ports, Unique.
-/
import Derived.Test.YtifmcdnaaaphmaaRef18
namespace Go.Proofs.Ytifmcdnaaaphmaa
open Go.RowKit
attribute [local go_sem] ext_cell
theorem ret_pair {p q : Int × Int} (h : p = q) : Ending.returned (.tuple #[.int .i64 p.1, .int .i64 p.2]) = .returned (.tuple #[.int .i64 q.1, .int .i64 q.2]) := by rw [h]
theorem portCode_19 {c : Cfg} {x : Prt} (h : idx (fun y => y.id == x.part) c.parts < 0) : portCode c x = 19 := by unfold portCode; rw [if_pos h]
theorem portCode_28 {c : Cfg} {x : Prt} (h : ¬ idx (fun y => y.id == x.part) c.parts < 0) (h2 : x.size = 0) : portCode c x = 28 := by unfold portCode; rw [if_neg h, if_pos h2]
theorem portCode_0 {c : Cfg} {x : Prt} (h : ¬ idx (fun y => y.id == x.part) c.parts < 0) (h2 : x.size ≠ 0) : portCode c x = 0 := by unfold portCode; rw [if_neg h, if_neg h2]
set_option maxRecDepth 100000 in
set_option maxHeartbeats 2000000 in
theorem rPorts18_ok (c : Cfg) (A1 A2 A3 A4 A5 : Option Addr) (c1 c2 c3 c4 c5 : Nat) (w : World) (hR : CfgR w w.heap.size c A1 A2 A3 A4 A5 c1 c2 c3 c4 c5) (hs : c.small) :
    Calls Try.prog 11 #[cfgV c.frame A1 A2 A3 A4 A5 c.parts.length c.wins.length c.regs.length c.ports.length c.chans.length c1 c2 c3 c4 c5] w fun e w' => e = .returned (.tuple #[.int .i64 (portBad c).1, .int .i64 (portBad c).2]) ∧ Below w.heap.size w w' := by
  have hbd := hs.bd
  have ST0 := Lib.hid (St.start hR 29)
  have bx := hbd.t
  clear hR hbd
  go_enter Try.func11, Try.ntmps11
  go_wp2
  go_loopw [4] (fun i wr => ∃ k : Nat, k ≤ c.ports.length ∧ i = .int .i64 k ∧ Hid (portBad c = bad k ((c.ports.map (portCode c)).drop k)) ∧ Hid (St w (wr) c A1 A2 A3 A4 A5 c1 c2 c3 c4 c5)) (fun i _ => c.ports.length - (intOf i).toNat)
  case atStart => exact ⟨0, Nat.zero_le _, rfl, Lib.hid rfl, ST0⟩
  case round =>
    obtain ⟨k, hk, rfl, hrest, ST⟩ := hrel
    obtain ⟨x0, x1, x2, x3, x4, x5, hz⟩ := ST.out.cells
    by_cases hlt : k < c.ports.length
    · obtain ⟨x, hx⟩ := get_lt hlt
      obtain ⟨b, o, rfl, hb, g0, g1, g2, g3, g4, g5⟩ := prt_at ST.out.R.ports hx
      have HX := Lib.hid (show (c.ports.map (portCode c))[k]? = some (portCode c x) by simp [hx])
      clear hx
      have n0 : (0 : Int) ≤ (k : Int) := by omega
      have n1 : (k : Int) < (c.ports.length : Int) := by omega
      by_cases hi : idx (fun y => y.id == x.part) c.parts < 0
      · have HC := Lib.hid (portCode_19 hi)
        go_wp2_with fail
        refine wp_region_ext (by kernel_rfl) (by kernel_rfl) ?_
        repeat (go_big_quiet_step ((go_at_call 31; exact Calls.quiet_ext (rPartition_ok c _ _ _ _ _ _ _ _ _ _ _ (ST.out.ext _).R hs x.part))))
        refine wpQuiet_nil ?_
        intro xq
        go_wp2
        go_ret2
        refine ⟨?_, (ST.out.ext xq).bel⟩
        rw [bad_hit hrest.out HX.out (by rw [HC.out]; decide), HC.out]
        rfl
      · have hid : decide (idx (fun y => y.id == x.part) c.parts < 0) = false := decide_eq_false hi
        rcases beq_cases x.size 0 with h2 | h2
        · have HC := Lib.hid (portCode_28 hi (by simpa using h2))
          go_wp2_with fail
          refine wp_region_ext (by kernel_rfl) (by kernel_rfl) ?_
          repeat (go_big_quiet_step ((go_at_call 31; exact Calls.quiet_ext (rPartition_ok c _ _ _ _ _ _ _ _ _ _ _ (ST.out.ext _).R hs x.part))))
          refine wpQuiet_nil ?_
          intro xq
          go_wp2
          go_ret2
          refine ⟨?_, (ST.out.ext xq).bel⟩
          rw [bad_hit hrest.out HX.out (by rw [HC.out]; decide), HC.out]
          rfl
        · have HC := Lib.hid (portCode_0 hi (by simpa using h2))
          go_wp2_with fail
          refine wp_region_ext (by kernel_rfl) (by kernel_rfl) ?_
          repeat (go_big_quiet_step ((go_at_call 31; exact Calls.quiet_ext (rPartition_ok c _ _ _ _ _ _ _ _ _ _ _ (ST.out.ext _).R hs x.part))))
          refine wpQuiet_nil ?_
          intro xq
          go_wp2
          go_roundw
          case rel => exact ⟨k + 1, by omega, by go_num, Lib.hid (bad_miss hrest.out (by rw [HX.out, HC.out])), Lib.hid (ST.out.ext xq)⟩
          case measure => simp [intOf]; omega
    · obtain rfl : k = c.ports.length := by omega
      go_wp2
      go_ret2
      refine ⟨?_, ST.out.bel⟩
      rw [show portBad c = (0, 0) from bad_end (l := c.ports.map (portCode c)) (by simpa using hrest.out)]
      rfl
def uniqueB (c : Cfg) : Bool := decide ((c.parts.map (·.id)).Nodup ∧ (c.ports.map (·.id)).Nodup ∧ (c.chans.map (·.id)).Nodup)
theorem idx_lt_mem {α : Type} {f : α → Int} {l : List α} {k : Nat} {x : α} (hx : l[k]? = some x) : idx (fun y => f y == f x) l < (k : Int) ↔ f x ∈ (l.map f).take k := by
  have hmem : (∃ j : Nat, j < k ∧ ∃ y, l[j]? = some y ∧ f y = f x) ↔ f x ∈ (l.map f).take k := by
    rw [List.mem_iff_getElem?]
    constructor
    · rintro ⟨j, hj, y, hy, e⟩
      exact ⟨j, by rw [List.getElem?_take, if_pos hj, List.getElem?_map, hy]; simp [e]⟩
    · rintro ⟨j, hj⟩
      rw [List.getElem?_take] at hj
      split at hj
      · rename_i hlt
        rw [List.getElem?_map] at hj
        obtain ⟨y, hy, e⟩ := Option.map_eq_some_iff.1 hj
        exact ⟨j, hlt, y, hy, e⟩
      · cases hj
  rw [← hmem]
  rcases idx_cases (fun y => f y == f x) l with ⟨h1, h2⟩ | ⟨j, y, h1, h2, h3, h4, h5⟩
  · have := List.find?_eq_none.1 h2 x (List.mem_of_getElem? hx)
    simp at this
  · rw [h1]
    constructor
    · intro h; exact ⟨j, by omega, y, h3, by simpa using h5⟩
    · rintro ⟨i, hi, z, hz, e⟩
      -- the first place is not behind i
      have hle : j ≤ i := by
        have hj := List.find?_eq_some_iff_getElem.1 h4
        obtain ⟨_, m, hm, hy, hall⟩ := hj
        rcases Nat.lt_or_ge i m with h | h
        · have := hall i h
          have hiz : l[i]'(by omega) = z := by rw [List.getElem?_eq_getElem (by omega)] at hz; injection hz
          rw [hiz] at this
          simp [e] at this
        · by_cases hjm : j = m
          · omega
          · rcases Nat.lt_or_ge j m with h' | h'
            · have := hall j h'
              have hjy : l[j]'(by omega) = y := by rw [List.getElem?_eq_getElem (by omega)] at h3; injection h3
              rw [hjy] at this
              simp [h5] at this
            · -- idx gives the first place
              have hidx : idxFrom (fun y => f y == f x) 0 l ≤ (m : Int) := by
                have : ∀ (l : List _) (s m : Nat) (hm : m < l.length), (fun y => f y == f x) (l[m]) = true → idxFrom (fun y => f y == f x) s l ≤ ((s + m : Nat) : Int) := by
                  intro l
                  induction l with
                  | nil => intro s m hm; simp at hm
                  | cons a r ih =>
                    intro s m hm hp
                    unfold idxFrom
                    split
                    · omega
                    · rename_i hna
                      cases m with
                      | zero => exact absurd hp hna
                      | succ m =>
                        have := ih (s + 1) m (by simpa using hm) (by simpa using hp)
                        omega
                have := this l 0 m hm (by rw [hy]; exact h5)
                simpa using this
              have : (j : Int) ≤ m := by rw [← h1]; exact hidx
              omega
      omega
theorem nodup_take_next {l : List Int} {k : Nat} {x : Int} (hx : l[k]? = some x) (h : (l.take k).Nodup) (hn : x ∉ l.take k) : (l.take (k + 1)).Nodup := by
  rw [take_next hx, List.nodup_append]
  refine ⟨h, by simp, fun a ha b hb => ?_⟩
  simp at hb
  subst hb
  rintro rfl
  exact hn ha
theorem not_nodup_of {l : List Int} {k : Nat} {x : Int} (hx : l[k]? = some x) (hm : x ∈ l.take k) : ¬ l.Nodup := by
  intro h
  rw [← List.take_append_drop k l, drop_cons hx, List.nodup_append] at h
  exact h.2.2 x hm x (by simp) rfl
set_option maxRecDepth 100000 in
set_option maxHeartbeats 4000000 in
theorem unique_ok (c : Cfg) (A1 A2 A3 A4 A5 : Option Addr) (c1 c2 c3 c4 c5 : Nat) (w : World) (hR : CfgR w w.heap.size c A1 A2 A3 A4 A5 c1 c2 c3 c4 c5) (hs : c.small) :
    Calls Try.prog 30 #[cfgV c.frame A1 A2 A3 A4 A5 c.parts.length c.wins.length c.regs.length c.ports.length c.chans.length c1 c2 c3 c4 c5] w fun e w' => e = .returned (.bool (uniqueB c)) ∧ Below w.heap.size w w' := by
  have hbd := hs.bd
  have ST0 := Lib.hid (St.start hR 29)
  have bp := hbd.p
  have bt := hbd.t
  have bx := hbd.x
  clear hR hbd
  have hno1 : ¬ (c.parts.map (·.id)).Nodup → uniqueB c = false := fun h => decide_eq_false fun e => h e.1
  have hno2 : ¬ (c.ports.map (·.id)).Nodup → uniqueB c = false := fun h => decide_eq_false fun e => h e.2.1
  have hno3 : ¬ (c.chans.map (·.id)).Nodup → uniqueB c = false := fun h => decide_eq_false fun e => h e.2.2
  have HN1 := Lib.hid hno1
  have HN2 := Lib.hid hno2
  have HN3 := Lib.hid hno3
  clear hno1 hno2 hno3
  go_enter Try.func30, Try.ntmps30
  go_wp2
  go_loopw [3] (fun i wr => ∃ k : Nat, k ≤ c.parts.length ∧ i = .int .i64 k ∧ Hid (((c.parts.map (·.id)).take k).Nodup) ∧ Hid (St w (wr) c A1 A2 A3 A4 A5 c1 c2 c3 c4 c5)) (fun i _ => c.parts.length - (intOf i).toNat)
  case atStart => exact ⟨0, Nat.zero_le _, rfl, Lib.hid (by simp), ST0⟩
  case round =>
    obtain ⟨k, hk, rfl, hnd, ST⟩ := hrel
    obtain ⟨x0, x1, x2, x3, x4, x5, hz⟩ := ST.out.cells
    by_cases hlt : k < c.parts.length
    · obtain ⟨x, hx⟩ := get_lt hlt
      obtain ⟨b, o, rfl, hb, g0, g1, g2, g3⟩ := par_at ST.out.R.parts hx
      have hm := idx_lt_mem (f := fun y : Par => y.id) hx
      have HX := Lib.hid (show (c.parts.map (·.id))[k]? = some x.id by simp [hx])
      clear hx
      have n0 : (0 : Int) ≤ (k : Int) := by omega
      have n1 : (k : Int) < (c.parts.length : Int) := by omega
      by_cases hi : idx (fun y => y.id == x.id) c.parts < (k : Int)
      · have HM := Lib.hid (hm.1 hi)
        clear hm
        go_wp2_with fail
        refine wp_region_ext (by kernel_rfl) (by kernel_rfl) ?_
        repeat (go_big_quiet_step ((go_at_call 31; exact Calls.quiet_ext (rPartition_ok c _ _ _ _ _ _ _ _ _ _ _ (ST.out.ext _).R hs x.id))))
        refine wpQuiet_nil ?_
        intro xq
        go_wp2
        go_ret
        exact ⟨ret_bool (HN1.out (not_nodup_of HX.out HM.out)).symm, (ST.out.ext xq).bel⟩
      · have hid : decide (idx (fun y => y.id == x.id) c.parts < (k : Int)) = false := decide_eq_false hi
        have HM := Lib.hid (fun e => hi (hm.2 e))
        clear hm hi
        go_wp2_with fail
        refine wp_region_ext (by kernel_rfl) (by kernel_rfl) ?_
        repeat (go_big_quiet_step ((go_at_call 31; exact Calls.quiet_ext (rPartition_ok c _ _ _ _ _ _ _ _ _ _ _ (ST.out.ext _).R hs x.id))))
        refine wpQuiet_nil ?_
        intro xq
        go_wp2
        go_roundw
        case rel => exact ⟨k + 1, by omega, by go_num, Lib.hid (nodup_take_next HX.out hnd.out HM.out), Lib.hid (ST.out.ext xq)⟩
        case measure => simp [intOf]; omega
    · obtain rfl : k = c.parts.length := by omega
      have HD1 := Lib.hid (show (c.parts.map (·.id)).Nodup by have := hnd.out; rwa [List.take_of_length_le (by simp)] at this)
      have ST1 := ST
      clear hnd ST
      go_wp2
      clear x0 x1 x2 x3 x4 x5 hz
      go_loopw [4] (fun i wr => ∃ k : Nat, k ≤ c.ports.length ∧ i = .int .i64 k ∧ Hid (((c.ports.map (·.id)).take k).Nodup) ∧ Hid (St w (wr) c A1 A2 A3 A4 A5 c1 c2 c3 c4 c5)) (fun i _ => c.ports.length - (intOf i).toNat)
      case atStart => exact ⟨0, Nat.zero_le _, rfl, Lib.hid (by simp), ST1⟩
      case round =>
        obtain ⟨k, hk, rfl, hnd, ST⟩ := hrel
        obtain ⟨x0, x1, x2, x3, x4, x5, hz⟩ := ST.out.cells
        by_cases hlt : k < c.ports.length
        · obtain ⟨x, hx⟩ := get_lt hlt
          obtain ⟨b, o, rfl, hb, g0, g1, g2, g3, g4, g5⟩ := prt_at ST.out.R.ports hx
          have hm := idx_lt_mem (f := fun y : Prt => y.id) hx
          have HX := Lib.hid (show (c.ports.map (·.id))[k]? = some x.id by simp [hx])
          clear hx
          have n0 : (0 : Int) ≤ (k : Int) := by omega
          have n1 : (k : Int) < (c.ports.length : Int) := by omega
          by_cases hi : idx (fun y => y.id == x.id) c.ports < (k : Int)
          · have HM := Lib.hid (hm.1 hi)
            clear hm
            go_wp2_with fail
            refine wp_region_ext (by kernel_rfl) (by kernel_rfl) ?_
            repeat (go_big_quiet_step ((go_at_call 18; exact Calls.quiet_ext (rPort_ok c _ _ _ _ _ _ _ _ _ _ _ (ST.out.ext _).R hs x.id))))
            refine wpQuiet_nil ?_
            intro xq
            go_wp2
            go_ret
            exact ⟨ret_bool (HN2.out (not_nodup_of HX.out HM.out)).symm, (ST.out.ext xq).bel⟩
          · have hid : decide (idx (fun y => y.id == x.id) c.ports < (k : Int)) = false := decide_eq_false hi
            have HM := Lib.hid (fun e => hi (hm.2 e))
            clear hm hi
            go_wp2_with fail
            refine wp_region_ext (by kernel_rfl) (by kernel_rfl) ?_
            repeat (go_big_quiet_step ((go_at_call 18; exact Calls.quiet_ext (rPort_ok c _ _ _ _ _ _ _ _ _ _ _ (ST.out.ext _).R hs x.id))))
            refine wpQuiet_nil ?_
            intro xq
            go_wp2
            go_roundw
            case rel => exact ⟨k + 1, by omega, by go_num, Lib.hid (nodup_take_next HX.out hnd.out HM.out), Lib.hid (ST.out.ext xq)⟩
            case measure => simp [intOf]; omega
        · obtain rfl : k = c.ports.length := by omega
          have HD2 := Lib.hid (show (c.ports.map (·.id)).Nodup by have := hnd.out; rwa [List.take_of_length_le (by simp)] at this)
          have ST1 := ST
          clear hnd ST
          go_wp2
          clear x0 x1 x2 x3 x4 x5 hz
          go_loopw [5] (fun i wr => ∃ k : Nat, k ≤ c.chans.length ∧ i = .int .i64 k ∧ Hid (((c.chans.map (·.id)).take k).Nodup) ∧ Hid (St w (wr) c A1 A2 A3 A4 A5 c1 c2 c3 c4 c5)) (fun i _ => c.chans.length - (intOf i).toNat)
          case atStart => exact ⟨0, Nat.zero_le _, rfl, Lib.hid (by simp), ST1⟩
          case round =>
            obtain ⟨k, hk, rfl, hnd, ST⟩ := hrel
            obtain ⟨x0, x1, x2, x3, x4, x5, hz⟩ := ST.out.cells
            by_cases hlt : k < c.chans.length
            · obtain ⟨x, hx⟩ := get_lt hlt
              obtain ⟨cs, hC, hr⟩ := ST.out.R.chans
              obtain ⟨b, o, rfl, hb, g0, _⟩ := chn_at hC hr hx
              have hm := idx_lt_mem (f := fun y : Chn => y.id) hx
              have HX := Lib.hid (show (c.chans.map (·.id))[k]? = some x.id by simp [hx])
              clear hx hC hr
              have n0 : (0 : Int) ≤ (k : Int) := by omega
              have n1 : (k : Int) < (c.chans.length : Int) := by omega
              by_cases hi : idx (fun y => y.id == x.id) c.chans < (k : Int)
              · have HM := Lib.hid (hm.1 hi)
                clear hm
                go_wp2_with fail
                refine wp_region_ext (by kernel_rfl) (by kernel_rfl) ?_
                repeat (go_big_quiet_step ((go_at_call 55; exact Calls.quiet_ext (rChannel_ok c _ _ _ _ _ _ _ _ _ _ _ (ST.out.ext _).R hs x.id))))
                refine wpQuiet_nil ?_
                intro xq
                go_wp2
                go_ret
                exact ⟨ret_bool (HN3.out (not_nodup_of HX.out HM.out)).symm, (ST.out.ext xq).bel⟩
              · have hid : decide (idx (fun y => y.id == x.id) c.chans < (k : Int)) = false := decide_eq_false hi
                have HM := Lib.hid (fun e => hi (hm.2 e))
                clear hm hi
                go_wp2_with fail
                refine wp_region_ext (by kernel_rfl) (by kernel_rfl) ?_
                repeat (go_big_quiet_step ((go_at_call 55; exact Calls.quiet_ext (rChannel_ok c _ _ _ _ _ _ _ _ _ _ _ (ST.out.ext _).R hs x.id))))
                refine wpQuiet_nil ?_
                intro xq
                go_wp2
                go_roundw
                case rel => exact ⟨k + 1, by omega, by go_num, Lib.hid (nodup_take_next HX.out hnd.out HM.out), Lib.hid (ST.out.ext xq)⟩
                case measure => simp [intOf]; omega
            · obtain rfl : k = c.chans.length := by omega
              have HD3 := Lib.hid (show (c.chans.map (·.id)).Nodup by have := hnd.out; rwa [List.take_of_length_le (by simp)] at this)
              go_wp2
              go_ret
              exact ⟨ret_bool (decide_eq_true ⟨HD1.out, HD2.out, HD3.out⟩).symm, ST.out.bel⟩
end Go.Proofs.Ytifmcdnaaaphmaa
