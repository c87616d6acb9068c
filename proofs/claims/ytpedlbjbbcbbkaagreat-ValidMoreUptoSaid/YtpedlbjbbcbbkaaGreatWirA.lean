/-
  What the reference of layer 18 (wiring) computes, walked once: in, uses, Ports, Unique.
-/
import Derived.Test.YtpedlbjbbcbbkaaGreatCore
import Derived.Deep.Cut
import Derived.Deep.RegionHeld3
import Derived.Deep.CutBlock
import Derived.Deep.DeepCutAuto
namespace Go.Proofs.YtpedlbjbbcbbkaaGreat
open Go.RowKit
attribute [local go_sem] ext_cell
def hasI (l : List Int) (x : Int) : Bool := l.contains x
theorem hasI_iff {l : List Int} {x : Int} : hasI l x = true ↔ x ∈ l := List.contains_iff_mem
theorem hasI_no {l : List Int} {x : Int} (h : x ∉ l) : hasI l x = false := Bool.eq_false_iff.2 (fun e => h (hasI_iff.1 e))
theorem contains_hit {l : List Int} {k : Nat} {y x : Int} (hy : l[k]? = some y) (h : y = x) : hasI l x = true := by
  rw [hasI_iff]; exact h ▸ List.mem_of_getElem? hy
set_option maxRecDepth 100000 in
set_option maxHeartbeats 1000000 in
theorem in18_ok (l : List Int) (A : Option Addr) (cp : Nat) (id : Int) (w : World) (hl : l.length ≤ 1048576) (hP : Rd w w.heap.size 1 A l.length (l.map (Value.int .u16))) :
    Calls Tryz.prog 243 #[.slice A l.length cp, .int .u16 id] w fun e w' => e = .returned (.bool (hasI l id)) ∧ Below w.heap.size w w' := by
  go_enter Tryz.func243, Tryz.ntmps243
  go_wp2
  go_loop [5] (fun i => ∃ k : Nat, k ≤ l.length ∧ i = .int .i64 k ∧ Hid (id ∉ l.take k)) (fun i => l.length - (intOf i).toNat)
  case atStart => exact ⟨0, Nat.zero_le _, rfl, Lib.hid (by simp)⟩
  case round =>
    obtain ⟨k, hk, rfl, hno⟩ := hrel
    by_cases hlt : k < l.length
    · obtain ⟨y, hy⟩ := get_lt hlt
      obtain ⟨b, o, rfl, hb, g0⟩ := int_at hP hy
      have HY := Lib.hid hy
      clear hy
      rcases beq_cases y id with hp | hp
      · go_wp2
        go_ret
        exact ⟨ret_bool (contains_hit HY.out (by simpa using hp)).symm, Below.refl _ _⟩
      · go_wp2
        go_round
        case rel => exact ⟨k + 1, by omega, by go_num, Lib.hid (not_mem_next HY.out hno.out (by simpa using hp))⟩
        case measure => simp [intOf]; omega
    · obtain rfl : k = l.length := by omega
      go_wp2
      go_ret
      refine ⟨ret_bool ?_, Below.refl _ _⟩
      have := hno.out
      rw [List.take_length] at this
      rw [hasI_no this]
theorem usesL_hit {l : List Chn} {n k : Nat} {x : Chn} {id : Int} (hx : l[k]? = some x) (hk : k < n) (h : (x.source == id || x.dests.contains id) = true) : usesL (l.take n) id = true := by
  unfold usesL
  rw [List.any_eq_true]
  exact ⟨x, mem_take_of hx hk, h⟩
theorem usesL_miss {l : List Chn} {k : Nat} {x : Chn} {id : Int} (hx : l[k]? = some x) (h0 : usesL (l.take k) id = false) (h : (x.source == id || x.dests.contains id) = false) : usesL (l.take (k + 1)) id = false := by
  rw [take_next hx]
  unfold usesL at h0 ⊢
  rw [List.any_append, h0, List.any_cons, h]; rfl
set_option maxRecDepth 100000 in
set_option maxHeartbeats 2000000 in
theorem uses_ok (c : Cfg) (A1 A2 A3 A4 A5 : Option Addr) (c1 c2 c3 c4 c5 : Nat) (w : World) (hR : CfgR w w.heap.size c A1 A2 A3 A4 A5 c1 c2 c3 c4 c5) (hs : c.small) (n : Nat) (hn : n ≤ c.chans.length) (id : Int) :
    Calls Tryz.prog 208 #[cfgV c.frame A1 A2 A3 A4 A5 c.parts.length c.wins.length c.regs.length c.ports.length c.chans.length c1 c2 c3 c4 c5, .int .i64 n, .int .u16 id] w fun e w' => e = .returned (.bool (usesL (c.chans.take n) id)) ∧ Below w.heap.size w w' := by
  have hbd := hs.bd
  have ST0 := Lib.hid (St.start hR 29)
  have bx := hbd.x
  have HD := Lib.hid hbd.d
  clear hR hs hbd
  go_enter Tryz.func208, Tryz.ntmps208
  go_wp2
  go_loopw [7] (fun i wr => ∃ k : Nat, k ≤ n ∧ i = .int .i64 k ∧ Hid (usesL (c.chans.take k) id = false) ∧ Hid (St w (wr) c A1 A2 A3 A4 A5 c1 c2 c3 c4 c5)) (fun i _ => n - (intOf i).toNat)
  case atStart => exact ⟨0, Nat.zero_le _, rfl, Lib.hid (by simp [usesL]), ST0⟩
  case round =>
    obtain ⟨k, hk, rfl, hno, ST⟩ := hrel
    by_cases hlt : k < n
    · obtain ⟨x, hx⟩ := get_lt (l := c.chans) (k := k) (by omega)
      obtain ⟨cs, hC, hr⟩ := ST.out.R.chans
      obtain ⟨b, o, rfl, hb, g0, g1, D, d, g2, hd1, hd2, hD⟩ := chn_at hC hr hx
      obtain ⟨x0, x1, x2, x3, x4, x5, hz⟩ := ST.out.cells
      have hdl := HD.out x (List.mem_of_getElem? hx)
      have HX := Lib.hid hx
      have HDD := Lib.hid hD
      clear hx hC hr hD
      rcases beq_cases x.source id with hp | hp
      · have HP := Lib.hid (show (x.source == id || x.dests.contains id) = true by rw [hp]; rfl)
        go_wp2
        go_ret
        exact ⟨ret_bool (usesL_hit HX.out hlt HP.out).symm, ST.out.bel⟩
      · have HP := Lib.hid hp
        go_wp2_with (go_at_call 243; refine (in18_ok x.dests D d id _ hdl HDD.out).mono ?_; rintro e w1 ⟨rfl, hb1⟩)
        · have hc : hasI x.dests id = true := by assumption
          go_ret
          exact ⟨ret_bool (usesL_hit HX.out hlt (by rw [HP.out]; exact hc)).symm, (ST.out.up hb1).bel⟩
        · have hc : hasI x.dests id = false := by assumption
          go_roundw
          case rel => exact ⟨k + 1, by omega, by go_num, Lib.hid (usesL_miss HX.out hno.out (by rw [HP.out]; exact hc)), Lib.hid (ST.out.up hb1)⟩
          case measure => simp [intOf]; omega
    · obtain rfl : k = n := by omega
      go_wp2
      go_ret
      exact ⟨ret_bool hno.out.symm, ST.out.bel⟩
end Go.Proofs.YtpedlbjbbcbbkaaGreat
namespace Go.Proofs.YtpedlbjbbcbbkaaGreat
open Go.RowKit
attribute [local go_sem] ext_cell
theorem ret_pair {p q : Int × Int} (h : p = q) : Ending.returned (.tuple #[.int .i64 p.1, .int .i64 p.2]) = .returned (.tuple #[.int .i64 q.1, .int .i64 q.2]) := by rw [h]
theorem portCode_19 {c : Cfg} {x : Prt} (h : idx (fun y => y.id == x.part) c.parts < 0) : portCode c x = 19 := by unfold portCode; rw [if_pos h]
theorem portCode_28 {c : Cfg} {x : Prt} (h : ¬ idx (fun y => y.id == x.part) c.parts < 0) (h2 : x.size = 0) : portCode c x = 28 := by unfold portCode; rw [if_neg h, if_pos h2]
theorem portCode_0 {c : Cfg} {x : Prt} (h : ¬ idx (fun y => y.id == x.part) c.parts < 0) (h2 : x.size ≠ 0) : portCode c x = 0 := by unfold portCode; rw [if_neg h, if_neg h2]
set_option maxRecDepth 100000 in
set_option maxHeartbeats 2000000 in
theorem rPorts18_ok (c : Cfg) (A1 A2 A3 A4 A5 : Option Addr) (c1 c2 c3 c4 c5 : Nat) (w : World) (hR : CfgR w w.heap.size c A1 A2 A3 A4 A5 c1 c2 c3 c4 c5) (hs : c.small) :
    Calls Tryz.prog 77 #[cfgV c.frame A1 A2 A3 A4 A5 c.parts.length c.wins.length c.regs.length c.ports.length c.chans.length c1 c2 c3 c4 c5] w fun e w' => e = .returned (.tuple #[.int .i64 (portBad c).1, .int .i64 (portBad c).2]) ∧ Below w.heap.size w w' := by
  have hbd := hs.bd
  have ST0 := Lib.hid (St.start hR 29)
  have bx := hbd.t
  clear hR hbd
  go_enter Tryz.func77, Tryz.ntmps77
  go_wp2
  go_loopw [4] (fun i wr => ∃ k : Nat, k ≤ c.ports.length ∧ i = .int .i64 k ∧ Hid (portBad c = bad k ((c.ports.map (portCode c)).drop k)) ∧ Hid (St w (wr) c A1 A2 A3 A4 A5 c1 c2 c3 c4 c5)) (fun i _ => c.ports.length - (intOf i).toNat)
  case atStart => exact ⟨0, Nat.zero_le _, rfl, Lib.hid rfl, ST0⟩
  case round =>
    obtain ⟨k, hk, rfl, hrest, ST⟩ := hrel
    obtain ⟨x0, x1, x2, x3, x4, x5, hz⟩ := ST.out.cells
    by_cases hlt : k < c.ports.length
    · obtain ⟨x, hx⟩ := get_lt hlt
      obtain ⟨b, o, rfl, hb, g0, g1, g2, g3, g4, g5⟩ := prt_at ST.out.R.ports hx
      have HX := Lib.hid (show (c.ports.map (portCode c))[k]? = some (portCode c x) by simp [hx])
      clear hx
      have n0 : (0 : Int) ≤ (k : Int) := by omega
      have n1 : (k : Int) < (c.ports.length : Int) := by omega
      by_cases hi : idx (fun y => y.id == x.part) c.parts < 0
      · have HC := Lib.hid (portCode_19 hi)
        go_wp2_with fail
        refine wp_region_ext (by kernel_rfl) (by kernel_rfl) ?_
        repeat (go_big_quiet_step ((go_at_call 124; exact Calls.quiet_ext (rPartition_ok c _ _ _ _ _ _ _ _ _ _ _ (ST.out.ext _).R hs x.part))))
        refine wpQuiet_nil ?_
        intro xq
        go_wp2
        go_ret2
        refine ⟨?_, (ST.out.ext xq).bel⟩
        rw [bad_hit hrest.out HX.out (by rw [HC.out]; decide), HC.out]
        rfl
      · have hid : decide (idx (fun y => y.id == x.part) c.parts < 0) = false := decide_eq_false hi
        rcases beq_cases x.size 0 with h2 | h2
        · have HC := Lib.hid (portCode_28 hi (by simpa using h2))
          go_wp2_with fail
          refine wp_region_ext (by kernel_rfl) (by kernel_rfl) ?_
          repeat (go_big_quiet_step ((go_at_call 124; exact Calls.quiet_ext (rPartition_ok c _ _ _ _ _ _ _ _ _ _ _ (ST.out.ext _).R hs x.part))))
          refine wpQuiet_nil ?_
          intro xq
          go_wp2
          go_ret2
          refine ⟨?_, (ST.out.ext xq).bel⟩
          rw [bad_hit hrest.out HX.out (by rw [HC.out]; decide), HC.out]
          rfl
        · have HC := Lib.hid (portCode_0 hi (by simpa using h2))
          go_wp2_with fail
          refine wp_region_ext (by kernel_rfl) (by kernel_rfl) ?_
          repeat (go_big_quiet_step ((go_at_call 124; exact Calls.quiet_ext (rPartition_ok c _ _ _ _ _ _ _ _ _ _ _ (ST.out.ext _).R hs x.part))))
          refine wpQuiet_nil ?_
          intro xq
          go_wp2
          go_roundw
          case rel => exact ⟨k + 1, by omega, by go_num, Lib.hid (bad_miss hrest.out (by rw [HX.out, HC.out])), Lib.hid (ST.out.ext xq)⟩
          case measure => simp [intOf]; omega
    · obtain rfl : k = c.ports.length := by omega
      go_wp2
      go_ret2
      refine ⟨?_, ST.out.bel⟩
      rw [show portBad c = (0, 0) from bad_end (l := c.ports.map (portCode c)) (by simpa using hrest.out)]
      rfl
def uniqueB (c : Cfg) : Bool := decide ((c.parts.map (·.id)).Nodup ∧ (c.ports.map (·.id)).Nodup ∧ (c.chans.map (·.id)).Nodup)
theorem idx_lt_mem {α : Type} {f : α → Int} {l : List α} {k : Nat} {x : α} (hx : l[k]? = some x) : idx (fun y => f y == f x) l < (k : Int) ↔ f x ∈ (l.map f).take k := by
  have hmem : (∃ j : Nat, j < k ∧ ∃ y, l[j]? = some y ∧ f y = f x) ↔ f x ∈ (l.map f).take k := by
    rw [List.mem_iff_getElem?]
    constructor
    · rintro ⟨j, hj, y, hy, e⟩
      exact ⟨j, by rw [List.getElem?_take, if_pos hj, List.getElem?_map, hy]; simp [e]⟩
    · rintro ⟨j, hj⟩
      rw [List.getElem?_take] at hj
      split at hj
      · rename_i hlt
        rw [List.getElem?_map] at hj
        obtain ⟨y, hy, e⟩ := Option.map_eq_some_iff.1 hj
        exact ⟨j, hlt, y, hy, e⟩
      · cases hj
  rw [← hmem]
  rcases idx_cases (fun y => f y == f x) l with ⟨h1, h2⟩ | ⟨j, y, h1, h2, h3, h4, h5⟩
  · have := List.find?_eq_none.1 h2 x (List.mem_of_getElem? hx)
    simp at this
  · rw [h1]
    constructor
    · intro h; exact ⟨j, by omega, y, h3, by simpa using h5⟩
    · rintro ⟨i, hi, z, hz, e⟩
      -- the first place is not behind i
      have hle : j ≤ i := by
        have hj := List.find?_eq_some_iff_getElem.1 h4
        obtain ⟨_, m, hm, hy, hall⟩ := hj
        rcases Nat.lt_or_ge i m with h | h
        · have := hall i h
          have hiz : l[i]'(by omega) = z := by rw [List.getElem?_eq_getElem (by omega)] at hz; injection hz
          rw [hiz] at this
          simp [e] at this
        · by_cases hjm : j = m
          · omega
          · rcases Nat.lt_or_ge j m with h' | h'
            · have := hall j h'
              have hjy : l[j]'(by omega) = y := by rw [List.getElem?_eq_getElem (by omega)] at h3; injection h3
              rw [hjy] at this
              simp [h5] at this
            · -- idx gives the first place
              have hidx : idxFrom (fun y => f y == f x) 0 l ≤ (m : Int) := by
                have : ∀ (l : List _) (s m : Nat) (hm : m < l.length), (fun y => f y == f x) (l[m]) = true → idxFrom (fun y => f y == f x) s l ≤ ((s + m : Nat) : Int) := by
                  intro l
                  induction l with
                  | nil => intro s m hm; simp at hm
                  | cons a r ih =>
                    intro s m hm hp
                    unfold idxFrom
                    split
                    · omega
                    · rename_i hna
                      cases m with
                      | zero => exact absurd hp hna
                      | succ m =>
                        have := ih (s + 1) m (by simpa using hm) (by simpa using hp)
                        omega
                have := this l 0 m hm (by rw [hy]; exact h5)
                simpa using this
              have : (j : Int) ≤ m := by rw [← h1]; exact hidx
              omega
      omega
theorem nodup_take_next {l : List Int} {k : Nat} {x : Int} (hx : l[k]? = some x) (h : (l.take k).Nodup) (hn : x ∉ l.take k) : (l.take (k + 1)).Nodup := by
  rw [take_next hx, List.nodup_append]
  refine ⟨h, by simp, fun a ha b hb => ?_⟩
  simp at hb
  subst hb
  rintro rfl
  exact hn ha
theorem not_nodup_of {l : List Int} {k : Nat} {x : Int} (hx : l[k]? = some x) (hm : x ∈ l.take k) : ¬ l.Nodup := by
  intro h
  rw [← List.take_append_drop k l, drop_cons hx, List.nodup_append] at h
  exact h.2.2 x hm x (by simp) rfl
end Go.Proofs.YtpedlbjbbcbbkaaGreat
namespace Go.Proofs.YtpedlbjbbcbbkaaGreat
open Go.RowKit
attribute [local go_sem] ext_cell
theorem rPort_val (c : Cfg) (A1 A2 A3 A4 A5 : Option Addr) (c1 c2 c3 c4 c5 : Nat) (w : World) (hR : CfgR w w.heap.size c A1 A2 A3 A4 A5 c1 c2 c3 c4 c5) (hs : c.small) (id : Int) (v : Int) (hv : Hid (idx (fun x => x.id == id) c.ports = v)) :
    Calls Tryz.prog 207 #[cfgV c.frame A1 A2 A3 A4 A5 c.parts.length c.wins.length c.regs.length c.ports.length c.chans.length c1 c2 c3 c4 c5, .int .u16 id] w fun e w' => e = .returned (.int .i64 v) ∧ Below w.heap.size w w' := by
  have h := rPort_ok c A1 A2 A3 A4 A5 c1 c2 c3 c4 c5 w hR hs id
  rwa [hv.out] at h
theorem uses_val (c : Cfg) (A1 A2 A3 A4 A5 : Option Addr) (c1 c2 c3 c4 c5 : Nat) (w : World) (hR : CfgR w w.heap.size c A1 A2 A3 A4 A5 c1 c2 c3 c4 c5) (hs : c.small) (n : Nat) (hn : n ≤ c.chans.length) (id : Int) (v : Bool) (hv : Hid (usesL (c.chans.take n) id = v)) :
    Calls Tryz.prog 208 #[cfgV c.frame A1 A2 A3 A4 A5 c.parts.length c.wins.length c.regs.length c.ports.length c.chans.length c1 c2 c3 c4 c5, .int .i64 n, .int .u16 id] w fun e w' => e = .returned (.bool v) ∧ Below w.heap.size w w' := by
  have h := uses_ok c A1 A2 A3 A4 A5 c1 c2 c3 c4 c5 w hR hs n hn id
  rwa [hv.out] at h
theorem Rd.take {w : World} {B n : Nat} {A : Option Addr} {l : List Int} (h : Rd w B 1 A n (l.map (Value.int .u16))) {k : Nat} (hk : k ≤ n) : Rd w B 1 A k ((l.take k).map (Value.int .u16)) := by
  have h1 := h.1
  simp only [List.length_map, Nat.mul_one] at h1
  refine ⟨by simp; omega, fun hp => ?_⟩
  obtain ⟨b, o, e, hb, hc⟩ := h.2 (by omega)
  refine ⟨b, o, e, hb, fun j u hu => hc j u ?_⟩
  rw [List.getElem?_map, List.getElem?_take] at hu
  split at hu
  · rw [List.getElem?_map]; exact hu
  · cases hu
theorem rDest_19 {c : Cfg} {i k : Nat} {x : Chn} {d : Int} (h : portOf c d = none) : rDest c i x k d = 19 := by simp [rDest, h]
theorem rDest_25 {c : Cfg} {i k : Nat} {x : Chn} {d : Int} {p : Prt} (h : portOf c d = some p) (ho : p.output = true) : rDest c i x k d = 25 := by simp [rDest, h, ho]
theorem rDest_26 {c : Cfg} {i k : Nat} {x : Chn} {d : Int} {p s : Prt} (h : portOf c d = some p) (ho : p.output = false) (hs : thePort c x.source = s) (hk : sameKind s p = false) : rDest c i x k d = 26 := by simp [rDest, h, ho, hs, hk]
theorem rDest_27a {c : Cfg} {i k : Nat} {x : Chn} {d : Int} {p s : Prt} (h : portOf c d = some p) (ho : p.output = false) (hs : thePort c x.source = s) (hk : sameKind s p = true) (hu : usesL (c.chans.take i) p.id = true) : rDest c i x k d = 27 := by simp [rDest, h, ho, hs, hk, hu]
theorem rDest_27b {c : Cfg} {i k : Nat} {x : Chn} {d : Int} {p s : Prt} (h : portOf c d = some p) (ho : p.output = false) (hs : thePort c x.source = s) (hk : sameKind s p = true) (hu : hasI (x.dests.take k) p.id = true) : rDest c i x k d = 27 := by
  have hu' : (x.dests.take k).contains p.id = true := hu
  simp only [rDest, h, ho, hs, hk, hu', Bool.or_true, if_true]; rfl
theorem rDest_0 {c : Cfg} {i k : Nat} {x : Chn} {d : Int} {p s : Prt} (h : portOf c d = some p) (ho : p.output = false) (hs : thePort c x.source = s) (hk : sameKind s p = true) (hu : usesL (c.chans.take i) p.id = false) (hu2 : hasI (x.dests.take k) p.id = false) : rDest c i x k d = 0 := by
  have hu' : (x.dests.take k).contains p.id = false := hu2
  simp only [rDest, h, ho, hs, hk, hu, hu', Bool.or_false, if_true]; rfl
theorem sameKind_q {s p : Prt} (h : p.queuing ≠ s.queuing) : sameKind s p = false := by simp [sameKind, h]
theorem sameKind_s {s p : Prt} (h : p.size ≠ s.size) : sameKind s p = false := by simp [sameKind, h]
theorem sameKind_y {s p : Prt} (h1 : p.queuing = s.queuing) (h : p.size = s.size) : sameKind s p = true := by simp [sameKind, h, h1]
set_option maxRecDepth 100000 in
set_option maxHeartbeats 4000000 in
theorem dest18_ok (c : Cfg) (A1 A2 A3 A4 A5 : Option Addr) (c1 c2 c3 c4 c5 : Nat) (w : World) (hR : CfgR w w.heap.size c A1 A2 A3 A4 A5 c1 c2 c3 c4 c5) (hs : c.small) (i : Nat) (x : Chn) (hx : c.chans[i]? = some x) (k : Nat) (dd : Int) (hd : x.dests[k]? = some dd) (ks : Nat) (s : Prt) (hks : idx (fun y => y.id == x.source) c.ports = (ks : Int)) (hps : c.ports[ks]? = some s) (hst : thePort c x.source = s) :
    Calls Tryz.prog 209 #[cfgV c.frame A1 A2 A3 A4 A5 c.parts.length c.wins.length c.regs.length c.ports.length c.chans.length c1 c2 c3 c4 c5, .int .i64 i, .int .i64 k] w fun e w' => e = .returned (.int .i64 (rDest c i x k dd)) ∧ Below w.heap.size w w' := by
  have hbd := hs.bd
  obtain ⟨W0, hW, st⟩ := St.start_any hR 29
  have HW := Lib.hid hW
  have bt := hbd.t
  have bx := hbd.x
  have hil : i < c.chans.length := (List.getElem?_eq_some_iff.1 hx).1
  have hdl := hbd.d x (List.mem_of_getElem? hx)
  have hkl : k < x.dests.length := (List.getElem?_eq_some_iff.1 hd).1
  have hksl : ks < c.ports.length := (List.getElem?_eq_some_iff.1 hps).1
  have HX := Lib.hid hx
  have HD := Lib.hid hd
  have HK := Lib.hid hks
  have HP := Lib.hid hps
  have HT := Lib.hid hst
  clear hR hbd hx hd hks hps hst hW
  obtain ⟨cs, hC, hr⟩ := st.R.chans
  obtain ⟨b, o, rfl, hb, g0, g1, D, d, g2, hd1, hd2, hD⟩ := chn_at hC hr HX.out
  obtain ⟨bp, op, rfl, hbp, p0, p1, p2, p3, p4, p5⟩ := prt_at st.R.ports HP.out
  obtain ⟨x0, x1, x2, x3, x4, x5, hz⟩ := st.cells
  have HDD := Lib.hid hD
  have ST0 := Lib.hid st
  clear hC hr hD st
  go_enter Tryz.func209, Tryz.ntmps209
  go_upto_region 1 with (fail)
  rw [HW.out]
  go_upto_region 2 with (fail)
  obtain ⟨W1, hW1, cb, hb1⟩ := ChBox.new W0 x D d 66
  rw [hW1]
  have st := ST0.out.up hb1
  have HDD1 := Lib.hid (HDD.out.up hb1)
  clear hW1 HDD g0 g1 g2 x0 x1 x2 x3 x4 x5 hz hb p0 p1 p2 p3 p4 p5
  obtain ⟨bp2, op2, e2, hbp2, p0, p1, p2, p3, p4, p5⟩ := prt_at st.R.ports HP.out
  obtain ⟨rfl, rfl⟩ : bp = bp2 ∧ op = op2 := by simpa using e2
  obtain ⟨x0, x1, x2, x3, x4, x5, hz⟩ := st.cells
  obtain ⟨y0, y1, y2, hz1⟩ := cb
  have ST1 := Lib.hid st
  clear st e2 ST0 HW hb1
  have n0 : (0 : Int) ≤ (ks : Int) := by omega
  have n1 : (ks : Int) < (c.ports.length : Int) := by omega
  have KEEP : ∀ V, Below W1.heap.size W1 V → (fun w' => w'.cell? ⟨w.heap.size, 0, none⟩ = some (.int .u64 c.frame) ∧ w'.cell? ⟨w.heap.size, 1, none⟩ = some (.slice A1 c.parts.length c1) ∧ w'.cell? ⟨w.heap.size, 2, none⟩ = some (.slice A2 c.wins.length c2) ∧
      w'.cell? ⟨w.heap.size, 3, none⟩ = some (.slice A3 c.regs.length c3) ∧ w'.cell? ⟨w.heap.size, 4, none⟩ = some (.slice (some ⟨bp, op, none⟩) c.ports.length c4) ∧ w'.cell? ⟨w.heap.size, 5, none⟩ = some (.slice (some ⟨b, o, none⟩) c.chans.length c5) ∧
      w'.cell? ⟨W0.heap.size, 1, none⟩ = some (.int .u16 x.source) ∧ w'.cell? ⟨bp, op + ks * 6, none⟩ = some (.int .u16 s.id) ∧ w'.cell? ⟨bp, op + ks * 6 + 1, none⟩ = some (.int .u16 s.part) ∧ w'.cell? ⟨bp, op + ks * 6 + 2, none⟩ = some (.string s.name) ∧
      w'.cell? ⟨bp, op + ks * 6 + 3, none⟩ = some (.bool s.output) ∧ w'.cell? ⟨bp, op + ks * 6 + 4, none⟩ = some (.bool s.queuing) ∧ w'.cell? ⟨bp, op + ks * 6 + 5, none⟩ = some (.int .u32 s.size)) V := fun V hV => by
    have q : ∀ b o, b < W1.heap.size → V.cell? ⟨b, o, none⟩ = W1.cell? ⟨b, o, none⟩ := fun b o h => hV.cell (p := ⟨b, o, none⟩) h
    exact ⟨(q _ _ hz).trans x0, (q _ _ hz).trans x1, (q _ _ hz).trans x2, (q _ _ hz).trans x3, (q _ _ hz).trans x4, (q _ _ hz).trans x5, (q _ _ hz1).trans y1, (q _ _ hbp2).trans p0, (q _ _ hbp2).trans p1, (q _ _ hbp2).trans p2, (q _ _ hbp2).trans p3, (q _ _ hbp2).trans p4, (q _ _ hbp2).trans p5⟩
  have HKP := Lib.hid KEEP
  clear KEEP
  go_cut [8] (fun v W => ∃ g, v = .pointer (some ⟨g, 0, none⟩) ∧ Hid (Below W1.heap.size W1 W) ∧ Hid (PtBox W g s))
  case first =>
    go_region_held3 (fun w' => w'.cell? ⟨w.heap.size, 0, none⟩ = some (.int .u64 c.frame) ∧ w'.cell? ⟨w.heap.size, 1, none⟩ = some (.slice A1 c.parts.length c1) ∧ w'.cell? ⟨w.heap.size, 2, none⟩ = some (.slice A2 c.wins.length c2) ∧
      w'.cell? ⟨w.heap.size, 3, none⟩ = some (.slice A3 c.regs.length c3) ∧ w'.cell? ⟨w.heap.size, 4, none⟩ = some (.slice (some ⟨bp, op, none⟩) c.ports.length c4) ∧ w'.cell? ⟨w.heap.size, 5, none⟩ = some (.slice (some ⟨b, o, none⟩) c.chans.length c5) ∧
      w'.cell? ⟨W0.heap.size, 1, none⟩ = some (.int .u16 x.source) ∧ w'.cell? ⟨bp, op + ks * 6, none⟩ = some (.int .u16 s.id) ∧ w'.cell? ⟨bp, op + ks * 6 + 1, none⟩ = some (.int .u16 s.part) ∧ w'.cell? ⟨bp, op + ks * 6 + 2, none⟩ = some (.string s.name) ∧
      w'.cell? ⟨bp, op + ks * 6 + 3, none⟩ = some (.bool s.output) ∧ w'.cell? ⟨bp, op + ks * 6 + 4, none⟩ = some (.bool s.queuing) ∧ w'.cell? ⟨bp, op + ks * 6 + 5, none⟩ = some (.int .u32 s.size))
      (first | (refine HKP.out _ ?_; (repeat (first | with_reducible exact HBW.out | with_reducible exact Below.refl _ _ | with_reducible refine Below.drew ?_ | (with_reducible refine Below.alloc ?_ (by first | (simp; done) | (have hq := HBW.out.size; simp at hq ⊢; omega)) _) | (with_reducible refine Below.setCell ?_ (by first | (simp; done) | (have hq := HBW.out.size; simp at hq ⊢; omega)) _))); done) | go_keep)
      (first | (go_at_call 207; refine (rPort_val c _ _ _ _ _ _ _ _ _ _ _ (ST1.out.up (by repeat (first | with_reducible exact Below.refl _ _ | with_reducible refine Below.drew ?_ | (with_reducible refine Below.alloc ?_ (by simp) _) | (with_reducible refine Below.setCell ?_ (by simp) _)))).R hs x.source ks HK).mono ?_; rintro e w2 ⟨rfl, hb2⟩; have HBW := Lib.hid (Below.then_ (show Below W1.heap.size W1 _ from (by repeat (first | with_reducible exact Below.refl _ _ | with_reducible refine Below.drew ?_ | (with_reducible refine Below.alloc ?_ (by simp) _) | (with_reducible refine Below.setCell ?_ (by simp) _)))) hb2); (try (have bk : Blk w2 W1.heap.size 59 #[.int .u16 0, .int .u16 0, .string ⟨#[]⟩, .bool false, .bool false, .int .u32 0] := Blk.below (by exact Blk.new W1 _ _) hb2 (by simp); have k0 := bk.cell 0; have k1 := bk.cell 1; have k2 := bk.cell 2; have k3 := bk.cell 3; have k4 := bk.cell 4; have k5 := bk.cell 5; have kf := bk.frozen; have HBK := Lib.hid bk; clear bk; simp at k0 k1 k2 k3 k4 k5))))
    · go_wp2
      go_meet
      case rel => exact ⟨_, rfl, Lib.hid (by (repeat (first | with_reducible exact HBW.out | with_reducible exact Below.refl _ _ | with_reducible refine Below.drew ?_ | (with_reducible refine Below.alloc ?_ (by first | (simp; done) | (have hq := HBW.out.size; simp at hq ⊢; omega)) _) | (with_reducible refine Below.setCell ?_ (by first | (simp; done) | (have hq := HBW.out.size; simp at hq ⊢; omega)) _)))), Lib.hid (by refine ⟨?_, ?_, ?_, ?_, ?_, ?_, ?_⟩ <;> simp)⟩
    · go_wp2
      go_meet
      case rel => exact ⟨_, rfl, Lib.hid (by (repeat (first | with_reducible exact HBW.out | with_reducible exact Below.refl _ _ | with_reducible refine Below.drew ?_ | (with_reducible refine Below.alloc ?_ (by first | (simp; done) | (have hq := HBW.out.size; simp at hq ⊢; omega)) _) | (with_reducible refine Below.setCell ?_ (by first | (simp; done) | (have hq := HBW.out.size; simp at hq ⊢; omega)) _)))), Lib.hid (by
        have hb := (((((HBK.out.set_ 0 (.int .u16 s.id)).set_ 1 (.int .u16 s.part)).set_ 2 (.string s.name)).set_ 3 (.bool s.output)).set_ 4 (.bool s.queuing)).set_ 5 (.int .u32 s.size)
        have e := hb.cell
        have el := hb.lt
        refine ⟨?_, ?_, ?_, ?_, ?_, ?_, el⟩ <;> (rw [e]; simp))⟩
  case rest =>
    obtain ⟨g, rfl, hbw, pb⟩ := hcut
    have st := ST1.out.up hbw.out
    have cb2 : ChBox wc W0.heap.size x D d := ChBox.up ⟨y0, y1, y2, hz1⟩ hbw.out
    have HDD2 := Lib.hid (HDD1.out.up hbw.out)
    clear x0 x1 x2 x3 x4 x5 hz y0 y1 y2 hz1 p0 p1 p2 p3 p4 p5 hbp hbp2 HKP HDD1
    obtain ⟨bd, od, rfl, hbd, gd⟩ := int_at HDD2.out HD.out
    obtain ⟨x0, x1, x2, x3, x4, x5, hz⟩ := st.cells
    obtain ⟨y0, y1, y2, hz1⟩ := cb2
    have ST2 := Lib.hid st
    have CB2 := Lib.hid (show ChBox wc W0.heap.size x (some ⟨bd, od, none⟩) d from ⟨y0, y1, y2, hz1⟩)
    have k0 : (0 : Int) ≤ (k : Int) := by omega
    have k1 : (k : Int) < (x.dests.length : Int) := by omega
    clear st
    go_upto_region 3 with (fail)
    rcases idx_cases (fun y => y.id == dd) c.ports with ⟨h1, h2⟩ | ⟨kd, p, h1, hkd, h3, h4, h5⟩
    · have HI := Lib.hid h1
      have HF := Lib.hid (rDest_19 (c := c) (i := i) (k := k) (x := x) (d := dd) h2)
      clear h1 h2
      refine wp_region_ext (by kernel_rfl) (by kernel_rfl) ?_
      repeat (go_big_quiet_step ((go_at_call 207; exact Calls.quiet_ext (rPort_val c _ _ _ _ _ _ _ _ _ _ _ (ST2.out.ext _).R hs dd (-1) HI))))
      refine wpQuiet_nil ?_
      intro xq
      go_wp2
      go_ret
      exact ⟨ret_int HF.out.symm, (ST2.out.ext xq).bel⟩
    · have HI := Lib.hid h1
      have HPD := Lib.hid h3
      have HF := Lib.hid (show portOf c dd = some p from h4)
      clear h1 h3 h4 h5
      refine wp_region_ext (by kernel_rfl) (by kernel_rfl) ?_
      repeat (go_big_quiet_step ((go_at_call 207; exact Calls.quiet_ext (rPort_val c _ _ _ _ _ _ _ _ _ _ _ (ST2.out.ext _).R hs dd kd HI))))
      refine wpQuiet_nil ?_
      intro xq
      have st := ST2.out.ext xq
      have cb := CB2.out.up (ext_below _ xq)
      have pb2 := pb.out.up (ext_below _ xq)
      have HDD3 := Lib.hid (HDD2.out.up (ext_below _ xq))
      generalize ext wc xq = W3 at *
      clear x0 x1 x2 x3 x4 x5 hz y0 y1 y2 hz1 gd
      obtain ⟨bq, oq, eq, hbq, p0, p1, p2, p3, p4, p5⟩ := prt_at st.R.ports HPD.out
      obtain ⟨rfl, rfl⟩ : bp = bq ∧ op = oq := by simpa using eq
      obtain ⟨x0, x1, x2, x3, x4, x5, hz⟩ := st.cells
      obtain ⟨y0, y1, y2, hz1⟩ := cb
      obtain ⟨z0, z1, z2, z3, z4, z5, hz2⟩ := pb2
      have ST3 := Lib.hid st
      have m0 : (0 : Int) ≤ (kd : Int) := by omega
      have m1 : (kd : Int) < (c.ports.length : Int) := by omega
      have mneg : decide ((kd : Int) < 0) = false := decide_eq_false (by omega)
      clear st eq
      rcases Bool.eq_false_or_eq_true p.output with hpo | hpo
      · have HV := Lib.hid (rDest_25 (i := i) (k := k) (x := x) HF.out hpo)
        go_wp2
        go_ret
        exact ⟨ret_int HV.out.symm, (ST3.out.alloc _).bel⟩
      · by_cases hq : p.queuing = s.queuing
        · have hqb : (p.queuing != s.queuing) = false := by simp [hq]
          rcases beq_cases p.size s.size with hsz | hsz
          · have hszb : (p.size != s.size) = false := by simpa using hsz
            have hsk := sameKind_y hq (by simpa using hsz)
            have HQ := Lib.hid hq
            have HSK := Lib.hid hsk
            have HPO := Lib.hid hpo
            clear hq hsk
            go_upto_region 11 with (fail)
            generalize hW4 : World.alloc W3 _ = W4
            have hb4 : Below W3.heap.size W3 W4 := hW4 ▸ below_one _ _
            have pb4 : PtBox W4 W3.heap.size p := by rw [← hW4]; refine ⟨?_, ?_, ?_, ?_, ?_, ?_, ?_⟩ <;> simp [HPO.out, HQ.out]
            have st := ST3.out.up hb4
            have cb : ChBox W4 W0.heap.size x (some ⟨bd, od, none⟩) d := ChBox.up ⟨y0, y1, y2, hz1⟩ hb4
            have HDD4 := Lib.hid (HDD3.out.up hb4)
            clear x0 x1 x2 x3 x4 x5 hz y0 y1 y2 hz1 z0 z1 z2 z3 z4 z5 hz2 hW4 p0 p1 p2 p3 p4 p5
            obtain ⟨x0, x1, x2, x3, x4, x5, hz⟩ := st.cells
            obtain ⟨y0, y1, y2, hz1⟩ := cb
            obtain ⟨z0, z1, z2, z3, z4, z5, hz2⟩ := pb4
            have ST4 := Lib.hid st
            clear st
            have hub : usesL (c.chans.take i) p.id = true ∨ usesL (c.chans.take i) p.id = false := by cases usesL (c.chans.take i) p.id <;> simp
            rcases hub with hu | hu
            · have HU := Lib.hid hu
              have HV := Lib.hid (rDest_27a (k := k) HF.out HPO.out HT.out HSK.out hu)
              clear hu
              refine wp_region_ext (by kernel_rfl) (by kernel_rfl) ?_
              repeat (go_big_quiet_step ((go_at_call 208; exact Calls.quiet_ext (uses_val c _ _ _ _ _ _ _ _ _ _ _ (ST4.out.ext _).R hs i (by omega) p.id true HU))))
              refine wpQuiet_nil ?_
              intro xr
              go_wp2
              go_ret
              exact ⟨ret_int HV.out.symm, (ST4.out.ext xr).bel⟩
            · have HU := Lib.hid hu
              clear hu
              have hib : hasI (x.dests.take k) p.id = true ∨ hasI (x.dests.take k) p.id = false := by cases hasI (x.dests.take k) p.id <;> simp
              have htl : (x.dests.take k).length = k := by simp; omega
              have hin : ∀ (y : Ext W4) (cc : Nat), Calls Tryz.prog 243 #[.slice (some ⟨bd, od, none⟩) k cc, .int .u16 p.id] (ext W4 y) fun e w' => ∀ v, Hid (hasI (x.dests.take k) p.id = v) → e = .returned (.bool v) ∧ Below (ext W4 y).heap.size (ext W4 y) w' := fun y cc => by
                have h := in18_ok (x.dests.take k) (some ⟨bd, od, none⟩) cc p.id (ext W4 y) (by omega) (by rw [htl]; exact (HDD4.out.up (ext_below _ y)).take (by omega))
                rw [htl] at h
                exact h.mono fun e w' ⟨h1, h2⟩ v hv => ⟨by rw [h1, hv.out], h2⟩
              have HIN := Lib.hid hin
              clear hin htl
              rcases hib with hi | hi
              · have HI2 := Lib.hid hi
                have HV := Lib.hid (rDest_27b (i := i) HF.out HPO.out HT.out HSK.out hi)
                clear hi
                refine wp_region_ext (by kernel_rfl) (by kernel_rfl) ?_
                repeat (go_big_quiet_step ((first | (go_at_call 208; exact Calls.quiet_ext (uses_val c _ _ _ _ _ _ _ _ _ _ _ (ST4.out.ext _).R hs i (by omega) p.id false HU)) | (go_at_call 243; exact Calls.quiet_ext ((HIN.out _ _).mono fun _ _ h => h true HI2)))))
                refine wpQuiet_nil ?_
                intro xr
                go_wp2
                go_ret
                exact ⟨ret_int HV.out.symm, (ST4.out.ext xr).bel⟩
              · have HI2 := Lib.hid hi
                have HV := Lib.hid (rDest_0 HF.out HPO.out HT.out HSK.out HU.out hi)
                clear hi
                refine wp_region_ext (by kernel_rfl) (by kernel_rfl) ?_
                repeat (go_big_quiet_step ((first | (go_at_call 208; exact Calls.quiet_ext (uses_val c _ _ _ _ _ _ _ _ _ _ _ (ST4.out.ext _).R hs i (by omega) p.id false HU)) | (go_at_call 243; exact Calls.quiet_ext ((HIN.out _ _).mono fun _ _ h => h false HI2)))))
                refine wpQuiet_nil ?_
                intro xr
                go_wp2
                go_ret
                exact ⟨ret_int HV.out.symm, (ST4.out.ext xr).bel⟩
          · have hszb : (p.size != s.size) = true := by simpa using hsz
            have HV := Lib.hid (rDest_26 (i := i) (k := k) HF.out hpo HT.out (sameKind_s (by simpa using hsz)))
            have HQ := Lib.hid hq
            clear hq
            go_wp2
            all_goals first | (exfalso; exact ‹¬ p.queuing = s.queuing› HQ.out) | (go_ret; exact ⟨ret_int HV.out.symm, (ST3.out.alloc _).bel⟩)
        · have hqb : (p.queuing != s.queuing) = true := by simp [hq]
          have HV := Lib.hid (rDest_26 (i := i) (k := k) HF.out hpo HT.out (sameKind_q hq))
          have HQ := Lib.hid hq
          clear hq
          go_wp2
          all_goals first | (exfalso; exact HQ.out ‹p.queuing = s.queuing›) | (go_ret; exact ⟨ret_int HV.out.symm, (ST3.out.alloc _).bel⟩)
theorem rChan_19 {c : Cfg} {i : Nat} {x : Chn} (h : portOf c x.source = none) : rChan c i x = 19 := by simp [rChan, h]
theorem rChan_25 {c : Cfg} {i : Nat} {x : Chn} {s : Prt} (h : portOf c x.source = some s) (ho : s.output = false) : rChan c i x = 25 := by simp [rChan, h, ho]
theorem rChan_27 {c : Cfg} {i : Nat} {x : Chn} {s : Prt} (h : portOf c x.source = some s) (ho : s.output = true) (hu : usesL (c.chans.take i) x.source = true) : rChan c i x = 27 := by simp [rChan, h, ho, hu]
theorem rChan_28 {c : Cfg} {i : Nat} {x : Chn} {s : Prt} (h : portOf c x.source = some s) (ho : s.output = true) (hu : usesL (c.chans.take i) x.source = false) (hd : x.dests = []) : rChan c i x = 28 := by simp [rChan, h, ho, hu, hd]
theorem rChan_d {c : Cfg} {i : Nat} {x : Chn} {s : Prt} (h : portOf c x.source = some s) (ho : s.output = true) (hu : usesL (c.chans.take i) x.source = false) (hd : x.dests ≠ []) : rChan c i x = rDests c i x 0 x.dests := by simp [rChan, h, ho, hu, hd]
theorem rDests_hit {c : Cfg} {i k : Nat} {x : Chn} {d : Int} {v : Int} (h : v = rDests c i x k (x.dests.drop k)) (hx : x.dests[k]? = some d) (hp : rDest c i x k d ≠ 0) : v = rDest c i x k d := by
  rw [h, drop_cons hx, rDests, if_neg hp]
theorem rDests_miss {c : Cfg} {i k : Nat} {x : Chn} {d : Int} {v : Int} (h : v = rDests c i x k (x.dests.drop k)) (hx : x.dests[k]? = some d) (hp : rDest c i x k d = 0) : v = rDests c i x (k + 1) (x.dests.drop (k + 1)) := by
  rw [h, drop_cons hx, rDests, if_pos hp]
theorem rDests_end {c : Cfg} {i : Nat} {x : Chn} {v : Int} (h : v = rDests c i x x.dests.length (x.dests.drop x.dests.length)) : v = 0 := by
  rw [h, List.drop_length, rDests]
theorem dest18_val (c : Cfg) (A1 A2 A3 A4 A5 : Option Addr) (c1 c2 c3 c4 c5 : Nat) (w : World) (hR : CfgR w w.heap.size c A1 A2 A3 A4 A5 c1 c2 c3 c4 c5) (hs : c.small) (i : Nat) (x : Chn) (hx : c.chans[i]? = some x) (k : Nat) (dd : Int) (hd : x.dests[k]? = some dd) (ks : Nat) (s : Prt) (hks : idx (fun y => y.id == x.source) c.ports = (ks : Int)) (hps : c.ports[ks]? = some s) (hst : thePort c x.source = s) (v : Int) (hv : Hid (rDest c i x k dd = v)) :
    Calls Tryz.prog 209 #[cfgV c.frame A1 A2 A3 A4 A5 c.parts.length c.wins.length c.regs.length c.ports.length c.chans.length c1 c2 c3 c4 c5, .int .i64 i, .int .i64 k] w fun e w' => e = .returned (.int .i64 v) ∧ Below w.heap.size w w' := by
  have h := dest18_ok c A1 A2 A3 A4 A5 c1 c2 c3 c4 c5 w hR hs i x hx k dd hd ks s hks hps hst
  rwa [hv.out] at h
set_option maxRecDepth 100000 in
set_option maxHeartbeats 4000000 in
theorem channel18_ok (c : Cfg) (A1 A2 A3 A4 A5 : Option Addr) (c1 c2 c3 c4 c5 : Nat) (w : World) (hR : CfgR w w.heap.size c A1 A2 A3 A4 A5 c1 c2 c3 c4 c5) (hs : c.small) (i : Nat) (x : Chn) (hx : c.chans[i]? = some x) :
    Calls Tryz.prog 131 #[cfgV c.frame A1 A2 A3 A4 A5 c.parts.length c.wins.length c.regs.length c.ports.length c.chans.length c1 c2 c3 c4 c5, .int .i64 i] w fun e w' => e = .returned (.int .i64 (rChan c i x)) ∧ Below w.heap.size w w' := by
  have hbd := hs.bd
  obtain ⟨W0, hW, st⟩ := St.start_any hR 29
  have HW := Lib.hid hW
  have bt := hbd.t
  have bx := hbd.x
  have hil : i < c.chans.length := (List.getElem?_eq_some_iff.1 hx).1
  have hdl := hbd.d x (List.mem_of_getElem? hx)
  have HX := Lib.hid hx
  clear hR hbd hx hW
  obtain ⟨cs, hC, hr⟩ := st.R.chans
  obtain ⟨b, o, rfl, hb, g0, g1, D, d, g2, hd1, hd2, hD⟩ := chn_at hC hr HX.out
  obtain ⟨x0, x1, x2, x3, x4, x5, hz⟩ := st.cells
  have ST0 := Lib.hid st
  clear hC hr hD st
  go_enter Tryz.func131, Tryz.ntmps131
  go_upto_region 1 with (fail)
  rw [HW.out]
  go_upto_region 2 with (fail)
  obtain ⟨W1, hW1, cb, hb1⟩ := ChBox.new W0 x D d 66
  rw [hW1]
  have st := ST0.out.up hb1
  clear hW1 g0 g1 g2 x0 x1 x2 x3 x4 x5 hz hb
  obtain ⟨x0, x1, x2, x3, x4, x5, hz⟩ := st.cells
  have CB1 := Lib.hid cb
  obtain ⟨y0, y1, y2, hz1⟩ := cb
  have ST1 := Lib.hid st
  clear st ST0 HW hb1
  rcases idx_cases (fun y => y.id == x.source) c.ports with ⟨h1, h2⟩ | ⟨ks, s, h1, hkd, h3, h4, h5⟩
  · have HI := Lib.hid h1
    have HV := Lib.hid (rChan_19 (c := c) (i := i) (x := x) h2)
    clear h1 h2
    go_wp2_with (go_at_call 207; refine (rPort_val c _ _ _ _ _ _ _ _ _ _ _ ST1.out.R hs x.source (-1) HI).mono ?_; rintro e w2 ⟨rfl, hb2⟩)
    go_ret
    exact ⟨ret_int HV.out.symm, (ST1.out.up hb2).bel⟩
  · have HI := Lib.hid h1
    have HPS := Lib.hid h3
    have HF := Lib.hid (show portOf c x.source = some s from h4)
    have HT := Lib.hid (show thePort c x.source = s by simp [thePort, show portOf c x.source = some s from h4])
    clear h1 h3 h4 h5
    have m0 : (0 : Int) ≤ (ks : Int) := by omega
    have m1 : (ks : Int) < (c.ports.length : Int) := by omega
    have mneg : decide ((ks : Int) < 0) = false := decide_eq_false (by omega)
    go_wp2_with fail
    refine (rPort_val c _ _ _ _ _ _ _ _ _ _ _ ST1.out.R hs x.source ks HI).mono ?_
    rintro e w2 ⟨rfl, hb2⟩
    have st := ST1.out.up hb2
    have cb := CB1.out.up hb2
    have HB2 := Lib.hid hb2
    clear x0 x1 x2 x3 x4 x5 hz y0 y1 y2 hz1 hb2
    obtain ⟨bp, op, rfl, hbq, p0, p1, p2, p3, p4, p5⟩ := prt_at st.R.ports HPS.out
    obtain ⟨x0, x1, x2, x3, x4, x5, hz⟩ := st.cells
    have CB2 := Lib.hid cb
    obtain ⟨y0, y1, y2, hz1⟩ := cb
    have ST2 := Lib.hid st
    clear st
    rcases Bool.eq_false_or_eq_true s.output with hso | hso
    · have HSO := Lib.hid hso
      have hub : usesL (c.chans.take i) x.source = true ∨ usesL (c.chans.take i) x.source = false := by cases usesL (c.chans.take i) x.source <;> simp
      go_upto_region 7 with (fail)
      rcases hub with hu | hu
      · have HU := Lib.hid hu
        have HV := Lib.hid (rChan_27 HF.out HSO.out hu)
        clear hu
        go_wp2_with (go_at_call 208; refine (uses_val c _ _ _ _ _ _ _ _ _ _ _ ST2.out.R hs i (by omega) x.source true HU).mono ?_; rintro e w3 ⟨rfl, hb3⟩)
        go_ret
        exact ⟨ret_int HV.out.symm, (ST2.out.up hb3).bel⟩
      · have HU := Lib.hid hu
        clear hu
        go_wp2_with fail
        refine (uses_val c _ _ _ _ _ _ _ _ _ _ _ ST2.out.R hs i (by omega) x.source false HU).mono ?_
        rintro e w3 ⟨rfl, hb3⟩
        have st := ST2.out.up hb3
        have cb := CB2.out.up hb3
        clear x0 x1 x2 x3 x4 x5 hz y0 y1 y2 hz1 p0 p1 p2 p3 p4 p5
        obtain ⟨x0, x1, x2, x3, x4, x5, hz⟩ := st.cells
        have CB3 := Lib.hid cb
        obtain ⟨y0, y1, y2, hz1⟩ := cb
        have ST3 := Lib.hid st
        clear st hb3
        by_cases hd0 : x.dests.length = 0
        · have HV := Lib.hid (rChan_28 HF.out HSO.out HU.out (List.eq_nil_of_length_eq_zero hd0))
          have hd0' : ((x.dests.length : Int) == 0) = true := by simp [hd0]
          clear hd0
          go_wp2
          go_ret
          exact ⟨ret_int HV.out.symm, ST3.out.bel⟩
        · have HV := Lib.hid (rChan_d HF.out HSO.out HU.out (fun e => hd0 (by rw [e]; rfl)))
          have hd0' : ((x.dests.length : Int) == 0) = false := by simp; exact fun e => hd0 (by rw [e]; rfl)
          clear hd0
          go_wp2
          clear x0 x1 x2 x3 x4 x5 hz y0 y1 y2 hz1
          go_loopw [7] (fun j wr => ∃ k : Nat, k ≤ x.dests.length ∧ j = .int .i64 k ∧ Hid (rChan c i x = rDests c i x k (x.dests.drop k)) ∧ Hid (St w wr c A1 A2 A3 (some ⟨bp, op, none⟩) (some ⟨b, o, none⟩) c1 c2 c3 c4 c5) ∧ Hid (ChBox wr W0.heap.size x D d)) (fun j _ => x.dests.length - (intOf j).toNat)
          case atStart => exact ⟨0, Nat.zero_le _, rfl, HV, ST3, CB3⟩
          case round =>
            obtain ⟨k, hk, rfl, hrest, STr, CBr⟩ := hrel
            obtain ⟨x0, x1, x2, x3, x4, x5, hz⟩ := STr.out.cells
            obtain ⟨y0, y1, y2, hz1⟩ := CBr.out
            by_cases hlt : k < x.dests.length
            · obtain ⟨dd, hdd⟩ := get_lt hlt
              have HDD := Lib.hid hdd
              clear hdd
              by_cases he : rDest c i x k dd = 0
              · have HE := Lib.hid he
                clear he
                go_wp2_with (go_at_call 209; refine (dest18_val c _ _ _ _ _ _ _ _ _ _ _ STr.out.R hs i x HX.out k dd HDD.out ks s HI.out HPS.out HT.out 0 HE).mono ?_; rintro e w4 ⟨rfl, hb4⟩)
                go_roundw
                case rel => exact ⟨k + 1, by omega, by go_num, Lib.hid (rDests_miss hrest.out HDD.out HE.out), Lib.hid (STr.out.up hb4), Lib.hid (CBr.out.up hb4)⟩
                case measure => simp [intOf]; omega
              · have HE := Lib.hid (rDests_hit hrest.out HDD.out he)
                have hne : (rDest c i x k dd != 0) = true := by simpa using he
                clear he
                go_wp2_with (go_at_call 209; refine (dest18_ok c _ _ _ _ _ _ _ _ _ _ _ STr.out.R hs i x HX.out k dd HDD.out ks s HI.out HPS.out HT.out).mono ?_; rintro e w4 ⟨rfl, hb4⟩)
                go_ret
                exact ⟨ret_int HE.out.symm, (STr.out.up hb4).bel⟩
            · obtain rfl : k = x.dests.length := by omega
              go_wp2
              go_ret
              exact ⟨ret_int (rDests_end hrest.out).symm, STr.out.bel⟩
    · have HV := Lib.hid (rChan_25 (i := i) HF.out hso)
      go_wp2
      go_ret
      exact ⟨ret_int HV.out.symm, ST2.out.bel⟩
theorem rChans_hit {c : Cfg} {i : Nat} {x : Chn} {v : Int × Int} (h : v = rChans c i (c.chans.drop i)) (hx : c.chans[i]? = some x) (hp : rChan c i x ≠ 0) : v = (rChan c i x, (i : Int)) := by
  rw [h, drop_cons hx, rChans, if_neg hp]
theorem rChans_miss {c : Cfg} {i : Nat} {x : Chn} {v : Int × Int} (h : v = rChans c i (c.chans.drop i)) (hx : c.chans[i]? = some x) (hp : rChan c i x = 0) : v = rChans c (i + 1) (c.chans.drop (i + 1)) := by
  rw [h, drop_cons hx, rChans, if_pos hp]
theorem rChans_end {c : Cfg} {v : Int × Int} (h : v = rChans c c.chans.length (c.chans.drop c.chans.length)) : v = (0, 0) := by
  rw [h, List.drop_length, rChans]
theorem channel18_val (c : Cfg) (A1 A2 A3 A4 A5 : Option Addr) (c1 c2 c3 c4 c5 : Nat) (w : World) (hR : CfgR w w.heap.size c A1 A2 A3 A4 A5 c1 c2 c3 c4 c5) (hs : c.small) (i : Nat) (x : Chn) (hx : c.chans[i]? = some x) (v : Int) (hv : Hid (rChan c i x = v)) :
    Calls Tryz.prog 131 #[cfgV c.frame A1 A2 A3 A4 A5 c.parts.length c.wins.length c.regs.length c.ports.length c.chans.length c1 c2 c3 c4 c5, .int .i64 i] w fun e w' => e = .returned (.int .i64 v) ∧ Below w.heap.size w w' := by
  have h := channel18_ok c A1 A2 A3 A4 A5 c1 c2 c3 c4 c5 w hR hs i x hx
  rwa [hv.out] at h
set_option maxRecDepth 100000 in
set_option maxHeartbeats 4000000 in
theorem rChannels18_ok (c : Cfg) (A1 A2 A3 A4 A5 : Option Addr) (c1 c2 c3 c4 c5 : Nat) (w : World) (hR : CfgR w w.heap.size c A1 A2 A3 A4 A5 c1 c2 c3 c4 c5) (hs : c.small) :
    Calls Tryz.prog 78 #[cfgV c.frame A1 A2 A3 A4 A5 c.parts.length c.wins.length c.regs.length c.ports.length c.chans.length c1 c2 c3 c4 c5] w fun e w' => e = .returned (.tuple #[.int .i64 (rChanBad c).1, .int .i64 (rChanBad c).2]) ∧ Below w.heap.size w w' := by
  have hbd := hs.bd
  have ST0 := Lib.hid (St.start hR 29)
  have bx := hbd.x
  clear hR hbd
  go_enter Tryz.func78, Tryz.ntmps78
  go_wp2
  go_loopw [4] (fun j wr => ∃ k : Nat, k ≤ c.chans.length ∧ j = .int .i64 k ∧ Hid (rChanBad c = rChans c k (c.chans.drop k)) ∧ Hid (St w (wr) c A1 A2 A3 A4 A5 c1 c2 c3 c4 c5)) (fun j _ => c.chans.length - (intOf j).toNat)
  case atStart => exact ⟨0, Nat.zero_le _, rfl, Lib.hid rfl, ST0⟩
  case round =>
    obtain ⟨k, hk, rfl, hrest, ST⟩ := hrel
    obtain ⟨x0, x1, x2, x3, x4, x5, hz⟩ := ST.out.cells
    by_cases hlt : k < c.chans.length
    · obtain ⟨x, hx⟩ := get_lt hlt
      have HX := Lib.hid hx
      clear hx
      by_cases he : rChan c k x = 0
      · have HE := Lib.hid he
        clear he
        go_wp2_with (go_at_call 131; refine (channel18_val c _ _ _ _ _ _ _ _ _ _ _ ST.out.R hs k x HX.out 0 HE).mono ?_; rintro e w4 ⟨rfl, hb4⟩)
        go_roundw
        case rel => exact ⟨k + 1, by omega, by go_num, Lib.hid (rChans_miss hrest.out HX.out HE.out), Lib.hid (ST.out.up hb4)⟩
        case measure => simp [intOf]; omega
      · have HE := Lib.hid (rChans_hit hrest.out HX.out he)
        have hne : (rChan c k x != 0) = true := by simpa using he
        clear he
        go_wp2_with (go_at_call 131; refine (channel18_ok c _ _ _ _ _ _ _ _ _ _ _ ST.out.R hs k x HX.out).mono ?_; rintro e w4 ⟨rfl, hb4⟩)
        go_ret2
        refine ⟨?_, (ST.out.up hb4).bel⟩
        rw [HE.out]
        rfl
    · obtain rfl : k = c.chans.length := by omega
      go_wp2
      go_ret2
      refine ⟨?_, ST.out.bel⟩
      rw [rChans_end hrest.out]
      rfl
def rightB (c : Cfg) : Bool := uniqueB c && decide ((portBad c).1 = 0) && decide ((rChanBad c).1 = 0)
end Go.Proofs.YtpedlbjbbcbbkaaGreat
namespace Go.Proofs.YtpedlbjbbcbbkaaGreat
open Go.RowKit
theorem firstFrom_nonneg {α : Type} [DecidableEq α] : ∀ (l : List α) (es : List (α × Int)) (i : Nat) (f : Int), 0 ≤ f → firstFrom es i f l = f
  | [], _, _, _, _ => rfl
  | x :: r, es, i, f, h => by
    unfold firstFrom
    split
    · exact firstFrom_nonneg r _ _ _ h
    · rw [if_neg (by omega)]; exact firstFrom_nonneg r _ _ _ h
theorem firstFrom_rep {α : Type} [DecidableEq α] : ∀ (l seen : List α) (es : List (α × Int)) (i : Nat), (∀ x, getv es x = none ↔ x ∉ seen) → firstFrom es i (-1) l = repFrom seen i l
  | [], _, _, _, _ => rfl
  | x :: r, seen, es, i, h => by
    unfold firstFrom repFrom
    by_cases hm : x ∈ seen
    · have hg : ¬ getv es x = none := fun e => (h x).1 e hm
      rw [if_neg (by simpa using hg), if_pos hm, if_pos (by decide)]
      exact firstFrom_nonneg r _ _ _ (by omega)
    · have hg := (h x).2 hm
      rw [if_pos (by simp [hg]), if_neg hm]
      refine firstFrom_rep r _ _ _ fun y => ?_
      rw [getv_append]
      by_cases hxy : x = y
      · subst hxy; simp
      · have := h y
        simp only [hxy, if_false, Option.or_none, List.mem_append, List.mem_singleton, not_or]
        rw [this]
        constructor
        · intro h1; exact ⟨h1, fun e => hxy e.symm⟩
        · exact fun h1 => h1.1
theorem first_rep {α : Type} [DecidableEq α] (l : List α) : firstFrom ([] : List (α × Int)) 0 (-1) l = rep l := firstFrom_rep l [] [] 0 (fun x => by simp [getv])
/-- a list of two numbers, just laid -/
theorem two_new (w : World) (a b : Int) (t : TypeId) : Rd (w.alloc (.cells #[.int .i64 a, .int .i64 b] t)) (w.alloc (.cells #[.int .i64 a, .int .i64 b] t)).heap.size 1 (some ⟨w.heap.size, 0, none⟩) 2 ([a, b].map (Value.int .i64)) := by
  refine ⟨rfl, fun _ => ⟨_, _, rfl, by simp, fun j u hu => ?_⟩⟩
  have := World.news_of_block (heap_alloc_new w (.cells #[.int .i64 a, .int .i64 b] t)) j u (by simpa using hu)
  rwa [addr_add] at this
theorem one_new (w : World) (a : Int) (t : TypeId) : Rd (w.alloc (.cells #[.int .i64 a] t)) (w.alloc (.cells #[.int .i64 a] t)).heap.size 1 (some ⟨w.heap.size, 0, none⟩) 1 ([a].map (Value.int .i64)) := by
  refine ⟨rfl, fun _ => ⟨_, _, rfl, by simp, fun j u hu => ?_⟩⟩
  have := World.news_of_block (heap_alloc_new w (.cells #[.int .i64 a] t)) j u (by simpa using hu)
  rwa [addr_add] at this
theorem MapIs.drew {α β : Type} {w : World} {P : Program} {K : TypeId} {key : α → Value} {val : β → Value} {b : Nat} {es : List (α × β)} (h : MapIs w P K key val b es) : MapIs w.drew P K key val b es := h
/-- where a check of a configuration stands when its argument is boxed and its result is laid -/
structure FltSt (w W : World) (c : Cfg) (A1 A2 A3 A4 A5 : Option Addr) (c1 c2 c3 c4 c5 : Nat) : Prop where
  hz : w.heap.size + 1 < W.heap.size
  bel : Below w.heap.size w W
  x0 : W.cell? ⟨w.heap.size, 0, none⟩ = some (.int .u64 c.frame)
  x1 : W.cell? ⟨w.heap.size, 1, none⟩ = some (.slice A1 c.parts.length c1)
  x2 : W.cell? ⟨w.heap.size, 2, none⟩ = some (.slice A2 c.wins.length c2)
  x3 : W.cell? ⟨w.heap.size, 3, none⟩ = some (.slice A3 c.regs.length c3)
  x4 : W.cell? ⟨w.heap.size, 4, none⟩ = some (.slice A4 c.ports.length c4)
  x5 : W.cell? ⟨w.heap.size, 5, none⟩ = some (.slice A5 c.chans.length c5)
  r0 : W.cell? ⟨w.heap.size + 1, 0, none⟩ = some (.int .i64 0)
  r1 : W.cell? ⟨w.heap.size + 1, 1, none⟩ = some (.int .i64 0)
  r2 : W.cell? ⟨w.heap.size + 1, 2, none⟩ = some (.int .i64 0)
  f0 : W.frozen? ⟨w.heap.size + 1, 0, none⟩ = false
  f1 : W.frozen? ⟨w.heap.size + 1, 1, none⟩ = false
  f2 : W.frozen? ⟨w.heap.size + 1, 2, none⟩ = false
section
variable {w W V : World} {c : Cfg} {A1 A2 A3 A4 A5 : Option Addr} {c1 c2 c3 c4 c5 : Nat}
theorem FltSt.later (h : FltSt w W c A1 A2 A3 A4 A5 c1 c2 c3 c4 c5) (hb : Below W.heap.size W V) : FltSt w V c A1 A2 A3 A4 A5 c1 c2 c3 c4 c5 := by
  have hz := h.hz
  have hs := hb.size
  have hc : ∀ b o, b < W.heap.size → V.cell? ⟨b, o, none⟩ = W.cell? ⟨b, o, none⟩ := fun b o hlt => hb.cell (p := ⟨b, o, none⟩) hlt
  have hf : ∀ b o, b < W.heap.size → V.frozen? ⟨b, o, none⟩ = W.frozen? ⟨b, o, none⟩ := fun b o hlt => hb.frozen (p := ⟨b, o, none⟩) hlt
  exact ⟨by omega, h.bel.trans (hb.mono h.bel.size), (hc _ _ (by omega)).trans h.x0, (hc _ _ (by omega)).trans h.x1, (hc _ _ (by omega)).trans h.x2, (hc _ _ (by omega)).trans h.x3, (hc _ _ (by omega)).trans h.x4, (hc _ _ (by omega)).trans h.x5,
    (hc _ _ (by omega)).trans h.r0, (hc _ _ (by omega)).trans h.r1, (hc _ _ (by omega)).trans h.r2, (hf _ _ (by omega)).trans h.f0, (hf _ _ (by omega)).trans h.f1, (hf _ _ (by omega)).trans h.f2⟩
end
theorem flt_start (w : World) (c : Cfg) (A1 A2 A3 A4 A5 : Option Addr) (c1 c2 c3 c4 c5 : Nat) (t1 t2 : TypeId) :
    FltSt w ((w.alloc (.cells #[.int .u64 c.frame, .slice A1 c.parts.length c1, .slice A2 c.wins.length c2, .slice A3 c.regs.length c3, .slice A4 c.ports.length c4, .slice A5 c.chans.length c5] t1)).alloc (.cells #[.int .i64 0, .int .i64 0, .int .i64 0] t2)) c A1 A2 A3 A4 A5 c1 c2 c3 c4 c5 := by
  refine ⟨by simp, ((Below.refl _ _).alloc (Nat.le_refl _) _).alloc (by simp) _, ?_, ?_, ?_, ?_, ?_, ?_, ?_, ?_, ?_, ?_, ?_, ?_⟩
  all_goals simp [go_sem]
set_option maxRecDepth 100000 in
set_option maxHeartbeats 1000000 in
theorem uChannels_ok (c : Cfg) (A1 A2 A3 A4 A5 : Option Addr) (c1 c2 c3 c4 c5 : Nat) (w : World) (hR : CfgR w w.heap.size c A1 A2 A3 A4 A5 c1 c2 c3 c4 c5) (hs : c.small) (hok : c.ok) :
    Calls Tryz.prog 114 #[cfgV c.frame A1 A2 A3 A4 A5 c.parts.length c.wins.length c.regs.length c.ports.length c.chans.length c1 c2 c3 c4 c5] w fun e w' =>
      e = .returned (fltV (firstOf 5 [rep (c.chans.map (·.id))])) ∧ Below w.heap.size w w' := by
  have ht : c.total ≤ 1048576 := hs.total
  have b5 : c.chans.length ≤ 1048576 := by unfold Cfg.total at ht; omega
  obtain ⟨cs, hC, hr⟩ := hR.chans
  have HOK := Lib.hid hok.chans
  rw [← first_rep]
  clear hR hs hok ht
  go_enter Tryz.func114, Tryz.ntmps114
  go_wp2
  have HST := Lib.hid (flt_start w c A1 A2 A3 A4 A5 c1 c2 c3 c4 c5 29 37)
  generalize hW : World.alloc (World.alloc _ _) (Obj.cells #[Value.int _ _, Value.int _ _, Value.int _ _] _) = W
  have st := HST.out
  rw [hW] at st
  clear hW HST
  have hmm := @run_makeMap Tryz.prog
  have x5 := st.x5
  have ST := Lib.hid st
  clear st
  go_simp
  go_wp2_with (go_at_call 186; refine (collectChnU_ok c.chans A5 c5 b5 HOK.out _ _ cs ((hC.keep fun _ _ hp => (ST.out.bel.alloc ST.out.bel.size _).cell hp).more (ST.out.bel.alloc ST.out.bel.size _).size) (hr.up (ST.out.bel.alloc ST.out.bel.size _)) (MapIs.made _ _ _ _ _)).mono ?_; rintro e w1 ⟨rfl, hm1, hg1⟩)
  have hbw := below_grown ((Below.refl W.heap.size W).alloc (Nat.le_refl _) _) hg1 (by simp) (Nat.le_refl _)
  refine (first_ok 5 [firstFrom ([] : List (Int × Int)) 0 (-1) (c.chans.map (·.id))] _ _ _ (by simp) (one_new _ _ _)).mono ?_
  rintro e w2 ⟨rfl, hb2⟩
  have st2 := ST.out.later ((hbw.alloc hbw.size _).trans (hb2.mono (Nat.le_trans hbw.size (by simp))))
  have r0 := st2.r0
  have r1 := st2.r1
  have r2 := st2.r2
  have f0 := st2.f0
  have f1 := st2.f1
  have f2 := st2.f2
  have hz2 := st2.hz
  have HBEL := Lib.hid st2.bel
  clear st2 hbw hb2 hm1 hg1
  go_wp2
  refine bodyPost_ret (v := fltV (firstOf 5 [firstFrom ([] : List (Int × Int)) 0 (-1) (c.chans.map (·.id))])) (by simp [results, Tryz.results114, go_sem, r0, r1, r2]) rfl ⟨rfl, ?_⟩
  exact ((HBEL.out.setCell (by simp) _).setCell (by simp) _).setCell (by simp) _
set_option maxRecDepth 100000 in
set_option maxHeartbeats 2000000 in
theorem uPartitions_ok (c : Cfg) (A1 A2 A3 A4 A5 : Option Addr) (c1 c2 c3 c4 c5 : Nat) (w : World) (hR : CfgR w w.heap.size c A1 A2 A3 A4 A5 c1 c2 c3 c4 c5) (hs : c.small) (hok : c.ok) :
    Calls Tryz.prog 112 #[cfgV c.frame A1 A2 A3 A4 A5 c.parts.length c.wins.length c.regs.length c.ports.length c.chans.length c1 c2 c3 c4 c5] w fun e w' =>
      e = .returned (fltV (firstOf 1 [rep (c.parts.map (·.id)), rep (c.parts.map (·.name))])) ∧ Below w.heap.size w w' := by
  have ht : c.total ≤ 1048576 := hs.total
  have bb : c.parts.length ≤ 1048576 := by unfold Cfg.total at ht; omega
  have HP := Lib.hid hR.parts
  have HOK := Lib.hid hok.parts
  rw [← first_rep, ← first_rep]
  clear hR hs hok ht
  go_enter Tryz.func112, Tryz.ntmps112
  go_wp2
  have HST := Lib.hid (flt_start w c A1 A2 A3 A4 A5 c1 c2 c3 c4 c5 29 37)
  generalize hW : World.alloc (World.alloc _ _) (Obj.cells #[Value.int _ _, Value.int _ _, Value.int _ _] _) = W
  have st := HST.out
  rw [hW] at st
  clear hW HST
  have hmm := @run_makeMap Tryz.prog
  have x := st.x1
  have hz := st.hz
  have ST := Lib.hid st
  have HB := Lib.hid st.bel
  clear st
  go_region_held3 (fun w' => w'.cell? ⟨w.heap.size, 1, none⟩ = some (.slice A1 c.parts.length c1)) (first | go_keep | exact x3 | exact x2 | exact x1) (first | (go_at_call 175; refine (collectParU_ok c.parts A1 c1 bb HOK.out _ _ (HP.out.up (by first | exact (HB.out.drew.alloc HB.out.size _) | exact ((HB.out.drew.alloc HB.out.size _).alloc (Nat.le_trans HB.out.size (by simp)) _))) (by first | exact MapIs.made _ _ _ _ _ | exact (MapIs.made _ _ _ _ _).alloc _ | simpa using MapIs.drew (MapIs.made (World.alloc W (Obj.map #[] 0)) Tryz.prog 50 kU vI))).mono ?_; rintro e V1 ⟨rfl, hm1, hg1⟩; have hb1 : Below W.heap.size W V1 := (by first | exact below_grown ((Below.refl W.heap.size W).drew.alloc (Nat.le_refl _) _) hg1 (by simp) (by simp) | exact below_grown (((Below.refl W.heap.size W).drew.alloc (Nat.le_refl _) _).alloc (by simp) _) hg1 (by simp; omega) (by simp)); have x1 := (ST.out.later hb1).x1) | (go_at_call 178; refine (collectParS_ok c.parts A1 c1 bb HOK.out _ _ (HP.out.up (by first | exact (HB.out.trans (hb1.mono HB.out.size)) | exact ((HB.out.trans (hb1.mono HB.out.size)).alloc (Nat.le_trans HB.out.size hb1.size) _))) (by first | exact MapIs.made _ _ _ _ _ | exact MapIs.grown (MapIs.drew (MapIs.alloc (MapIs.made _ _ _ _ _) _)) hg1 (by simp) | exact MapIs.grown (MapIs.made _ _ _ _ _) hg1 (by simp) | exact MapIs.grown (by simpa using MapIs.drew (MapIs.made (World.alloc W (Obj.map #[] 0)) Tryz.prog 9 kS vI)) hg1 (by simp))).mono ?_; rintro e V2 ⟨rfl, hm2, hg2⟩; have hb2 : Below W.heap.size W V2 := (by first | exact below_grown hb1 hg2 hb1.size (by first | exact hb1.size | simp) | exact below_grown (hb1.alloc hb1.size _) hg2 (Nat.le_trans hb1.size (by simp)) (by first | exact hb1.size | simp)); have x2 := (ST.out.later hb2).x1) | (go_at_call 174; refine (first_ok 1 [firstFrom ([] : List (Int × Int)) 0 (-1) (c.parts.map (·.id)), firstFrom ([] : List (ByteArray × Int)) 0 (-1) (c.parts.map (·.name))] _ _ _ (by simp) (two_new _ _ _ _)).mono ?_; rintro e V3 ⟨rfl, hb3⟩; have st3 := ST.out.later ((hb2.alloc hb2.size _).trans (hb3.mono (Nat.le_trans hb2.size (by simp)))); have x3 := st3.x1; have r0 := st3.r0; have r1 := st3.r1; have r2 := st3.r2; have f0 := st3.f0; have f1 := st3.f1; have f2 := st3.f2; have hz3 := st3.hz; have HB3 := Lib.hid st3.bel; clear st3))
  all_goals go_wp2
  all_goals
    refine bodyPost_ret (v := fltV (firstOf 1 [firstFrom ([] : List (Int × Int)) 0 (-1) (c.parts.map (·.id)), firstFrom ([] : List (ByteArray × Int)) 0 (-1) (c.parts.map (·.name))])) (by simp [results, Tryz.results112, go_sem, r0, r1, r2]) rfl ⟨rfl, ?_⟩
    exact ((HB3.out.setCell (by simp) _).setCell (by simp) _).setCell (by simp) _
set_option maxRecDepth 100000 in
set_option maxHeartbeats 2000000 in
theorem uPorts_ok (c : Cfg) (A1 A2 A3 A4 A5 : Option Addr) (c1 c2 c3 c4 c5 : Nat) (w : World) (hR : CfgR w w.heap.size c A1 A2 A3 A4 A5 c1 c2 c3 c4 c5) (hs : c.small) (hok : c.ok) :
    Calls Tryz.prog 113 #[cfgV c.frame A1 A2 A3 A4 A5 c.parts.length c.wins.length c.regs.length c.ports.length c.chans.length c1 c2 c3 c4 c5] w fun e w' =>
      e = .returned (fltV (firstOf 4 [rep (c.ports.map (·.id)), rep (c.ports.map Prt.key)])) ∧ Below w.heap.size w w' := by
  have ht : c.total ≤ 1048576 := hs.total
  have bb : c.ports.length ≤ 1048576 := by unfold Cfg.total at ht; omega
  have HP := Lib.hid hR.ports
  have HOK := Lib.hid hok.ports
  rw [← first_rep, ← first_rep]
  clear hR hs hok ht
  go_enter Tryz.func113, Tryz.ntmps113
  go_wp2
  have HST := Lib.hid (flt_start w c A1 A2 A3 A4 A5 c1 c2 c3 c4 c5 29 37)
  generalize hW : World.alloc (World.alloc _ _) (Obj.cells #[Value.int _ _, Value.int _ _, Value.int _ _] _) = W
  have st := HST.out
  rw [hW] at st
  clear hW HST
  have hmm := @run_makeMap Tryz.prog
  have x := st.x4
  have hz := st.hz
  have ST := Lib.hid st
  have HB := Lib.hid st.bel
  clear st
  go_region_held3 (fun w' => w'.cell? ⟨w.heap.size, 4, none⟩ = some (.slice A4 c.ports.length c4)) (first | go_keep | exact x3 | exact x2 | exact x1) (first | (go_at_call 181; refine (collectPrtU_ok c.ports A4 c4 bb HOK.out _ _ (HP.out.up (by first | exact (HB.out.drew.alloc HB.out.size _) | exact ((HB.out.drew.alloc HB.out.size _).alloc (Nat.le_trans HB.out.size (by simp)) _))) (by first | exact MapIs.made _ _ _ _ _ | exact (MapIs.made _ _ _ _ _).alloc _ | simpa using MapIs.drew (MapIs.made (World.alloc W (Obj.map #[] 0)) Tryz.prog 50 kU vI))).mono ?_; rintro e V1 ⟨rfl, hm1, hg1⟩; have hb1 : Below W.heap.size W V1 := (by first | exact below_grown ((Below.refl W.heap.size W).drew.alloc (Nat.le_refl _) _) hg1 (by simp) (by simp) | exact below_grown (((Below.refl W.heap.size W).drew.alloc (Nat.le_refl _) _).alloc (by simp) _) hg1 (by simp; omega) (by simp)); have x1 := (ST.out.later hb1).x4) | (go_at_call 183; refine (collectPrtN_ok c.ports A4 c4 bb HOK.out _ _ (HP.out.up (by first | exact (HB.out.trans (hb1.mono HB.out.size)) | exact ((HB.out.trans (hb1.mono HB.out.size)).alloc (Nat.le_trans HB.out.size hb1.size) _))) (by first | exact MapIs.made _ _ _ _ _ | exact MapIs.grown (MapIs.drew (MapIs.alloc (MapIs.made _ _ _ _ _) _)) hg1 (by simp) | exact MapIs.grown (MapIs.made _ _ _ _ _) hg1 (by simp) | exact MapIs.grown (by simpa using MapIs.drew (MapIs.made (World.alloc W (Obj.map #[] 0)) Tryz.prog 242 kN vI)) hg1 (by simp))).mono ?_; rintro e V2 ⟨rfl, hm2, hg2⟩; have hb2 : Below W.heap.size W V2 := (by first | exact below_grown hb1 hg2 hb1.size (by first | exact hb1.size | simp) | exact below_grown (hb1.alloc hb1.size _) hg2 (Nat.le_trans hb1.size (by simp)) (by first | exact hb1.size | simp)); have x2 := (ST.out.later hb2).x4) | (go_at_call 174; refine (first_ok 4 [firstFrom ([] : List (Int × Int)) 0 (-1) (c.ports.map (·.id)), firstFrom ([] : List ((Int × ByteArray) × Int)) 0 (-1) (c.ports.map Prt.key)] _ _ _ (by simp) (two_new _ _ _ _)).mono ?_; rintro e V3 ⟨rfl, hb3⟩; have st3 := ST.out.later ((hb2.alloc hb2.size _).trans (hb3.mono (Nat.le_trans hb2.size (by simp)))); have x3 := st3.x4; have r0 := st3.r0; have r1 := st3.r1; have r2 := st3.r2; have f0 := st3.f0; have f1 := st3.f1; have f2 := st3.f2; have hz3 := st3.hz; have HB3 := Lib.hid st3.bel; clear st3))
  all_goals go_wp2
  all_goals
    refine bodyPost_ret (v := fltV (firstOf 4 [firstFrom ([] : List (Int × Int)) 0 (-1) (c.ports.map (·.id)), firstFrom ([] : List ((Int × ByteArray) × Int)) 0 (-1) (c.ports.map Prt.key)])) (by simp [results, Tryz.results113, go_sem, r0, r1, r2]) rfl ⟨rfl, ?_⟩
    exact ((HB3.out.setCell (by simp) _).setCell (by simp) _).setCell (by simp) _
end Go.Proofs.YtpedlbjbbcbbkaaGreat
namespace Go.Proofs.YtpedlbjbbcbbkaaGreat
open Go.RowKit
attribute [local go_sem] ext_cell
theorem places_nodup {α : Type} [DecidableEq α] : ∀ (l : List α) (es : List (α × Int)) (i : Nat), (es.map (·.1)).Nodup → ((places es i l).map (·.1)).Nodup
  | [], _, _, h => h
  | x :: r, es, i, h => by
    unfold places
    by_cases hg : getv es x = none
    · rw [if_pos (by simp [hg])]; exact places_nodup r _ _ (nodup_put h hg)
    · rw [if_neg (by simpa using hg)]; exact places_nodup r _ _ h
theorem getv_places {α : Type} [DecidableEq α] (p : α → Bool) (x : α) (hp : ∀ y, p y = true ↔ y = x) : ∀ (l : List α) (es : List (α × Int)) (i : Nat), (getv (places es i l) x).getD (-1) = (getv es x).getD (idxFrom p i l)
  | [], es, i => by simp [places, idxFrom]
  | y :: r, es, i => by
    unfold places idxFrom
    rw [getv_places p x hp r _ (i + 1)]
    by_cases hy : y = x
    · have hpy := (hp y).2 hy
      rw [if_pos hpy]
      by_cases hg : getv es y = none
      · rw [if_pos (by simp [hg]), getv_append, ← hy, hg]; simp
      · rw [if_neg (by simpa using hg)]
        rw [hy] at hg
        cases h2 : getv es x with
        | none => exact absurd h2 hg
        | some v => simp
    · have hpy : ¬ p y = true := fun e => hy ((hp y).1 e)
      rw [if_neg hpy]
      split
      · rw [getv_append]; simp [hy]
      · rfl
theorem getv_idx {α β : Type} [DecidableEq β] (f : α → β) (q : α → Bool) (x : β) (hq : ∀ y, q y = true ↔ f y = x) (l : List α) : (getv (places [] 0 (l.map f)) x).getD (-1) = idx q l := by
  rw [getv_places (fun y => decide (y = x)) x (by simp)]
  simp only [getv, Option.getD_none]
  have : ∀ (l : List α) (i : Nat), idxFrom (fun y => decide (y = x)) i (l.map f) = idxFrom q i l := by
    intro l
    induction l with
    | nil => intro i; rfl
    | cons y r ih =>
      intro i
      rw [List.map_cons, idxFrom, idxFrom, ih]
      by_cases h : f y = x
      · rw [if_pos (by simpa using h), if_pos ((hq y).2 h)]
      · rw [if_neg (by simpa using h), if_neg fun e => h ((hq y).1 e)]
  exact this l 0

set_option maxRecDepth 100000 in
set_option maxHeartbeats 1000000 in
theorem iPartition_ok (c : Cfg) (g : Nat) (id : Int) (w : World) (h : IdxAt w w.heap.size g c) (hid : wU16 id) :
    Calls Tryz.prog 228 #[.pointer (some ⟨g, 0, none⟩), .int .u16 id] w fun e w' => e = .returned (.int .i64 (idx (fun x => x.id == id) c.parts)) ∧ Below w.heap.size w w' := by
  obtain ⟨hg, b1, b2, b3, b4, l1, l2, l3, l4, k1, k2, k3, k4, m1, m2, m3, m4⟩ := h
  have HF := Lib.hid (findU_ok b1 _ id w m1 (places_nodup _ _ _ (by simp)) hid)
  have HI := Lib.hid (getv_idx (·.id) (fun x => x.id == id) id (by simp) c.parts)
  clear m1 m2 m3 m4
  go_enter Tryz.func228, Tryz.ntmps228
  go_wp2_with (go_at_call 286; refine HF.out.mono ?_; rintro e w1 ⟨rfl, hb1⟩)
  go_ret
  exact ⟨ret_int HI.out, hb1⟩
theorem iPartition_nil (id : Int) (w : World) :
    Calls Tryz.prog 228 #[.pointer none, .int .u16 id] w fun e w' => e = .returned (.int .i64 (-1)) ∧ Below w.heap.size w w' := by
  go_enter Tryz.func228, Tryz.ntmps228
  go_wp2
  go_ret
  exact ⟨rfl, Below.refl _ _⟩

set_option maxRecDepth 100000 in
set_option maxHeartbeats 1000000 in
theorem iPort_ok (c : Cfg) (g : Nat) (id : Int) (w : World) (h : IdxAt w w.heap.size g c) (hid : wU16 id) :
    Calls Tryz.prog 298 #[.pointer (some ⟨g, 0, none⟩), .int .u16 id] w fun e w' => e = .returned (.int .i64 (idx (fun x => x.id == id) c.ports)) ∧ Below w.heap.size w w' := by
  obtain ⟨hg, b1, b2, b3, b4, l1, l2, l3, l4, k1, k2, k3, k4, m1, m2, m3, m4⟩ := h
  have HF := Lib.hid (findU_ok b2 _ id w m2 (places_nodup _ _ _ (by simp)) hid)
  have HI := Lib.hid (getv_idx (·.id) (fun x => x.id == id) id (by simp) c.ports)
  clear m1 m2 m3 m4
  go_enter Tryz.func298, Tryz.ntmps298
  go_wp2_with (go_at_call 286; refine HF.out.mono ?_; rintro e w1 ⟨rfl, hb1⟩)
  go_ret
  exact ⟨ret_int HI.out, hb1⟩
theorem iPort_nil (id : Int) (w : World) :
    Calls Tryz.prog 298 #[.pointer none, .int .u16 id] w fun e w' => e = .returned (.int .i64 (-1)) ∧ Below w.heap.size w w' := by
  go_enter Tryz.func298, Tryz.ntmps298
  go_wp2
  go_ret
  exact ⟨rfl, Below.refl _ _⟩

theorem MapIs.len {α β : Type} {w : World} {P : Program} {T K E : TypeId} {key : α → Value} {val : β → Value} {b : Nat} {es : List (α × β)} (h : MapIs w P K key val b es) (hT : P.underlying T = some (.map K E)) (ty : TypeId) : (Builtin.len_ #[T] ty #[.map (some b)]).run P w = .ok (goInt es.length) w := by
  obtain ⟨en, clock, hh, hes, _⟩ := h
  have e : en.size = es.length := by
    have := congrArg List.length hes
    simpa using this
  simp [Builtin.len_, run_underlying hT, MapKept.run_getObj_map hh, Result.andThen, e]
theorem named_key {id : Int} {s : ByteArray} (y : Prt) : (y.part == id && y.name == s) = true ↔ y.key = (id, s) := by
  unfold Prt.key
  simp only [Bool.and_eq_true, beq_iff_eq, Prod.mk.injEq]
  constructor
  · rintro ⟨h1, h2⟩; exact ⟨h1, beqb_true h2⟩
  · rintro ⟨h1, h2⟩; exact ⟨h1, by rw [h2, beq_toListBytes]; simp⟩
end Go.Proofs.YtpedlbjbbcbbkaaGreat
namespace Go.Proofs.YtpedlbjbbcbbkaaGreat
open Go.RowKit
open Go.Maps (Keyed)
attribute [local go_sem] ext_cell
@[reducible] def vB (b : Bool) : Value := .bool b
theorem zeroBool (w : World) : (zeroValue 4).run Tryz.prog w = .ok (.bool false) w := by kernel_rfl
def usedL (u : List Int) : List (Int × Bool) := u.map fun x => (x, true)
theorem usedL_keys (u : List Int) : (usedL u).map (·.1) = u := by simp [usedL, Function.comp_def]
theorem usedL_get {u : List Int} {x : Int} : getv (usedL u) x = if x ∈ u then some true else none := by
  induction u with
  | nil => simp [usedL, getv]
  | cons y r ih =>
    simp only [usedL, List.map_cons, getv] at ih ⊢
    by_cases h : y = x
    · simp [h]
    · rw [if_neg h, ih]; simp [Ne.symm h]
/-- a checker lies at block g, its set of used ports at block b -/
structure ChkAt (w : World) (B g b : Nat) (c : Cfg) (A4 : Option Addr) (c4 : Nat) : Prop where
  lt : g < B
  bl : b < B
  p4 : w.cell? ⟨g, 4, none⟩ = some (.slice A4 c.ports.length c4)
  ix : ∃ L M gi, w.cell? ⟨g, 6, none⟩ = some (.pointer (some ⟨gi, 0, none⟩)) ∧ IdxIn w L M gi c ∧ M ≤ B ∧ (b < L ∨ M ≤ b)
  mp : w.cell? ⟨g, 7, none⟩ = some (.map (some b))
  rd : Rd w B 6 A4 c.ports.length (c.ports.flatMap Prt.cells)
section
variable {w w' : World} {B B' g b : Nat} {c : Cfg} {A4 : Option Addr} {c4 : Nat}
theorem ChkAt.below (h : ChkAt w B g b c A4 c4) (hb : Below B w w') : ChkAt w' B g b c A4 c4 := by
  obtain ⟨l1, l2, h4, ⟨L, M, gi, h6, hi, hM, ho⟩, h7, hr⟩ := h
  exact ⟨l1, l2, (hb.cell (p := ⟨g, 4, none⟩) l1).trans h4, ⟨L, M, gi, (hb.cell (p := ⟨g, 6, none⟩) l1).trans h6, hi.below (hb.mono hM), hM, ho⟩, (hb.cell (p := ⟨g, 7, none⟩) l1).trans h7, hr.below hb⟩
theorem ChkAt.more (h : ChkAt w B g b c A4 c4) (hB : B ≤ B') : ChkAt w B' g b c A4 c4 := by
  obtain ⟨l1, l2, h4, ⟨L, M, gi, h6, hi, hM, ho⟩, h7, hr⟩ := h
  exact ⟨by omega, by omega, h4, ⟨L, M, gi, h6, hi, by omega, ho⟩, h7, hr.more hB⟩
theorem ChkAt.up (h : ChkAt w w.heap.size g b c A4 c4) (hb : Below w.heap.size w w') : ChkAt w' w'.heap.size g b c A4 c4 := (h.below hb).more hb.size
theorem ChkAt.idx (h : ChkAt w B g b c A4 c4) (hB : B ≤ w.heap.size) : ∃ gi, w.cell? ⟨g, 6, none⟩ = some (.pointer (some ⟨gi, 0, none⟩)) ∧ IdxAt w w.heap.size gi c := by
  obtain ⟨_, _, _, ⟨L, M, gi, h6, hi, hM, ho⟩, _, _⟩ := h
  exact ⟨gi, h6, hi.at_.more (by omega)⟩
/-- the set alone has turned -/
theorem ChkAt.grown (h : ChkAt w w.heap.size g b c A4 c4) (hg : w.grownBy w' (some b)) (hne : ∀ x o v, w.cell? ⟨x, o, none⟩ = some v → x ≠ b) : ChkAt w' w'.heap.size g b c A4 c4 := by
  obtain ⟨l1, l2, h4, ⟨L, M, gi, h6, hi, hM, ho⟩, h7, hr⟩ := h
  have hs := hg.size
  exact ⟨by omega, by omega, (grown_cell hg l1 (hne _ _ _ h4)).trans h4, ⟨L, M, gi, (grown_cell hg l1 (hne _ _ _ h6)).trans h6, hi.grown hg hM ho, by omega, ho⟩, (grown_cell hg l1 (hne _ _ _ h7)).trans h7, (hr.grown hg (Nat.le_refl _) hne).more hs⟩
end
theorem grown_of_below {w w' : World} (h : Below w.heap.size w w') (row : Option Nat) : w.grownBy w' row := ⟨h.os, h.tape, h.output, h.size, fun i hi _ => h.block i hi⟩
theorem iPort_val (c : Cfg) (g : Nat) (id : Int) (w : World) (h : IdxAt w w.heap.size g c) (hid : wU16 id) (v : Int) (hv : Hid (idx (fun x => x.id == id) c.ports = v)) :
    Calls Tryz.prog 298 #[.pointer (some ⟨g, 0, none⟩), .int .u16 id] w fun e w' => e = .returned (.int .i64 v) ∧ Below w.heap.size w w' := by
  have h := iPort_ok c g id w h hid
  rwa [hv.out] at h
theorem iPartition_val (c : Cfg) (g : Nat) (id : Int) (w : World) (h : IdxAt w w.heap.size g c) (hid : wU16 id) (v : Int) (hv : Hid (idx (fun x => x.id == id) c.parts = v)) :
    Calls Tryz.prog 228 #[.pointer (some ⟨g, 0, none⟩), .int .u16 id] w fun e w' => e = .returned (.int .i64 v) ∧ Below w.heap.size w w' := by
  have h := iPartition_ok c g id w h hid
  rwa [hv.out] at h
set_option maxRecDepth 100000 in
set_option maxHeartbeats 4000000 in
theorem of_ok (c : Cfg) (A1 A2 A3 A4 A5 : Option Addr) (c1 c2 c3 c4 c5 : Nat) (w : World) (hR : CfgR w w.heap.size c A1 A2 A3 A4 A5 c1 c2 c3 c4 c5) (hs : c.small) (hok : c.ok) :
    Calls Tryz.prog 199 #[cfgV c.frame A1 A2 A3 A4 A5 c.parts.length c.wins.length c.regs.length c.ports.length c.chans.length c1 c2 c3 c4 c5] w fun e w' => ∃ g b, e = .returned (.pointer (some ⟨g, 0, none⟩)) ∧ ChkAt w' w'.heap.size g b c A4 c4 ∧ MapIs w' Tryz.prog 50 kU vB b (usedL []) ∧ Below w.heap.size w w' ∧ w.heap.size ≤ b := by
  have hmm := @run_makeMap Tryz.prog
  obtain ⟨W0, hW, st⟩ := St.start_any hR 29
  have HW := Lib.hid hW
  obtain ⟨x0, x1, x2, x3, x4, x5, hz⟩ := st.cells
  have ST0 := Lib.hid st
  clear hR hW st
  go_enter Tryz.func199, Tryz.ntmps199
  go_upto_region 1 with (fail)
  rw [HW.out]
  have KEEP : ∀ V, Below W0.heap.size W0 V → (fun w' => w'.cell? ⟨w.heap.size, 0, none⟩ = some (.int .u64 c.frame) ∧ w'.cell? ⟨w.heap.size, 1, none⟩ = some (.slice A1 c.parts.length c1) ∧ w'.cell? ⟨w.heap.size, 2, none⟩ = some (.slice A2 c.wins.length c2) ∧
      w'.cell? ⟨w.heap.size, 3, none⟩ = some (.slice A3 c.regs.length c3) ∧ w'.cell? ⟨w.heap.size, 4, none⟩ = some (.slice A4 c.ports.length c4) ∧ w'.cell? ⟨w.heap.size, 5, none⟩ = some (.slice A5 c.chans.length c5)) V := fun V hV => by
    have q : ∀ b o, b < W0.heap.size → V.cell? ⟨b, o, none⟩ = W0.cell? ⟨b, o, none⟩ := fun b o h => hV.cell (p := ⟨b, o, none⟩) h
    exact ⟨(q _ _ hz).trans x0, (q _ _ hz).trans x1, (q _ _ hz).trans x2, (q _ _ hz).trans x3, (q _ _ hz).trans x4, (q _ _ hz).trans x5⟩
  have HKP := Lib.hid KEEP
  clear KEEP
  go_region_held3 (fun w' => w'.cell? ⟨w.heap.size, 0, none⟩ = some (.int .u64 c.frame) ∧ w'.cell? ⟨w.heap.size, 1, none⟩ = some (.slice A1 c.parts.length c1) ∧ w'.cell? ⟨w.heap.size, 2, none⟩ = some (.slice A2 c.wins.length c2) ∧
      w'.cell? ⟨w.heap.size, 3, none⟩ = some (.slice A3 c.regs.length c3) ∧ w'.cell? ⟨w.heap.size, 4, none⟩ = some (.slice A4 c.ports.length c4) ∧ w'.cell? ⟨w.heap.size, 5, none⟩ = some (.slice A5 c.chans.length c5))
    (first | (refine HKP.out _ ?_; (repeat (first | with_reducible exact HBW.out | with_reducible exact Below.refl _ _ | with_reducible refine Below.drew ?_ | (with_reducible refine Below.alloc ?_ (by first | (simp; done) | (have hq := HBW.out.size; simp at hq ⊢; omega)) _) | (with_reducible refine Below.setCell ?_ (by first | (simp; done) | (have hq := HBW.out.size; simp at hq ⊢; omega)) _))); done) | go_keep)
    (first | (go_at_call 188; refine (new_in c _ _ _ _ _ _ _ _ _ _ _ (ST0.out.up (by repeat (first | with_reducible exact Below.refl _ _ | with_reducible refine Below.drew ?_ | (with_reducible refine Below.alloc ?_ (by simp) _) | (with_reducible refine Below.setCell ?_ (by simp) _)))).R hs hok).mono ?_; rintro e w2 ⟨gi, rfl, hI, hb2⟩; have HBW := Lib.hid (Below.then_ (show Below W0.heap.size W0 _ from (by repeat (first | with_reducible exact Below.refl _ _ | with_reducible refine Below.drew ?_ | (with_reducible refine Below.alloc ?_ (by simp) _) | (with_reducible refine Below.setCell ?_ (by simp) _)))) hb2); have HB2 := Lib.hid hb2; have HI := Lib.hid hI))
  · go_wp2
    go_ret
    refine ⟨_, _, rfl, ⟨(by first | (simp; done) | (simp; omega) | omega), (by first | (simp; done) | (simp; omega) | omega), (by first | (simp; done) | (simp; omega) | omega), ⟨_, _, gi, (by first | (simp; done) | (simp; omega) | omega), (HI.out.below (((Below.refl _ _).alloc (Nat.le_refl _) _).alloc (by first | (simp; done) | (simp; omega) | omega) _)), (by first | (simp; done) | (simp; omega) | omega), .inr (by first | (simp; done) | (simp; omega) | omega)⟩, (by first | (simp; done) | (simp; omega) | omega), (((ST0.out.up HBW.out).R.ports.alloc (Nat.le_refl _) _).alloc (by first | (simp; done) | (simp; omega) | omega) _).more (by first | (simp; done) | (simp; omega) | omega)⟩, (MapIs.made _ _ _ _ _).alloc _, ?_, (ST0.out.up HBW.out).bel.size⟩
    exact ((ST0.out.up HBW.out).bel.alloc (ST0.out.up HBW.out).bel.size _).alloc (Nat.le_trans (ST0.out.up HBW.out).bel.size (by first | (simp; done) | (simp; omega) | omega)) _
  · go_wp2
    go_ret
    have hm := MapIs.made W0 Tryz.prog 50 kU vB
    have hs := HB2.out.size
    simp at hs
    refine ⟨_, _, rfl, ⟨(by first | (simp; done) | (simp; omega) | omega), (by first | (simp; done) | (simp; omega) | omega), (by first | (simp; done) | (simp; omega) | omega), ⟨_, _, gi, (by first | (simp; done) | (simp; omega) | omega), (HI.out.below ((Below.refl _ _).alloc (Nat.le_refl _) _)), (by first | (simp; done) | (simp; omega) | omega), .inl (by first | (simp; done) | (simp; omega) | omega)⟩, (by first | (simp; done) | (simp; omega) | omega), ((ST0.out.up HBW.out).R.ports.alloc (Nat.le_refl _) _).more (by first | (simp; done) | (simp; omega) | omega)⟩, (MapIs.below (show MapIs (W0.alloc (.map #[] 0)).drew Tryz.prog 50 kU vB W0.heap.size ([] : List (Int × Bool)) from hm) HB2.out (by first | (simp; done) | (simp; omega) | omega)).alloc _, ?_, ST0.out.bel.size⟩
    exact (ST0.out.up HBW.out).bel.alloc (ST0.out.up HBW.out).bel.size _
set_option maxRecDepth 100000 in
set_option maxHeartbeats 2000000 in
theorem chkPort_ok (c : Cfg) (g b : Nat) (A4 : Option Addr) (c4 : Nat) (w : World) (h : ChkAt w w.heap.size g b c A4 c4) (p : Prt) (hp : p.ok) :
    Calls Tryz.prog 200 #[.pointer (some ⟨g, 0, none⟩), .agg #[.int .u16 p.id, .int .u16 p.part, .string p.name, .bool p.output, .bool p.queuing, .int .u32 p.size]] w fun e w' => e = .returned (.int .i64 (portCode c p)) ∧ Below w.heap.size w w' := by
  obtain ⟨W1, hW, pb, hb1⟩ := PtBox.new w p 59
  have h1 := h.up hb1
  obtain ⟨gi, k6, hI⟩ := h1.idx (Nat.le_refl _)
  have HI := Lib.hid hI
  have HW := Lib.hid hW
  have HB := Lib.hid hb1
  have hg := h1.lt
  obtain ⟨z0, z1, z2, z3, z4, z5, hz⟩ := pb
  have hpp := hp.part
  clear hW hb1 h1 hI h hp
  by_cases hi : idx (fun y => y.id == p.part) c.parts < 0
  · have HC := Lib.hid (portCode_19 hi)
    go_enter Tryz.func200, Tryz.ntmps200
    go_upto_region 1 with (fail)
    rw [HW.out]
    refine wp_region_ext (by kernel_rfl) (by kernel_rfl) ?_
    repeat (go_big_quiet_step ((go_at_call 228; exact Calls.quiet_ext (iPartition_ok c gi p.part _ (HI.out.up (ext_below _ _)) hpp))))
    refine wpQuiet_nil ?_
    intro xq
    go_wp2
    go_ret
    exact ⟨ret_int HC.out.symm, Below.then_ HB.out (ext_below _ _)⟩
  · have hid : decide (idx (fun y => y.id == p.part) c.parts < 0) = false := decide_eq_false hi
    rcases beq_cases p.size 0 with h2 | h2
    · have HC := Lib.hid (portCode_28 hi (by simpa using h2))
      go_enter Tryz.func200, Tryz.ntmps200
      go_upto_region 1 with (fail)
      rw [HW.out]
      refine wp_region_ext (by kernel_rfl) (by kernel_rfl) ?_
      repeat (go_big_quiet_step ((go_at_call 228; exact Calls.quiet_ext (iPartition_ok c gi p.part _ (HI.out.up (ext_below _ _)) hpp))))
      refine wpQuiet_nil ?_
      intro xq
      go_wp2
      go_ret
      exact ⟨ret_int HC.out.symm, Below.then_ HB.out (ext_below _ _)⟩
    · have HC := Lib.hid (portCode_0 hi (by simpa using h2))
      go_enter Tryz.func200, Tryz.ntmps200
      go_upto_region 1 with (fail)
      rw [HW.out]
      refine wp_region_ext (by kernel_rfl) (by kernel_rfl) ?_
      repeat (go_big_quiet_step ((go_at_call 228; exact Calls.quiet_ext (iPartition_ok c gi p.part _ (HI.out.up (ext_below _ _)) hpp))))
      refine wpQuiet_nil ?_
      intro xq
      go_wp2
      go_ret
      exact ⟨ret_int HC.out.symm, Below.then_ HB.out (ext_below _ _)⟩
end Go.Proofs.YtpedlbjbbcbbkaaGreat
