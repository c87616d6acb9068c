/-
  What the reference of layer 5 computes (Counts, Few), walked once.
-/
import Derived.Test.YtldchpmilknlmaaGreatProg
import Derived.Test.YtldchpmilknlmaaGreatCfg
namespace Go.Proofs.YtldchpmilknlmaaGreat
open Go.RowKit
set_option maxHeartbeats 400000 in
theorem counts_ok (c : Cfg) (A1 A2 A3 A4 A5 : Option Addr) (c1 c2 c3 c4 c5 : Nat) (w : World) (hR : CfgR w w.heap.size c A1 A2 A3 A4 A5 c1 c2 c3 c4 c5) (hs : c.small) :
    Calls Tryz.prog 23 #[cfgV c.frame A1 A2 A3 A4 A5 c.parts.length c.wins.length c.regs.length c.ports.length c.chans.length c1 c2 c3 c4 c5] w fun e w' =>
      e = .returned (.agg #[.int .i64 0, .int .i64 c.parts.length, .int .i64 c.wins.length, .int .i64 c.regs.length, .int .i64 c.ports.length, .int .i64 c.chans.length, .int .i64 (sumDests c.chans)]) ∧ Below w.heap.size w w' := by
  obtain ⟨cs, hC, hr⟩ := hR.chans
  have ht : c.total ≤ 1048576 := hs.total
  have h5 : c.chans.length ≤ 1048576 := by unfold Cfg.total at ht; omega
  have hsum : ∀ k, sumDests (c.chans.take k) ≤ 1048576 := fun k => by have := sumDests_take c.chans k; unfold Cfg.total at ht; omega
  obtain ⟨fr, ps, ws, rs, ts, xs⟩ := c
  simp only [] at *
  clear hs ht hR
  go_enter Tryz.func23, Tryz.ntmps23
  go_wp2
  go_loop [3, 4] (fun t i => ∃ k : Nat, k ≤ xs.length ∧ i = .int .i64 k ∧ t = .int .i64 (sumDests (xs.take k))) (fun _ i => xs.length - (intOf i).toNat)
  case atStart => exact ⟨0, Nat.zero_le _, rfl, rfl⟩
  case round =>
    obtain ⟨k, hk, rfl, rfl⟩ := hrel
    have h1 := hsum k
    by_cases hlt : k < xs.length
    · obtain ⟨x, hx⟩ := get_lt hlt
      have h2 := hsum (k + 1)
      have HN := Lib.hid (sumDests_next hx)
      rw [sumDests_next hx] at h2
      obtain ⟨b, o, rfl, hb, _, _, D, d, g2, _, _, _⟩ := chn_at hC hr hx
      clear hsum hx hC hr
      go_wp2
      go_round
      case rel => exact ⟨k + 1, by omega, by go_num, by rw [HN.out]; go_num⟩
      case measure => simp [intOf]; omega
    · obtain rfl : k = xs.length := by omega
      clear hsum hC hr
      go_wp2
      refine bodyPost_ret (v := .agg #[.int .i64 0, .int .i64 ps.length, .int .i64 ws.length, .int .i64 rs.length, .int .i64 ts.length, .int .i64 xs.length, .int .i64 (sumDests (xs.take xs.length))]) (by simp [results, Tryz.results23, go_sem]) rfl ⟨by rw [List.take_length], ?_⟩
      exact ((Below.refl _ _).alloc (Nat.le_refl _) _).alloc (by simp) _
/-- few records with short names -/
def few (c : Cfg) : Bool := c.parts.all (fun p => decide (p.name.size ≤ 100)) && c.ports.all (fun p => decide (p.name.size ≤ 100)) && decide (c.total ≤ 120)
theorem few_parts {c : Cfg} {k : Nat} {x : Par} (hx : c.parts[k]? = some x) (h : ¬ x.name.size ≤ 100) : few c = false := by
  have : c.parts.all (fun p => decide (p.name.size ≤ 100)) = false := by
    rw [List.all_eq_false]
    exact ⟨x, List.mem_of_getElem? hx, by simpa using h⟩
  simp [few, this]
theorem few_ports {c : Cfg} {k : Nat} {x : Prt} (hx : c.ports[k]? = some x) (h : ¬ x.name.size ≤ 100) : few c = false := by
  have : c.ports.all (fun p => decide (p.name.size ≤ 100)) = false := by
    rw [List.all_eq_false]
    exact ⟨x, List.mem_of_getElem? hx, by simpa using h⟩
  simp [few, this]
theorem few_total {c : Cfg} (h1 : ∀ i x, i < c.parts.length → c.parts[i]? = some x → x.name.size ≤ 100) (h2 : ∀ i x, i < c.ports.length → c.ports[i]? = some x → x.name.size ≤ 100) : few c = decide (c.total ≤ 120) := by
  have e1 : c.parts.all (fun p => decide (p.name.size ≤ 100)) = true := by
    rw [List.all_eq_true]
    intro x hx
    obtain ⟨i, hi, e⟩ := List.getElem_of_mem hx
    simpa using h1 i x hi (by rw [List.getElem?_eq_getElem hi, e])
  have e2 : c.ports.all (fun p => decide (p.name.size ≤ 100)) = true := by
    rw [List.all_eq_true]
    intro x hx
    obtain ⟨i, hi, e⟩ := List.getElem_of_mem hx
    simpa using h2 i x hi (by rw [List.getElem?_eq_getElem hi, e])
  simp [few, e1, e2]
set_option maxHeartbeats 1000000 in
theorem few_ok (c : Cfg) (A1 A2 A3 A4 A5 : Option Addr) (c1 c2 c3 c4 c5 : Nat) (w : World) (hR : CfgR w w.heap.size c A1 A2 A3 A4 A5 c1 c2 c3 c4 c5) (hs : c.small) :
    Calls Tryz.prog 9 #[cfgV c.frame A1 A2 A3 A4 A5 c.parts.length c.wins.length c.regs.length c.ports.length c.chans.length c1 c2 c3 c4 c5] w fun e w' =>
      e = .returned (.bool (few c)) ∧ Below w.heap.size w w' := by
  have hP := hR.parts
  have hT := hR.ports
  have ht : c.total ≤ 1048576 := hs.total
  have HC := Lib.hid (counts_ok c A1 A2 A3 A4 A5 c1 c2 c3 c4 c5 (w.alloc (.cells #[.int .u64 c.frame, .slice A1 c.parts.length c1, .slice A2 c.wins.length c2, .slice A3 c.regs.length c3, .slice A4 c.ports.length c4, .slice A5 c.chans.length c5] 29)) ((hR.alloc (Nat.le_refl _) _).more (by simp)) hs)
  have hn : ∀ p ∈ c.parts, p.name.size ≤ 1048576 := hs.pnames
  have hm : ∀ p ∈ c.ports, p.name.size ≤ 1048576 := hs.tnames
  have b1 : c.parts.length ≤ 1048576 := by unfold Cfg.total at ht; omega
  have b2 : c.wins.length ≤ 1048576 := by unfold Cfg.total at ht; omega
  have b3 : c.regs.length ≤ 1048576 := by unfold Cfg.total at ht; omega
  have b4 : c.ports.length ≤ 1048576 := by unfold Cfg.total at ht; omega
  have b5 : c.chans.length ≤ 1048576 := by unfold Cfg.total at ht; omega
  have b6 : sumDests c.chans ≤ 1048576 := by unfold Cfg.total at ht; omega
  have HT := Lib.hid (show c.total = c.parts.length + c.wins.length + c.regs.length + c.ports.length + c.chans.length + sumDests c.chans from rfl)
  clear hR hs ht
  go_enter Tryz.func9, Tryz.ntmps9
  go_wp2_with (go_at_call 23; refine HC.out.mono ?_; rintro e w1 ⟨rfl, hb1⟩)
  obtain ⟨hc1, _⟩ := bcell hb1
  have hz := hb1.size
  simp only [World.size_alloc] at hz
  have hz1 : w.heap.size < w1.heap.size := by omega
  go_loop [4] (fun i => ∃ k : Nat, k ≤ c.parts.length ∧ i = .int .i64 k ∧ Hid (∀ i x, i < k → c.parts[i]? = some x → x.name.size ≤ 100)) (fun i => c.parts.length - (intOf i).toNat)
  case atStart => exact ⟨0, Nat.zero_le _, rfl, Lib.hid fun i x h => absurd h (by omega)⟩
  case round =>
    obtain ⟨k, hk, rfl, hall⟩ := hrel
    by_cases hlt : k < c.parts.length
    · obtain ⟨x, hx⟩ := get_lt hlt
      obtain ⟨b, o, rfl, hb, _, g1, _, _⟩ := par_at hP hx
      have hl := hn x (List.mem_of_getElem? hx)
      have HX := Lib.hid hx
      have hb' : b < w1.heap.size := by omega
      clear hx hn hm
      go_wp2
      · have h1 : (100 : Int) < x.name.size := by assumption
        go_ret
        exact ⟨ret_bool (few_parts HX.out (by omega)).symm, (((Below.refl _ _).alloc (Nat.le_refl _) _).trans (hb1.mono (by simp))).alloc (by omega) _⟩
      · have h1 : (x.name.size : Int) ≤ 100 := by assumption
        go_round
        case rel =>
          refine ⟨k + 1, by omega, by go_num, Lib.hid fun i y hi hy => ?_⟩
          rcases Nat.lt_or_ge i k with h | h
          · exact hall.out i y h hy
          · obtain rfl : i = k := by omega
            rw [HX.out] at hy
            cases hy
            omega
        case measure => simp [intOf]; omega
    · obtain rfl : k = c.parts.length := by omega
      clear hP hn
      go_wp2
      go_loop [5] (fun i => ∃ k : Nat, k ≤ c.ports.length ∧ i = .int .i64 k ∧ Hid (∀ i x, i < k → c.ports[i]? = some x → x.name.size ≤ 100)) (fun i => c.ports.length - (intOf i).toNat)
      case atStart => exact ⟨0, Nat.zero_le _, rfl, Lib.hid fun i x h => absurd h (by omega)⟩
      case round =>
        obtain ⟨k, hk, rfl, hall2⟩ := hrel
        by_cases hlt : k < c.ports.length
        · obtain ⟨x, hx⟩ := get_lt hlt
          obtain ⟨b, o, rfl, hb, _, _, g1, _⟩ := prt_at hT hx
          have hl := hm x (List.mem_of_getElem? hx)
          have HX := Lib.hid hx
          have hb' : b < w1.heap.size := by omega
          clear hx hm
          go_wp2
          · have h1 : (100 : Int) < x.name.size := by assumption
            go_ret
            exact ⟨ret_bool (few_ports HX.out (by omega)).symm, (((Below.refl _ _).alloc (Nat.le_refl _) _).trans (hb1.mono (by simp))).alloc (by omega) _⟩
          · have h1 : (x.name.size : Int) ≤ 100 := by assumption
            go_round
            case rel =>
              refine ⟨k + 1, by omega, by go_num, Lib.hid fun i y hi hy => ?_⟩
              rcases Nat.lt_or_ge i k with h | h
              · exact hall2.out i y h hy
              · obtain rfl : i = k := by omega
                rw [HX.out] at hy
                cases hy
                omega
            case measure => simp [intOf]; omega
        · obtain rfl : k = c.ports.length := by omega
          clear hT hm
          go_wp2
          go_ret
          refine ⟨ret_bool ?_, (((Below.refl _ _).alloc (Nat.le_refl _) _).trans (hb1.mono (by simp))).alloc (by omega) _⟩
          rw [few_total hall.out hall2.out, HT.out]
          exact decide_eq_decide.2 (by omega)
end Go.Proofs.YtldchpmilknlmaaGreat
