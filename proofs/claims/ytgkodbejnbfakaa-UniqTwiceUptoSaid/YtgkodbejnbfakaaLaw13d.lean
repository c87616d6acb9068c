/-
  The walk of the law UniqTwice: it returns true, and nothing that was there turns.
-/
import Derived.Test.YtgkodbejnbfakaaLaw13c
import Derived.Test.YtgkodbejnbfakaaPlain
namespace Go.Proofs.Ytgkodbejnbfakaa
open Go.RowKit
attribute [local go_sem] ext_cell
theorem cat_two (c : Cfg) : catAll c.frame [c, c] = c.cat c := by simp [catAll, Cfg.cat]
theorem Cfg.cat_small {c : Cfg} (h : few c = true) : (c.cat c).small := by
  obtain ⟨h1, h2, h3⟩ := few_bound h
  refine ⟨?_, fun p hp => ?_, fun p hp => ?_⟩
  · rw [cat_total]; unfold BIG; omega
  · have := h2 p (by simpa [Cfg.cat] using hp); unfold BIG; omega
  · have := h3 p (by simpa [Cfg.cat] using hp); unfold BIG; omega
theorem Cfg.cat_ok {c : Cfg} (h : c.ok) : (c.cat c).ok := by
  obtain ⟨h0, h1, h2, h3, h4, h5⟩ := h
  exact ⟨h0, fun p hp => h1 p (by simpa [Cfg.cat] using hp), fun p hp => h2 p (by simpa [Cfg.cat] using hp), fun p hp => h3 p (by simpa [Cfg.cat] using hp), fun p hp => h4 p (by simpa [Cfg.cat] using hp), fun p hp => h5 p (by simpa [Cfg.cat] using hp)⟩
theorem or_twice {α β γ : Type} [DecidableEq β] [DecidableEq γ] (f : α → β) (g : α → γ) (l : List α) (h : (if 0 ≤ rep (l.map f) then rep (l.map f) else rep (l.map g)) < 0) :
    (if 0 ≤ rep ((l ++ l).map f) then rep ((l ++ l).map f) else rep ((l ++ l).map g)) = if 0 < l.length then (l.length : Int) else -1 := by
  obtain ⟨h1, h2⟩ := or_neg.1 h
  rw [List.map_append, List.map_append, rep_twice _ h1, rep_twice _ h2, List.length_map, List.length_map]
  by_cases h0 : 0 < l.length
  · rw [if_pos h0, if_pos (by omega)]
  · rw [if_neg h0, if_neg (by omega)]
theorem twice_flt (s : Int) (n : Nat) (i : Int) (h : i = if 0 < n then (n : Int) else -1) : (firstOf s [i] = ⟨0, 0, 0⟩ ∧ n = 0) ∨ (firstOf s [i] = ⟨18, s, n⟩ ∧ 0 < n) := by
  by_cases h0 : 0 < n
  · rw [if_pos h0] at h
    subst h
    exact Or.inr ⟨by unfold firstOf; rw [if_pos (by omega)], h0⟩
  · rw [if_neg h0] at h
    subst h
    exact Or.inl ⟨rfl, by omega⟩
theorem two_parts (c : Cfg) (h : refParts c < 0) : (ckParts (c.cat c) = ⟨0, 0, 0⟩ ∧ c.parts.length = 0) ∨ (ckParts (c.cat c) = ⟨18, 1, c.parts.length⟩ ∧ 0 < c.parts.length) := twice_flt 1 _ _ (or_twice _ _ _ h)
theorem two_ports (c : Cfg) (h : refPorts c < 0) : (ckPorts (c.cat c) = ⟨0, 0, 0⟩ ∧ c.ports.length = 0) ∨ (ckPorts (c.cat c) = ⟨18, 4, c.ports.length⟩ ∧ 0 < c.ports.length) := twice_flt 4 _ _ (or_twice _ _ _ h)
theorem two_chans (c : Cfg) (h : rep (c.chans.map (·.id)) < 0) : (ckChans (c.cat c) = ⟨0, 0, 0⟩ ∧ c.chans.length = 0) ∨ (ckChans (c.cat c) = ⟨18, 5, c.chans.length⟩ ∧ 0 < c.chans.length) := by
  refine twice_flt 5 _ _ ?_
  show rep ((c.chans ++ c.chans).map (·.id)) = _
  rw [List.map_append, rep_twice _ h, List.length_map]
theorem cfg_new2 (w : World) (c : Cfg) (A1 A2 A3 A4 A5 : Option Addr) (c1 c2 c3 c4 c5 : Nat) (B : Nat) (t : TypeId) (hR : CfgR w B c A1 A2 A3 A4 A5 c1 c2 c3 c4 c5) (hB : B ≤ w.heap.size) :
    RowsOf (CfgC (w.alloc (.cells #[.int .u64 c.frame, .slice A1 c.parts.length c1, .slice A2 c.wins.length c2, .slice A3 c.regs.length c3, .slice A4 c.ports.length c4, .slice A5 c.chans.length c5, .int .u64 c.frame, .slice A1 c.parts.length c1, .slice A2 c.wins.length c2, .slice A3 c.regs.length c3, .slice A4 c.ports.length c4, .slice A5 c.chans.length c5] t)) (w.heap.size + 1)) [c, c] ([.int .u64 c.frame, .slice A1 c.parts.length c1, .slice A2 c.wins.length c2, .slice A3 c.regs.length c3, .slice A4 c.ports.length c4, .slice A5 c.chans.length c5] ++ [.int .u64 c.frame, .slice A1 c.parts.length c1, .slice A2 c.wins.length c2, .slice A3 c.regs.length c3, .slice A4 c.ports.length c4, .slice A5 c.chans.length c5]) ∧
    Rd (w.alloc (.cells #[.int .u64 c.frame, .slice A1 c.parts.length c1, .slice A2 c.wins.length c2, .slice A3 c.regs.length c3, .slice A4 c.ports.length c4, .slice A5 c.chans.length c5, .int .u64 c.frame, .slice A1 c.parts.length c1, .slice A2 c.wins.length c2, .slice A3 c.regs.length c3, .slice A4 c.ports.length c4, .slice A5 c.chans.length c5] t)) (w.heap.size + 1) 6 (some ⟨w.heap.size, 0, none⟩) 2 ([.int .u64 c.frame, .slice A1 c.parts.length c1, .slice A2 c.wins.length c2, .slice A3 c.regs.length c3, .slice A4 c.ports.length c4, .slice A5 c.chans.length c5] ++ [.int .u64 c.frame, .slice A1 c.parts.length c1, .slice A2 c.wins.length c2, .slice A3 c.regs.length c3, .slice A4 c.ports.length c4, .slice A5 c.chans.length c5]) :=
  ⟨⟨_, _, rfl, ⟨A1, A2, A3, A4, A5, c1, c2, c3, c4, c5, rfl, (hR.alloc hB _).more (by omega)⟩, rows_one ⟨A1, A2, A3, A4, A5, c1, c2, c3, c4, c5, rfl, (hR.alloc hB _).more (by omega)⟩⟩, rfl, fun _ => ⟨_, _, rfl, Nat.lt_succ_self _, fun j u hu => ((Blk.new w t _).cell _).trans (by simpa using hu)⟩⟩
theorem fault_pos (s : Int) (n : Nat) (w : World) (h : 0 < n) : Calls Try.prog 20 #[.int .i64 s, .int .i64 n] w fun e w' => e = .returned (fltV ⟨18, s, n⟩) ∧ Below w.heap.size w w' := by
  have := fault_ok s n w
  rwa [show firstOf s [(n : Int)] = ⟨18, s, n⟩ by unfold firstOf; rw [if_pos (by omega)]] at this
theorem cat_lens (c : Cfg) : (c.cat c).frame = c.frame := rfl
set_option maxRecDepth 100000 in
set_option maxHeartbeats 4000000 in
theorem uniqTwice_yes (c : Cfg) (A1 A2 A3 A4 A5 : Option Addr) (c1 c2 c3 c4 c5 : Nat) (w : World) (hR : CfgR w w.heap.size c A1 A2 A3 A4 A5 c1 c2 c3 c4 c5) (hs : c.small) (hok : c.ok) (hf : few c = true)
    (g1 : decide (0 ≤ refParts c) = false) (g2 : decide (0 ≤ refPorts c) = false) (g3 : decide (0 ≤ rep (c.chans.map (·.id))) = false) :
    Calls Try.prog 5 #[cfgV c.frame A1 A2 A3 A4 A5 c.parts.length c.wins.length c.regs.length c.ports.length c.chans.length c1 c2 c3 c4 c5] w fun e w' => e = .returned (.bool true) ∧ Below w.heap.size w w' := by
  have HR := Lib.hid hR
  have hct := (few_bound hf).1
  have HCS := Lib.hid (Cfg.cat_small hf)
  have HCO := Lib.hid (Cfg.cat_ok hok)
  have HF1 := Lib.hid (two_parts c (by simpa using g1))
  have HF2 := Lib.hid (two_ports c (by simpa using g2))
  have HF3 := Lib.hid (two_chans c (by simpa using g3))
  have HB := Lib.hid ((Below.refl w.heap.size w).alloc (Nat.le_refl _) (.cells #[.int .u64 c.frame, .slice A1 c.parts.length c1, .slice A2 c.wins.length c2, .slice A3 c.regs.length c3, .slice A4 c.ports.length c4, .slice A5 c.chans.length c5] 29))
  have HBX := Lib.hid (Below.refl (w.alloc (.cells #[.int .u64 c.frame, .slice A1 c.parts.length c1, .slice A2 c.wins.length c2, .slice A3 c.regs.length c3, .slice A4 c.ports.length c4, .slice A5 c.chans.length c5] 29)).heap.size (w.alloc (.cells #[.int .u64 c.frame, .slice A1 c.parts.length c1, .slice A2 c.wins.length c2, .slice A3 c.regs.length c3, .slice A4 c.ports.length c4, .slice A5 c.chans.length c5] 29)))
  have hst : sumTot [c, c] ≤ 4194304 := by simp [sumTot]; omega
  clear hR hok
  go_enter Try.func5, Try.ntmps5
  go_upto_region 1 with (fail)
  obtain ⟨x0, x1, x2, x3, x4, x5, hz⟩ := boxCell w c A1 A2 A3 A4 A5 c1 c2 c3 c4 c5 _ (HBX.out.mono (by simp))
  generalize hW : World.alloc w _ = W1 at x0 x1 x2 x3 x4 x5 hz ⊢
  have hbw := HB.out
  have hbx := HBX.out
  rw [hW] at hbw hbx
  have hsz1 : W1.heap.size = w.heap.size + 1 := by rw [← hW]; simp
  have HW := Lib.hid hbw
  clear hbw hbx
  refine wp_region_extn ?_
  try simp only [List.append]
  repeat (go_big_quiet_step ((first
      | (go_at_call 8; exact Calls.quiet_ext (few_ok c _ _ _ _ _ _ _ _ _ _ _ ((HR.out.up HW.out).up (ext_below _ _)) hs))
      | (go_at_call 21; exact Calls.quiet_ext (rPartitions_ok c _ _ _ _ _ _ _ _ _ _ _ ((HR.out.up HW.out).up (ext_below _ _)) hs))
      | (go_at_call 23; exact Calls.quiet_ext (rPorts_ok c _ _ _ _ _ _ _ _ _ _ _ ((HR.out.up HW.out).up (ext_below _ _)) hs))
      | (go_at_call 25; exact Calls.quiet_ext (rChannels_ok c _ _ _ _ _ _ _ _ _ _ _ ((HR.out.up HW.out).up (ext_below _ _)) hs)))))
  refine wpQuiet_nil ?_
  intro xq
  have hb2 := ext_below W1 xq
  generalize ext W1 xq = W2 at hb2 ⊢
  have HW2 := Lib.hid (HW.out.trans (hb2.mono HW.out.size))
  have y0 := (hb2.cell (p := ⟨w.heap.size, 0, none⟩) hz).trans x0
  have y1 := (hb2.cell (p := ⟨w.heap.size, 1, none⟩) hz).trans x1
  have y2 := (hb2.cell (p := ⟨w.heap.size, 2, none⟩) hz).trans x2
  have y3 := (hb2.cell (p := ⟨w.heap.size, 3, none⟩) hz).trans x3
  have y4 := (hb2.cell (p := ⟨w.heap.size, 4, none⟩) hz).trans x4
  have y5 := (hb2.cell (p := ⟨w.heap.size, 5, none⟩) hz).trans x5
  have hz2 : w.heap.size < W2.heap.size := Nat.lt_of_lt_of_le hz hb2.size
  clear x0 x1 x2 x3 x4 x5 hW hb2
  go_wp2_with fail
  obtain ⟨k1, k2⟩ := cfg_new2 W2 c A1 A2 A3 A4 A5 c1 c2 c3 c4 c5 W2.heap.size 29 (HR.out.up HW2.out) (Nat.le_refl _)
  refine (merge_ok c.frame [c, c] _ 2 _ _ (by simpa using k1) (by simpa using k2) (by simp) hst).mono ?_
  rintro e w3 ⟨B1, B2, B3, B4, B5, d1, d2, d3, d4, d5, rfl, hown, hb3⟩
  rw [cat_two] at hown ⊢
  have hb3' : Below W2.heap.size W2 w3 := ((Below.refl W2.heap.size W2).alloc (Nat.le_refl _) (.cells #[.int .u64 c.frame, .slice A1 c.parts.length c1, .slice A2 c.wins.length c2, .slice A3 c.regs.length c3, .slice A4 c.ports.length c4, .slice A5 c.chans.length c5, .int .u64 c.frame, .slice A1 c.parts.length c1, .slice A2 c.wins.length c2, .slice A3 c.regs.length c3, .slice A4 c.ports.length c4, .slice A5 c.chans.length c5] 29)).trans (hb3.mono (by simp))
  have x0 := (hb3'.cell (p := ⟨w.heap.size, 0, none⟩) hz2).trans y0
  have x1 := (hb3'.cell (p := ⟨w.heap.size, 1, none⟩) hz2).trans y1
  have x2 := (hb3'.cell (p := ⟨w.heap.size, 2, none⟩) hz2).trans y2
  have x3 := (hb3'.cell (p := ⟨w.heap.size, 3, none⟩) hz2).trans y3
  have x4 := (hb3'.cell (p := ⟨w.heap.size, 4, none⟩) hz2).trans y4
  have x5 := (hb3'.cell (p := ⟨w.heap.size, 5, none⟩) hz2).trans y5
  have hz3 : w.heap.size < w3.heap.size := Nat.lt_of_lt_of_le hz2 hb3'.size
  have HV := Lib.hid hown.toR
  have HW3 := Lib.hid (HW2.out.trans (hb3'.mono HW2.out.size))
  clear y0 y1 y2 y3 y4 y5 hb3 hb3' hown k1 k2 hst hz2 HW2 HW
  go_upto_region 4 with (fail)
  have hn := Blk.new w3 29 #[.int .u64 c.frame, .slice B1 (c.cat c).parts.length d1, .slice B2 (c.cat c).wins.length d2, .slice B3 (c.cat c).regs.length d3, .slice B4 (c.cat c).ports.length d4, .slice B5 (c.cat c).chans.length d5]
  have hbn := (Below.refl w3.heap.size w3).alloc (Nat.le_refl _) (.cells #[.int .u64 c.frame, .slice B1 (c.cat c).parts.length d1, .slice B2 (c.cat c).wins.length d2, .slice B3 (c.cat c).regs.length d3, .slice B4 (c.cat c).ports.length d4, .slice B5 (c.cat c).chans.length d5] 29)
  generalize World.alloc w3 _ = W4 at hn hbn ⊢
  have y0 := (hbn.cell (p := ⟨w.heap.size, 0, none⟩) hz3).trans x0
  have y1 := (hbn.cell (p := ⟨w.heap.size, 1, none⟩) hz3).trans x1
  have y2 := (hbn.cell (p := ⟨w.heap.size, 2, none⟩) hz3).trans x2
  have y3 := (hbn.cell (p := ⟨w.heap.size, 3, none⟩) hz3).trans x3
  have y4 := (hbn.cell (p := ⟨w.heap.size, 4, none⟩) hz3).trans x4
  have y5 := (hbn.cell (p := ⟨w.heap.size, 5, none⟩) hz3).trans x5
  have HN := Lib.hid hn
  have HV4 := Lib.hid (HV.out.up hbn)
  have HW4 := Lib.hid (HW3.out.trans (hbn.mono HW3.out.size))
  have hlt4 := hn.lt
  clear x0 x1 x2 x3 x4 x5 hn hbn HV HW3 hz3
  go_wp2_with fail
  refine (counts_ok c _ _ _ _ _ _ _ _ _ _ _ (HR.out.up HW4.out) hs).mono ?_
  rintro e w5 ⟨rfl, hb5⟩
  have hn := HN.out.below hb5 hlt4
  have HV5 := Lib.hid (HV4.out.up hb5)
  have HW5 := Lib.hid (HW4.out.trans (hb5.mono HW4.out.size))
  have hs5 : w3.heap.size < w5.heap.size := Nat.lt_of_lt_of_le hlt4 hb5.size
  clear y0 y1 y2 y3 y4 y5 hb5
  go_upto_region 5 with (fail)
  have hm := Blk.new w5 50 #[.int .i64 0, .int .i64 c.parts.length, .int .i64 c.wins.length, .int .i64 c.regs.length, .int .i64 c.ports.length, .int .i64 c.chans.length, .int .i64 (sumDests c.chans)]
  have hbn := (Below.refl w5.heap.size w5).alloc (Nat.le_refl _) (.cells #[.int .i64 0, .int .i64 c.parts.length, .int .i64 c.wins.length, .int .i64 c.regs.length, .int .i64 c.ports.length, .int .i64 c.chans.length, .int .i64 (sumDests c.chans)] 50)
  generalize World.alloc w5 _ = W6 at hm hbn ⊢
  have hn6 := hn.below hbn hs5
  have HN6 := Lib.hid hn6
  have HM6 := Lib.hid hm
  have HV6 := Lib.hid (HV5.out.up hbn)
  have HW6 := Lib.hid (HW5.out.trans (hbn.mono HW5.out.size))
  have hlm := hm.lt
  have hln := hn6.lt
  clear hm hn hbn hn6 HN HV4 HW4 HV5 HW5
  have hsix : ∀ V, Below W6.heap.size W6 V → V.cell? ⟨w3.heap.size, 0, none⟩ = some (.int .u64 c.frame) ∧ V.cell? ⟨w3.heap.size, 1, none⟩ = some (.slice B1 (c.cat c).parts.length d1) ∧ V.cell? ⟨w3.heap.size, 2, none⟩ = some (.slice B2 (c.cat c).wins.length d2) ∧ V.cell? ⟨w3.heap.size, 3, none⟩ = some (.slice B3 (c.cat c).regs.length d3) ∧ V.cell? ⟨w3.heap.size, 4, none⟩ = some (.slice B4 (c.cat c).ports.length d4) ∧ V.cell? ⟨w3.heap.size, 5, none⟩ = some (.slice B5 (c.cat c).chans.length d5) := fun V hV => by
    have h := HN6.out.below hV hln
    have e0 := h.cell 0
    have e1 := h.cell 1
    have e2 := h.cell 2
    have e3 := h.cell 3
    have e4 := h.cell 4
    have e5 := h.cell 5
    simp at e0 e1 e2 e3 e4 e5
    exact ⟨e0, e1, e2, e3, e4, e5⟩
  have HSIX := Lib.hid hsix
  have hcur := Below.refl W6.heap.size W6
  obtain ⟨z0, z1, z2, z3, z4, z5⟩ := hsix W6 hcur
  clear hsix
  have HCUR := Lib.hid hcur
  clear hcur
  go_region_held3 (fun V => V.cell? ⟨w3.heap.size, 0, none⟩ = some (.int .u64 c.frame) ∧ V.cell? ⟨w3.heap.size, 1, none⟩ = some (.slice B1 (c.cat c).parts.length d1) ∧ V.cell? ⟨w3.heap.size, 2, none⟩ = some (.slice B2 (c.cat c).wins.length d2) ∧ V.cell? ⟨w3.heap.size, 3, none⟩ = some (.slice B3 (c.cat c).regs.length d3) ∧ V.cell? ⟨w3.heap.size, 4, none⟩ = some (.slice B4 (c.cat c).ports.length d4) ∧ V.cell? ⟨w3.heap.size, 5, none⟩ = some (.slice B5 (c.cat c).chans.length d5)) (first | exact HSIX.out _ HCUR.out | exact HSIX.out _ HCUR.out.drew | go_keep) (first
    | (go_at_call 19; refine (uPartitions_ck (c.cat c) _ _ _ _ _ _ _ _ _ _ _ (HV6.out.up (by first | exact HCUR.out | exact HCUR.out.drew)) HCS.out HCO.out).mono ?_; rintro e V7 ⟨rfl, hb7⟩; have HCUR := Lib.hid (show Below W6.heap.size W6 V7 from by first | exact HCUR.out.drew.trans (hb7.mono HCUR.out.drew.size) | exact HCUR.out.trans (hb7.mono HCUR.out.size)))
    | (go_at_call 22; refine (uPorts_ck (c.cat c) _ _ _ _ _ _ _ _ _ _ _ (HV6.out.up (by first | exact HCUR.out | exact HCUR.out.drew)) HCS.out HCO.out).mono ?_; rintro e V8 ⟨rfl, hb8⟩; have HCUR := Lib.hid (show Below W6.heap.size W6 V8 from by first | exact HCUR.out.drew.trans (hb8.mono HCUR.out.drew.size) | exact HCUR.out.trans (hb8.mono HCUR.out.size)))
    | (go_at_call 24; refine (uChannels_ck (c.cat c) _ _ _ _ _ _ _ _ _ _ _ (HV6.out.up (by first | exact HCUR.out | exact HCUR.out.drew)) HCS.out HCO.out).mono ?_; rintro e V9 ⟨rfl, hb9⟩; have HCUR := Lib.hid (show Below W6.heap.size W6 V9 from by first | exact HCUR.out.drew.trans (hb9.mono HCUR.out.drew.size) | exact HCUR.out.trans (hb9.mono HCUR.out.size))))
  have hq0 := Blk.new V9 45 #[.int .i64 (ckParts (c.cat c)).code, .int .i64 (ckParts (c.cat c)).part, .int .i64 (ckParts (c.cat c)).at_, .int .i64 (ckPorts (c.cat c)).code, .int .i64 (ckPorts (c.cat c)).part, .int .i64 (ckPorts (c.cat c)).at_, .int .i64 (ckChans (c.cat c)).code, .int .i64 (ckChans (c.cat c)).part, .int .i64 (ckChans (c.cat c)).at_]
  have hb9' := (Below.refl V9.heap.size V9).alloc (Nat.le_refl _) (.cells #[.int .i64 (ckParts (c.cat c)).code, .int .i64 (ckParts (c.cat c)).part, .int .i64 (ckParts (c.cat c)).at_, .int .i64 (ckPorts (c.cat c)).code, .int .i64 (ckPorts (c.cat c)).part, .int .i64 (ckPorts (c.cat c)).at_, .int .i64 (ckChans (c.cat c)).code, .int .i64 (ckChans (c.cat c)).part, .int .i64 (ckChans (c.cat c)).at_] 45)
  have hm0 := (HM6.out.below HCUR.out hlm).below hb9' (Nat.lt_of_lt_of_le hlm HCUR.out.size)
  have HW9 := Lib.hid ((HW6.out.trans (HCUR.out.mono HW6.out.size)).trans (hb9'.mono (HW6.out.trans (HCUR.out.mono HW6.out.size)).size))
  generalize World.alloc V9 _ = W9 at hq0 hm0 hb9' HW9 ⊢
  generalize hF1 : ckParts (c.cat c) = F1 at HF1 hq0 ⊢
  generalize hF2 : ckPorts (c.cat c) = F2 at HF2 hq0 ⊢
  generalize hF3 : ckChans (c.cat c) = F3 at HF3 hq0 ⊢
  clear hb7 hb8 hb9 hb9' hF1 hF2 hF3 z0 z1 z2 z3 z4 z5
  have hlq := hq0.lt
  have hlm9 := hm0.lt
  go_wp2
  have hk0 := Blk.new W9 3 #[.int .i64 1, .int .i64 4, .int .i64 5]
  have hbk := (Below.refl W9.heap.size W9).alloc (Nat.le_refl _) (.cells #[.int .i64 1, .int .i64 4, .int .i64 5] 3)
  have hq := hq0.below hbk hlq
  have hm := hm0.below hbk hlm9
  have HW10 := Lib.hid (HW9.out.trans (hbk.mono HW9.out.size))
  generalize World.alloc W9 _ = W10 at hk0 hq hm HW10 ⊢
  have HQ := Lib.hid hq
  have HM := Lib.hid hm
  have HK := Lib.hid hk0
  clear hq0 hm0 hbk hq hm hk0 hlq hlm9
  go_loopw [45] (fun i wr => (i = .int .i64 0 ∨ i = .int .i64 1 ∨ i = .int .i64 2 ∨ i = .int .i64 3) ∧ Hid (Below W10.heap.size W10 wr)) (fun i _ => 3 - (intOf i).toNat)
  case atStart => exact ⟨Or.inl rfl, Lib.hid (Below.refl _ _)⟩
  case round =>
    obtain ⟨hk, hbr⟩ := hrel
    have hq := HQ.out.below hbr.out HQ.out.lt
    have hm := HM.out.below hbr.out HM.out.lt
    have hs := HK.out.below hbr.out HK.out.lt
    have HBR := Lib.hid (HW10.out.trans (hbr.out.mono HW10.out.size))
    rcases hk with rfl | rfl | rfl | rfl
    · have s0 := hs.cell 0
      simp at s0
      rcases HF1.out with ⟨e1, n0⟩ | ⟨e1, npos⟩
      · have nd1 : decide ((0 : Int) < (c.parts.length : Int)) = false := decide_eq_false (by omega)
        have nd2 : decide (0 < c.parts.length) = false := decide_eq_false (by omega)
        subst e1
        go_upto_region 10 with (fail)
        have hx := Blk.new wr 45 #[.int .i64 0, .int .i64 0, .int .i64 0]
        have hbn := (Below.refl wr.heap.size wr).alloc (Nat.le_refl _) (.cells #[.int .i64 0, .int .i64 0, .int .i64 0] 45)
        have hq := hq.below hbn hq.lt
        have hm := hm.below hbn hm.lt
        have HBN := Lib.hid (hbr.out.trans (hbn.mono hbr.out.size))
        generalize World.alloc wr _ = Wb at hx hq hm HBN ⊢
        have m := hm.cell 1
        have q0 := hq.cell 0
        have q1 := hq.cell 1
        have q2 := hq.cell 2
        have b0 := hx.cell 0
        have b1 := hx.cell 1
        have b2 := hx.cell 2
        simp at m q0 q1 q2 b0 b1 b2
        have hg1 := hx.lt
        have hg2 := hq.lt
        have hg3 := hm.lt
        clear hbn hbr hs s0 hx hq hm HBR
        go_upto_region 12 with (fail)
        refine wp_region_ext (by kernel_rfl) (by kernel_rfl) ?_
        try simp only [List.append]
        repeat (go_big_quiet_step (fail))
        refine wpQuiet_nil ?_
        intro xq
        go_wp2
        go_roundw
        case rel => exact ⟨Or.inr (Or.inl rfl), Lib.hid (HBN.out.trans ((ext_below _ _).mono HBN.out.size))⟩
        case measure => simp [intOf]
      · have np : (0 : Int) < (c.parts.length : Int) := by omega
        subst e1
        go_upto_region 10 with (fail)
        have hx := Blk.new wr 45 #[.int .i64 0, .int .i64 0, .int .i64 0]
        have hbn := (Below.refl wr.heap.size wr).alloc (Nat.le_refl _) (.cells #[.int .i64 0, .int .i64 0, .int .i64 0] 45)
        have hm := hm.below hbn hm.lt
        generalize World.alloc wr _ = Wb at hx hm hbn ⊢
        have m := hm.cell 1
        simp at m
        have hgb := hx.lt
        go_upto_region 12 with (go_at_call 20; refine (fault_pos 1 c.parts.length Wb npos).mono ?_; rintro e Wf ⟨rfl, hbf⟩; have hx1 := hx.below hbf hx.lt; have b0 := hx1.cell 0; have b1 := hx1.cell 1; have b2 := hx1.cell 2; have hfz := hx1.frozen; simp at b0 b1 b2)
        have hx2 := ((hx1.set_ 0 (.int .i64 18)).set_ 1 (.int .i64 1)).set_ 2 (.int .i64 c.parts.length)
        simp at hx2
        have hbs := (((hbn.trans (hbf.mono hbn.size)).setCell (p := ⟨wr.heap.size, 0, none⟩) (Nat.le_refl wr.heap.size) (.int .i64 18)).setCell (p := ⟨wr.heap.size, 1, none⟩) (Nat.le_refl wr.heap.size) (.int .i64 1)).setCell (p := ⟨wr.heap.size, 2, none⟩) (Nat.le_refl wr.heap.size) (.int .i64 c.parts.length)
        clear b0 b1 b2 hfz hx1 hbf m hm hx
        generalize World.setCell (World.setCell (World.setCell Wf _ _) _ _) _ _ = Wc at hx2 hbs ⊢
        have hx := hx2
        have hq := hq.below hbs hq.lt
        have q0 := hq.cell 0
        have q1 := hq.cell 1
        have q2 := hq.cell 2
        have b0 := hx.cell 0
        have b1 := hx.cell 1
        have b2 := hx.cell 2
        simp at q0 q1 q2 b0 b1 b2
        have HBN := Lib.hid (hbr.out.trans (hbs.mono hbr.out.size))
        have hg1 := hx.lt
        have hg2 := hq.lt
        clear hbn hbs hbr hs s0 hx hx2 hq HBR
        refine wp_region_ext (by kernel_rfl) (by kernel_rfl) ?_
        try simp only [List.append]
        repeat (go_big_quiet_step (fail))
        refine wpQuiet_nil ?_
        intro xq
        go_wp2
        go_roundw
        case rel => exact ⟨Or.inr (Or.inl rfl), Lib.hid (HBN.out.trans ((ext_below _ _).mono HBN.out.size))⟩
        case measure => simp [intOf]
    · have s0 := hs.cell 1
      simp at s0
      rcases HF2.out with ⟨e1, n0⟩ | ⟨e1, npos⟩
      · have nd1 : decide ((0 : Int) < (c.ports.length : Int)) = false := decide_eq_false (by omega)
        have nd2 : decide (0 < c.ports.length) = false := decide_eq_false (by omega)
        subst e1
        go_upto_region 10 with (fail)
        have hx := Blk.new wr 45 #[.int .i64 0, .int .i64 0, .int .i64 0]
        have hbn := (Below.refl wr.heap.size wr).alloc (Nat.le_refl _) (.cells #[.int .i64 0, .int .i64 0, .int .i64 0] 45)
        have hq := hq.below hbn hq.lt
        have hm := hm.below hbn hm.lt
        have HBN := Lib.hid (hbr.out.trans (hbn.mono hbr.out.size))
        generalize World.alloc wr _ = Wb at hx hq hm HBN ⊢
        have m := hm.cell 4
        have q0 := hq.cell 3
        have q1 := hq.cell 4
        have q2 := hq.cell 5
        have b0 := hx.cell 0
        have b1 := hx.cell 1
        have b2 := hx.cell 2
        simp at m q0 q1 q2 b0 b1 b2
        have hg1 := hx.lt
        have hg2 := hq.lt
        have hg3 := hm.lt
        clear hbn hbr hs s0 hx hq hm HBR
        go_upto_region 12 with (fail)
        refine wp_region_ext (by kernel_rfl) (by kernel_rfl) ?_
        try simp only [List.append]
        repeat (go_big_quiet_step (fail))
        refine wpQuiet_nil ?_
        intro xq
        go_wp2
        go_roundw
        case rel => exact ⟨Or.inr (Or.inr (Or.inl rfl)), Lib.hid (HBN.out.trans ((ext_below _ _).mono HBN.out.size))⟩
        case measure => simp [intOf]
      · have np : (0 : Int) < (c.ports.length : Int) := by omega
        subst e1
        go_upto_region 10 with (fail)
        have hx := Blk.new wr 45 #[.int .i64 0, .int .i64 0, .int .i64 0]
        have hbn := (Below.refl wr.heap.size wr).alloc (Nat.le_refl _) (.cells #[.int .i64 0, .int .i64 0, .int .i64 0] 45)
        have hm := hm.below hbn hm.lt
        generalize World.alloc wr _ = Wb at hx hm hbn ⊢
        have m := hm.cell 4
        simp at m
        have hgb := hx.lt
        go_upto_region 12 with (go_at_call 20; refine (fault_pos 4 c.ports.length Wb npos).mono ?_; rintro e Wf ⟨rfl, hbf⟩; have hx1 := hx.below hbf hx.lt; have b0 := hx1.cell 0; have b1 := hx1.cell 1; have b2 := hx1.cell 2; have hfz := hx1.frozen; simp at b0 b1 b2)
        have hx2 := ((hx1.set_ 0 (.int .i64 18)).set_ 1 (.int .i64 4)).set_ 2 (.int .i64 c.ports.length)
        simp at hx2
        have hbs := (((hbn.trans (hbf.mono hbn.size)).setCell (p := ⟨wr.heap.size, 0, none⟩) (Nat.le_refl wr.heap.size) (.int .i64 18)).setCell (p := ⟨wr.heap.size, 1, none⟩) (Nat.le_refl wr.heap.size) (.int .i64 4)).setCell (p := ⟨wr.heap.size, 2, none⟩) (Nat.le_refl wr.heap.size) (.int .i64 c.ports.length)
        clear b0 b1 b2 hfz hx1 hbf m hm hx
        generalize World.setCell (World.setCell (World.setCell Wf _ _) _ _) _ _ = Wc at hx2 hbs ⊢
        have hx := hx2
        have hq := hq.below hbs hq.lt
        have q0 := hq.cell 3
        have q1 := hq.cell 4
        have q2 := hq.cell 5
        have b0 := hx.cell 0
        have b1 := hx.cell 1
        have b2 := hx.cell 2
        simp at q0 q1 q2 b0 b1 b2
        have HBN := Lib.hid (hbr.out.trans (hbs.mono hbr.out.size))
        have hg1 := hx.lt
        have hg2 := hq.lt
        clear hbn hbs hbr hs s0 hx hx2 hq HBR
        refine wp_region_ext (by kernel_rfl) (by kernel_rfl) ?_
        try simp only [List.append]
        repeat (go_big_quiet_step (fail))
        refine wpQuiet_nil ?_
        intro xq
        go_wp2
        go_roundw
        case rel => exact ⟨Or.inr (Or.inr (Or.inl rfl)), Lib.hid (HBN.out.trans ((ext_below _ _).mono HBN.out.size))⟩
        case measure => simp [intOf]
    · have s0 := hs.cell 2
      simp at s0
      rcases HF3.out with ⟨e1, n0⟩ | ⟨e1, npos⟩
      · have nd1 : decide ((0 : Int) < (c.chans.length : Int)) = false := decide_eq_false (by omega)
        have nd2 : decide (0 < c.chans.length) = false := decide_eq_false (by omega)
        subst e1
        go_upto_region 10 with (fail)
        have hx := Blk.new wr 45 #[.int .i64 0, .int .i64 0, .int .i64 0]
        have hbn := (Below.refl wr.heap.size wr).alloc (Nat.le_refl _) (.cells #[.int .i64 0, .int .i64 0, .int .i64 0] 45)
        have hq := hq.below hbn hq.lt
        have hm := hm.below hbn hm.lt
        have HBN := Lib.hid (hbr.out.trans (hbn.mono hbr.out.size))
        generalize World.alloc wr _ = Wb at hx hq hm HBN ⊢
        have m := hm.cell 5
        have q0 := hq.cell 6
        have q1 := hq.cell 7
        have q2 := hq.cell 8
        have b0 := hx.cell 0
        have b1 := hx.cell 1
        have b2 := hx.cell 2
        simp at m q0 q1 q2 b0 b1 b2
        have hg1 := hx.lt
        have hg2 := hq.lt
        have hg3 := hm.lt
        clear hbn hbr hs s0 hx hq hm HBR
        go_upto_region 12 with (fail)
        refine wp_region_ext (by kernel_rfl) (by kernel_rfl) ?_
        try simp only [List.append]
        repeat (go_big_quiet_step (fail))
        refine wpQuiet_nil ?_
        intro xq
        go_wp2
        go_roundw
        case rel => exact ⟨Or.inr (Or.inr (Or.inr rfl)), Lib.hid (HBN.out.trans ((ext_below _ _).mono HBN.out.size))⟩
        case measure => simp [intOf]
      · have np : (0 : Int) < (c.chans.length : Int) := by omega
        subst e1
        go_upto_region 10 with (fail)
        have hx := Blk.new wr 45 #[.int .i64 0, .int .i64 0, .int .i64 0]
        have hbn := (Below.refl wr.heap.size wr).alloc (Nat.le_refl _) (.cells #[.int .i64 0, .int .i64 0, .int .i64 0] 45)
        have hm := hm.below hbn hm.lt
        generalize World.alloc wr _ = Wb at hx hm hbn ⊢
        have m := hm.cell 5
        simp at m
        have hgb := hx.lt
        go_upto_region 12 with (go_at_call 20; refine (fault_pos 5 c.chans.length Wb npos).mono ?_; rintro e Wf ⟨rfl, hbf⟩; have hx1 := hx.below hbf hx.lt; have b0 := hx1.cell 0; have b1 := hx1.cell 1; have b2 := hx1.cell 2; have hfz := hx1.frozen; simp at b0 b1 b2)
        have hx2 := ((hx1.set_ 0 (.int .i64 18)).set_ 1 (.int .i64 5)).set_ 2 (.int .i64 c.chans.length)
        simp at hx2
        have hbs := (((hbn.trans (hbf.mono hbn.size)).setCell (p := ⟨wr.heap.size, 0, none⟩) (Nat.le_refl wr.heap.size) (.int .i64 18)).setCell (p := ⟨wr.heap.size, 1, none⟩) (Nat.le_refl wr.heap.size) (.int .i64 5)).setCell (p := ⟨wr.heap.size, 2, none⟩) (Nat.le_refl wr.heap.size) (.int .i64 c.chans.length)
        clear b0 b1 b2 hfz hx1 hbf m hm hx
        generalize World.setCell (World.setCell (World.setCell Wf _ _) _ _) _ _ = Wc at hx2 hbs ⊢
        have hx := hx2
        have hq := hq.below hbs hq.lt
        have q0 := hq.cell 6
        have q1 := hq.cell 7
        have q2 := hq.cell 8
        have b0 := hx.cell 0
        have b1 := hx.cell 1
        have b2 := hx.cell 2
        simp at q0 q1 q2 b0 b1 b2
        have HBN := Lib.hid (hbr.out.trans (hbs.mono hbr.out.size))
        have hg1 := hx.lt
        have hg2 := hq.lt
        clear hbn hbs hbr hs s0 hx hx2 hq HBR
        refine wp_region_ext (by kernel_rfl) (by kernel_rfl) ?_
        try simp only [List.append]
        repeat (go_big_quiet_step (fail))
        refine wpQuiet_nil ?_
        intro xq
        go_wp2
        go_roundw
        case rel => exact ⟨Or.inr (Or.inr (Or.inr rfl)), Lib.hid (HBN.out.trans ((ext_below _ _).mono HBN.out.size))⟩
        case measure => simp [intOf]
    · go_wp2_with fail
      refine (alive_ok _).mono ?_
      rintro e wE ⟨rfl, hbE⟩
      have HZ := Lib.hid (HBR.out.trans (hbE.mono HBR.out.size))
      clear hbE
      go_wp2
      go_ret
      exact ⟨rfl, HZ.out⟩
set_option maxRecDepth 100000 in
set_option maxHeartbeats 4000000 in
theorem uniqTwice_skip (c : Cfg) (A1 A2 A3 A4 A5 : Option Addr) (c1 c2 c3 c4 c5 : Nat) (w : World) (hR : CfgR w w.heap.size c A1 A2 A3 A4 A5 c1 c2 c3 c4 c5) (hs : c.small)
    (hx : few c = false ∨ (few c = true ∧ decide (0 ≤ refParts c) = true) ∨ (few c = true ∧ decide (0 ≤ refParts c) = false ∧ decide (0 ≤ refPorts c) = true) ∨ (few c = true ∧ decide (0 ≤ refParts c) = false ∧ decide (0 ≤ refPorts c) = false ∧ decide (0 ≤ rep (c.chans.map (·.id))) = true)) :
    Calls Try.prog 5 #[cfgV c.frame A1 A2 A3 A4 A5 c.parts.length c.wins.length c.regs.length c.ports.length c.chans.length c1 c2 c3 c4 c5] w fun e w' => e = .returned (.bool true) ∧ Below w.heap.size w w' := by
  have HR := Lib.hid hR
  have HB := Lib.hid ((Below.refl w.heap.size w).alloc (Nat.le_refl _) (.cells #[.int .u64 c.frame, .slice A1 c.parts.length c1, .slice A2 c.wins.length c2, .slice A3 c.regs.length c3, .slice A4 c.ports.length c4, .slice A5 c.chans.length c5] 29))
  have HBX := Lib.hid (Below.refl (w.alloc (.cells #[.int .u64 c.frame, .slice A1 c.parts.length c1, .slice A2 c.wins.length c2, .slice A3 c.regs.length c3, .slice A4 c.ports.length c4, .slice A5 c.chans.length c5] 29)).heap.size (w.alloc (.cells #[.int .u64 c.frame, .slice A1 c.parts.length c1, .slice A2 c.wins.length c2, .slice A3 c.regs.length c3, .slice A4 c.ports.length c4, .slice A5 c.chans.length c5] 29)))
  clear hR
  rcases hx with g0 | ⟨g0, g1⟩ | ⟨g0, g1, g2⟩ | ⟨g0, g1, g2, g3⟩
  all_goals
    go_enter Try.func5, Try.ntmps5
    go_upto_region 1 with (fail)
    obtain ⟨x0, x1, x2, x3, x4, x5, hz⟩ := boxCell w c A1 A2 A3 A4 A5 c1 c2 c3 c4 c5 _ (HBX.out.mono (by simp))
    generalize hW : World.alloc w _ = W1 at x0 x1 x2 x3 x4 x5 hz ⊢
    have hbw := HB.out
    rw [hW] at hbw
    have HW := Lib.hid hbw
    clear hbw hW
    refine wp_region_extn ?_
    try simp only [List.append]
    repeat (go_big_quiet_step ((first
      | (go_at_call 8; exact Calls.quiet_ext (few_ok c _ _ _ _ _ _ _ _ _ _ _ ((HR.out.up HW.out).up (ext_below _ _)) hs))
      | (go_at_call 21; exact Calls.quiet_ext (rPartitions_ok c _ _ _ _ _ _ _ _ _ _ _ ((HR.out.up HW.out).up (ext_below _ _)) hs))
      | (go_at_call 23; exact Calls.quiet_ext (rPorts_ok c _ _ _ _ _ _ _ _ _ _ _ ((HR.out.up HW.out).up (ext_below _ _)) hs))
      | (go_at_call 25; exact Calls.quiet_ext (rChannels_ok c _ _ _ _ _ _ _ _ _ _ _ ((HR.out.up HW.out).up (ext_below _ _)) hs)))))
    refine wpQuiet_nil ?_
    intro xq
    have hb2 := ext_below W1 xq
    generalize ext W1 xq = W2 at hb2 ⊢
    go_wp2_with fail
    refine (alive_ok _).mono ?_
    rintro e wE ⟨rfl, hbE⟩
    have hz2 := hb2.size
    have HZ := Lib.hid ((HW.out.trans (hb2.mono HW.out.size)).trans (hbE.mono (HW.out.trans (hb2.mono HW.out.size)).size))
    clear hbE hb2
    go_wp2
    go_ret
    exact ⟨rfl, HZ.out⟩
theorem uniqTwice_ok (c : Cfg) (A1 A2 A3 A4 A5 : Option Addr) (c1 c2 c3 c4 c5 : Nat) (w : World) (hR : CfgR w w.heap.size c A1 A2 A3 A4 A5 c1 c2 c3 c4 c5) (hs : c.small) (hok : c.ok) :
    Calls Try.prog 5 #[cfgV c.frame A1 A2 A3 A4 A5 c.parts.length c.wins.length c.regs.length c.ports.length c.chans.length c1 c2 c3 c4 c5] w fun e w' => e = .returned (.bool true) ∧ Below w.heap.size w w' := by
  rcases few_cases c with g0 | g0
  · cases g1 : decide (0 ≤ refParts c) with
    | true => exact uniqTwice_skip c A1 A2 A3 A4 A5 c1 c2 c3 c4 c5 w hR hs (Or.inr (Or.inl ⟨g0, g1⟩))
    | false =>
      cases g2 : decide (0 ≤ refPorts c) with
      | true => exact uniqTwice_skip c A1 A2 A3 A4 A5 c1 c2 c3 c4 c5 w hR hs (Or.inr (Or.inr (Or.inl ⟨g0, g1, g2⟩)))
      | false =>
        cases g3 : decide (0 ≤ rep (c.chans.map (·.id))) with
        | true => exact uniqTwice_skip c A1 A2 A3 A4 A5 c1 c2 c3 c4 c5 w hR hs (Or.inr (Or.inr (Or.inr ⟨g0, g1, g2, g3⟩)))
        | false => exact uniqTwice_yes c A1 A2 A3 A4 A5 c1 c2 c3 c4 c5 w hR hs hok g0 g1 g2 g3
  · exact uniqTwice_skip c A1 A2 A3 A4 A5 c1 c2 c3 c4 c5 w hR hs (Or.inl g0)
end Go.Proofs.Ytgkodbejnbfakaa
