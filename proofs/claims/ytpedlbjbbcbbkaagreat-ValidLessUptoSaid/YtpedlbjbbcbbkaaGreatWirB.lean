/-
  What the method end of the checker of package wiring computes, walked once: at a source, at a destination.
-/
import Derived.Test.YtpedlbjbbcbbkaaGreatWirA
import Derived.Test.YtpedlbjbbcbbkaaGreatCore
namespace Go.Proofs.YtpedlbjbbcbbkaaGreat
open Go.RowKit
open Go.Maps (Keyed)
attribute [local go_sem] ext_cell
@[reducible] def prtV (p : Prt) : Value := .agg #[.int .u16 p.id, .int .u16 p.part, .string p.name, .bool p.output, .bool p.queuing, .int .u32 p.size]
set_option maxRecDepth 100000 in
set_option maxHeartbeats 1000000 in
theorem fitAny_ok (a0 a1 a2 a3 a4 a5 : Value) (w : World) : Calls Tryz.prog 240 #[.agg #[a0, a1, a2, a3, a4, a5]] w fun e w' => e = .returned (.bool true) ∧ Below w.heap.size w w' := by
  go_enter Tryz.func240, Tryz.ntmps240
  go_wp2
  go_ret
  exact ⟨rfl, below_one _ _⟩
set_option maxRecDepth 100000 in
set_option maxHeartbeats 1000000 in
theorem fitSame_ok (p s : Prt) (o : Bool) (g : Nat) (w : World) (hg : PtBox w g s) (v : Bool) (hv : Hid (sameKind s p = v)) : Calls Tryz.prog 241 #[.agg #[.int .u16 p.id, .int .u16 p.part, .string p.name, .bool o, .bool p.queuing, .int .u32 p.size], .pointer (some ⟨g, 0, none⟩)] w fun e w' => e = .returned (.bool v) ∧ Below w.heap.size w w' := by
  obtain ⟨z0, z1, z2, z3, z4, z5, hz⟩ := hg
  rw [← hv.out]
  by_cases hq : p.queuing = s.queuing
  · by_cases hz2 : p.size = s.size
    · have HV := Lib.hid (sameKind_y hq hz2)
      have HQ := Lib.hid hq
      have h2 : (p.size == s.size) = true := by simp [hz2]
      clear hq hz2 hv
      go_enter Tryz.func241, Tryz.ntmps241
      go_wp2
      all_goals first | (exfalso; exact ‹¬ p.queuing = s.queuing› HQ.out) | (go_ret; exact ⟨ret_bool (by rw [HV.out]), below_one _ _⟩)
    · have HV := Lib.hid (sameKind_s hz2)
      have HQ := Lib.hid hq
      have h2 : (p.size == s.size) = false := by simp [hz2]
      clear hq hz2 hv
      go_enter Tryz.func241, Tryz.ntmps241
      go_wp2
      all_goals first | (exfalso; exact ‹¬ p.queuing = s.queuing› HQ.out) | (go_ret; exact ⟨ret_bool (by rw [HV.out]), below_one _ _⟩)
  · have HV := Lib.hid (sameKind_q hq)
    have HQ := Lib.hid hq
    clear hq hv
    go_enter Tryz.func241, Tryz.ntmps241
    go_wp2
    all_goals first | (exfalso; exact HQ.out ‹p.queuing = s.queuing›) | (go_ret; exact ⟨ret_bool (by rw [HV.out]), below_one _ _⟩)
def endUsed (c : Cfg) (u : List Int) (id : Int) (out : Bool) (fit : Prt → Bool) : List Int := if endCode c u id out fit = 0 then u ++ [id] else u
theorem endUsed_ne {c : Cfg} {u : List Int} {id : Int} {out : Bool} {fit : Prt → Bool} (h : endCode c u id out fit ≠ 0) : endUsed c u id out fit = u := if_neg h
theorem endUsed_0 {c : Cfg} {u : List Int} {id : Int} {out : Bool} {fit : Prt → Bool} (h : endCode c u id out fit = 0) : endUsed c u id out fit = u ++ [id] := if_pos h
theorem MapIs.far {α β : Type} {w : World} {P : Program} {K : TypeId} {key : α → Value} {val : β → Value} {b : Nat} {es : List (α × β)} (h : MapIs w P K key val b es) {p : Addr} (hp : b ≠ p.block) (u : Value) : MapIs (w.setCell p u) P K key val b es :=
  h.block (Below.heap_setCell w p u b hp)
theorem MapIs.far6 {α β : Type} {w : World} {P : Program} {K : TypeId} {key : α → Value} {val : β → Value} {b g : Nat} {es : List (α × β)} (h : MapIs w P K key val b es) (hp : b ≠ g) {o0 o1 o2 o3 o4 o5 : Nat} {u0 u1 u2 u3 u4 u5 : Value} :
    MapIs ((((((w.setCell ⟨g, o0, none⟩ u0).setCell ⟨g, o1, none⟩ u1).setCell ⟨g, o2, none⟩ u2).setCell ⟨g, o3, none⟩ u3).setCell ⟨g, o4, none⟩ u4).setCell ⟨g, o5, none⟩ u5) P K key val b es :=
  (((((h.far hp u0).far hp u1).far hp u2).far hp u3).far hp u4).far hp u5
theorem grown_far {a w : World} {g b : Nat} (h : a.grownBy w (some b)) (hg : a.heap.size ≤ g) (o : Nat) (u : Value) : a.grownBy (w.setCell ⟨g, o, none⟩ u) (some b) :=
  ⟨h.os, h.tape, h.output, by simpa [World.setCell] using h.size, fun i hi hne => (Below.heap_setCell w ⟨g, o, none⟩ u i (by show i ≠ g; omega)).trans (h.block i hi hne)⟩
theorem grown_far6 {a w : World} {g b : Nat} (h : a.grownBy w (some b)) (hg : a.heap.size ≤ g) {o0 o1 o2 o3 o4 o5 : Nat} {u0 u1 u2 u3 u4 u5 : Value} :
    a.grownBy ((((((w.setCell ⟨g, o0, none⟩ u0).setCell ⟨g, o1, none⟩ u1).setCell ⟨g, o2, none⟩ u2).setCell ⟨g, o3, none⟩ u3).setCell ⟨g, o4, none⟩ u4).setCell ⟨g, o5, none⟩ u5) (some b) :=
  grown_far (grown_far (grown_far (grown_far (grown_far (grown_far h hg _ _) hg _ _) hg _ _) hg _ _) hg _ _) hg _ _

theorem endS_25 {c : Cfg} {u : List Int} {id : Int} {p : Prt}  (h : portOf c id = some p) (ho : p.output = false) : endCode c u id true anyPort = 25 := by simp [endCode, h, ho]
theorem endS_26 {c : Cfg} {u : List Int} {id : Int} {p : Prt}  (h : portOf c id = some p) (ho : p.output = true) (hf : anyPort p = false) : endCode c u id true anyPort = 26 := by simp [endCode, h, ho, hf]
theorem endS_27 {c : Cfg} {u : List Int} {id : Int} {p : Prt}  (h : portOf c id = some p) (ho : p.output = true) (hf : anyPort p = true) (hu : id ∈ u) : endCode c u id true anyPort = 27 := by simp [endCode, h, ho, hf, hu]
theorem endS_0 {c : Cfg} {u : List Int} {id : Int} {p : Prt}  (h : portOf c id = some p) (ho : p.output = true) (hf : anyPort p = true) (hu : id ∉ u) : endCode c u id true anyPort = 0 := by simp [endCode, h, ho, hf, hu]
set_option maxRecDepth 100000 in
set_option maxHeartbeats 4000000 in
theorem endS_ok (c : Cfg) (g b : Nat) (A4 : Option Addr) (c4 : Nat) (w : World) (h : ChkAt w w.heap.size g b c A4 c4) (hbd : c.Bd) (u : List Int) (hm : MapIs w Tryz.prog 50 kU vB b (usedL u)) (hn : u.Nodup) (id : Int) (hid : wU16 id)  :
    Calls Tryz.prog 239 #[.pointer (some ⟨g, 0, none⟩), .int .u16 id, .bool true, .func (.func 240) #[] #[]] w fun e w' => e = .returned (.tuple #[prtV (thePort c id), .int .i64 (endCode c u id true anyPort)]) ∧
      MapIs w' Tryz.prog 50 kU vB b (usedL (endUsed c u id true anyPort)) ∧ w.grownBy w' (some b) := by
  obtain ⟨W0, hW, hk0, hb0⟩ : ∃ W, w.alloc (.cells #[.int .u16 0, .int .u16 0, .string ⟨#[]⟩, .bool false, .bool false, .int .u32 0] 59) = W ∧ Blk W w.heap.size 59 #[.int .u16 0, .int .u16 0, .string ⟨#[]⟩, .bool false, .bool false, .int .u32 0] ∧ Below w.heap.size w W := ⟨_, rfl, Blk.new _ _ _, below_one _ _⟩
  have HW := Lib.hid hW
  have HB0 := Lib.hid hb0
  have HK0 := Lib.hid hk0
  have hc0 := h.up hb0
  have HC0 := Lib.hid hc0
  have HM := Lib.hid hm
  have HN := Lib.hid hn
  have bt := hbd.t
  have hbl := h.bl
  obtain ⟨gi, k6, hI⟩ := hc0.idx (Nat.le_refl _)
  have HI := Lib.hid hI
  have hgl := hc0.lt
  clear hW hb0 hk0 hc0 hm hn hbd h hI
  rcases idx_cases (fun y => y.id == id) c.ports with ⟨h1, h2⟩ | ⟨ks, p, h1, hkd, h3, h4, h5⟩
  · have HX := Lib.hid h1
    have HV := Lib.hid (show endCode c u id true anyPort = 19 by unfold endCode; rw [show portOf c id = none from h2])
    have HT := Lib.hid (show thePort c id = noPrt by unfold thePort; rw [show portOf c id = none from h2]; rfl)
    clear h1 h2
    go_enter Tryz.func239, Tryz.ntmps239
    go_upto_region 1 with (fail)
    rw [HW.out]
    go_wp2_with fail
    refine (iPort_val c gi id _ HI.out hid (-1) HX).mono ?_
    rintro e w2 ⟨rfl, hb2⟩
    have hk := HK0.out.below hb2 HK0.out.lt
    have q0 := hk.cell 0
    have q1 := hk.cell 1
    have q2 := hk.cell 2
    have q3 := hk.cell 3
    have q4 := hk.cell 4
    have q5 := hk.cell 5
    have qf := hk.frozen
    have HK := Lib.hid hk
    have HB2 := Lib.hid (Below.then_ HB0.out hb2)
    simp at q0 q1 q2 q3 q4 q5
    clear hk hb2
    go_wp2
    refine bodyPost_ret (v := .tuple #[prtV noPrt, .int .i64 19]) (by simp [results, Tryz.results239, go_sem, noPrt, q0, q1, q2, q3, q4, q5]) rfl ⟨by rw [HT.out, HV.out], ?_, ?_⟩
    · rw [endUsed_ne (by rw [HV.out]; decide)]
      exact HM.out.below (by (repeat (first | with_reducible exact HB2.out | with_reducible exact Below.refl _ _ | with_reducible refine Below.drew ?_ | (with_reducible refine Below.setCell ?_ (by simp) _) | (with_reducible refine Below.alloc ?_ (by have hq := HB2.out.size; simp; omega) _)))) hbl
    · exact grown_of_below (by (repeat (first | with_reducible exact HB2.out | with_reducible exact Below.refl _ _ | with_reducible refine Below.drew ?_ | (with_reducible refine Below.setCell ?_ (by simp) _) | (with_reducible refine Below.alloc ?_ (by have hq := HB2.out.size; simp; omega) _)))) _
  · have HX := Lib.hid h1
    have HPS := Lib.hid h3
    have HF := Lib.hid (show portOf c id = some p from h4)
    have HT := Lib.hid (show thePort c id = p by simp [thePort, show portOf c id = some p from h4])
    clear h1 h3 h4 h5
    have m0 : (0 : Int) ≤ (ks : Int) := by omega
    have m1 : (ks : Int) < (c.ports.length : Int) := by omega
    have mneg : decide ((ks : Int) < 0) = false := decide_eq_false (by omega)
    go_enter Tryz.func239, Tryz.ntmps239
    go_upto_region 1 with (fail)
    rw [HW.out]
    go_wp2_with fail
    refine (iPort_val c gi id _ HI.out hid ks HX).mono ?_
    rintro e w2 ⟨rfl, hb2⟩
    have hk := HK0.out.below hb2 HK0.out.lt
    have hc2 := HC0.out.up hb2
    have HC2 := Lib.hid hc2
    have HK2 := Lib.hid hk
    have HB2 := Lib.hid (Below.then_ HB0.out hb2)
    have HB2a := Lib.hid hb2
    have q4 := hc2.p4
    have hgl2 := hc2.lt
    obtain ⟨bp, op, rfl, hbq, p0, p1, p2, p3, p4, p5⟩ := prt_at hc2.rd HPS.out
    clear hk hb2 hc2
    go_upto_region 5 with (fail)
    obtain ⟨W3, hW3, pb3, hb3⟩ := PtBox.new w2 p 59
    rw [hW3]
    have hk3 := HK2.out.below hb3 HK2.out.lt
    have HP3 := Lib.hid pb3
    have HC3 := Lib.hid (HC2.out.up hb3)
    have HB3 := Lib.hid (Below.then_ HB2.out hb3)
    have HB3a := Lib.hid hb3
    obtain ⟨z0, z1, z2, z3, z4, z5, hz⟩ := pb3
    have q0 := hk3.cell 0
    have q1 := hk3.cell 1
    have q2 := hk3.cell 2
    have q3 := hk3.cell 3
    have q5 := hk3.cell 4
    have q6 := hk3.cell 5
    have qf := hk3.frozen
    have HK3 := Lib.hid hk3
    simp at q0 q1 q2 q3 q5 q6
    clear p0 p1 p2 p3 p4 p5 hW3 hb3 hk3 q4 k6
    rcases Bool.eq_false_or_eq_true p.output with hpo | hpo
    · have HPO := Lib.hid hpo
      go_wp2_with fail
      refine (fitAny_ok _ _ _ _ _ _ _).mono ?_
      rintro e w4 ⟨rfl, hb4⟩
      have hk4 := HK3.out.below hb4 HK3.out.lt
      have hp4 := HP3.out.up hb4
      have hc4 := HC3.out.up hb4
      have HB4 := Lib.hid (Below.then_ HB3.out hb4)
      have hm4 := HM.out.below HB4.out hbl
      have q7 := hc4.mp
      have hgl4 := hc4.lt
      have HK4 := Lib.hid hk4
      have HP4 := Lib.hid hp4
      have HM4 := Lib.hid hm4
      clear q0 q1 q2 q3 q5 q6 qf z0 z1 z2 z3 z4 z5 hz hb4
      obtain ⟨z0, z1, z2, z3, z4, z5, hz⟩ := hp4
      have q0 := hk4.cell 0
      have q1 := hk4.cell 1
      have q2 := hk4.cell 2
      have q3 := hk4.cell 3
      have q5 := hk4.cell 4
      have q6 := hk4.cell 5
      have qf := hk4.frozen
      simp at q0 q1 q2 q3 q5 q6
      obtain ⟨l, hl⟩ := keyU hid
      by_cases hmem : id ∈ u
      · have HV := Lib.hid (endS_27 HF.out HPO.out rfl hmem)
        have hgv : getv (usedL u) id = some true := by rw [usedL_get, if_pos hmem]
        rcases hm4.look lawU Tryz.underlying309 (zeroBool _) kU_inj (by rw [usedL_keys]; exact HN.out) hl with ⟨h1, _⟩ | ⟨v, h1, hr⟩
        · rw [hgv] at h1; cases h1
        · obtain rfl : v = true := by rw [hgv] at h1; injection h1 with h1; exact h1.symm
          have hr1 := hr false
          simp only [Bool.false_eq_true, if_false, kU, vB] at hr1
          clear hr h1 hgv hm4 hl hk4 hc4
          go_wp2
          refine bodyPost_ret (v := .tuple #[prtV p, .int .i64 27]) (by simp [results, Tryz.results239, go_sem, HPO.out, q0, q1, q2, q3, q5, q6]) rfl ⟨by rw [HT.out, HV.out], ?_, ?_⟩
          · rw [endUsed_ne (by rw [HV.out]; decide)]
            exact HM.out.below (by (repeat (first | with_reducible exact HB4.out | with_reducible exact Below.refl _ _ | with_reducible refine Below.drew ?_ | (with_reducible refine Below.setCell ?_ (by simp) _) | (with_reducible refine Below.alloc ?_ (by have hq := HB4.out.size; simp; omega) _)))) hbl
          · exact grown_of_below (by (repeat (first | with_reducible exact HB4.out | with_reducible exact Below.refl _ _ | with_reducible refine Below.drew ?_ | (with_reducible refine Below.setCell ?_ (by simp) _) | (with_reducible refine Below.alloc ?_ (by have hq := HB4.out.size; simp; omega) _)))) _
      · have HV := Lib.hid (endS_0 HF.out HPO.out rfl hmem)
        have hgv : getv (usedL u) id = none := by rw [usedL_get, if_neg hmem]
        rcases hm4.look lawU Tryz.underlying309 (zeroBool _) kU_inj (by rw [usedL_keys]; exact HN.out) hl with ⟨h1, hr⟩ | ⟨v, h1, hr⟩
        · have hr1 := hr false
          obtain ⟨w5, hput, hm5, hg5, hs5⟩ := hm4.put lawU Tryz.underlying309 hl kU_inj hgv true
          simp only [Bool.false_eq_true, if_false, kU, vB] at hr1 hput
          have HM5 := Lib.hid hm5
          have HG5 := Lib.hid hg5
          have hk5 : Blk w5 w.heap.size 59 #[.int .u16 0, .int .u16 0, .string ⟨#[]⟩, .bool false, .bool false, .int .u32 0] := (hg5.block _ hk4.lt (fun e => by injection e with e; omega)).trans hk4
          have b0 := hk5.cell 0
          have b1 := hk5.cell 1
          have b2 := hk5.cell 2
          have b3 := hk5.cell 3
          have b5 := hk5.cell 4
          have b6 := hk5.cell 5
          have bf := hk5.frozen
          simp at b0 b1 b2 b3 b5 b6
          have hzb : w2.heap.size ≠ b := by have h1 := HB2.out.size; omega
          have t0 : w5.cell? ⟨w2.heap.size, 0, none⟩ = some (.int .u16 p.id) := (grown_cell hg5 hz hzb).trans z0
          have t1 : w5.cell? ⟨w2.heap.size, 1, none⟩ = some (.int .u16 p.part) := (grown_cell hg5 hz hzb).trans z1
          have t2 : w5.cell? ⟨w2.heap.size, 2, none⟩ = some (.string p.name) := (grown_cell hg5 hz hzb).trans z2
          have t3 : w5.cell? ⟨w2.heap.size, 3, none⟩ = some (.bool p.output) := (grown_cell hg5 hz hzb).trans z3
          have t4 : w5.cell? ⟨w2.heap.size, 4, none⟩ = some (.bool p.queuing) := (grown_cell hg5 hz hzb).trans z4
          have t5 : w5.cell? ⟨w2.heap.size, 5, none⟩ = some (.int .u32 p.size) := (grown_cell hg5 hz hzb).trans z5
          clear hr h1 hgv hm4 hl hk4 hc4 hm5 hg5 hk5 q0 q1 q2 q3 q5 q6 qf
          go_wp2
          refine bodyPost_ret (v := .tuple #[prtV p, .int .i64 0]) (by simp [results, Tryz.results239, go_sem, HPO.out, b0, b1, b2, b3, b5, b6]) rfl ⟨by rw [HT.out, HV.out], ?_, ?_⟩
          · rw [endUsed_0 HV.out]
            have e : usedL (u ++ [id]) = usedL u ++ [(id, true)] := by simp [usedL]
            rw [e]
            exact MapIs.far6 HM5.out (by omega)
          · exact grown_far6 ((grown_of_below HB4.out (some b)).trans HG5.out) (Nat.le_refl _)
        · rw [hgv] at h1; cases h1
    · have HV := Lib.hid (endS_25 (u := u) HF.out hpo)
      have HPO := Lib.hid hpo
      go_wp2
      refine bodyPost_ret (v := .tuple #[prtV p, .int .i64 25]) (by simp [results, Tryz.results239, go_sem, HPO.out, q0, q1, q2, q3, q5, q6]) rfl ⟨by rw [HT.out, HV.out], ?_, ?_⟩
      · rw [endUsed_ne (by rw [HV.out]; decide)]
        exact HM.out.below (by (repeat (first | with_reducible exact HB3.out | with_reducible exact Below.refl _ _ | with_reducible refine Below.drew ?_ | (with_reducible refine Below.setCell ?_ (by simp) _) | (with_reducible refine Below.alloc ?_ (by have hq := HB3.out.size; simp; omega) _)))) hbl
      · exact grown_of_below (by (repeat (first | with_reducible exact HB3.out | with_reducible exact Below.refl _ _ | with_reducible refine Below.drew ?_ | (with_reducible refine Below.setCell ?_ (by simp) _) | (with_reducible refine Below.alloc ?_ (by have hq := HB3.out.size; simp; omega) _)))) _

theorem endD_25 {c : Cfg} {u : List Int} {id : Int} {p : Prt} {s : Prt} (h : portOf c id = some p) (ho : p.output = true) : endCode c u id false (sameKind s) = 25 := by simp [endCode, h, ho]
theorem endD_26 {c : Cfg} {u : List Int} {id : Int} {p : Prt} {s : Prt} (h : portOf c id = some p) (ho : p.output = false) (hf : (sameKind s) p = false) : endCode c u id false (sameKind s) = 26 := by simp [endCode, h, ho, hf]
theorem endD_27 {c : Cfg} {u : List Int} {id : Int} {p : Prt} {s : Prt} (h : portOf c id = some p) (ho : p.output = false) (hf : (sameKind s) p = true) (hu : id ∈ u) : endCode c u id false (sameKind s) = 27 := by simp [endCode, h, ho, hf, hu]
theorem endD_0 {c : Cfg} {u : List Int} {id : Int} {p : Prt} {s : Prt} (h : portOf c id = some p) (ho : p.output = false) (hf : (sameKind s) p = true) (hu : id ∉ u) : endCode c u id false (sameKind s) = 0 := by simp [endCode, h, ho, hf, hu]
set_option maxRecDepth 100000 in
set_option maxHeartbeats 4000000 in
theorem endD_ok (c : Cfg) (g b : Nat) (A4 : Option Addr) (c4 : Nat) (w : World) (h : ChkAt w w.heap.size g b c A4 c4) (hbd : c.Bd) (u : List Int) (hm : MapIs w Tryz.prog 50 kU vB b (usedL u)) (hn : u.Nodup) (id : Int) (hid : wU16 id) (gs : Nat) (s : Prt) (hgs : PtBox w gs s) :
    Calls Tryz.prog 239 #[.pointer (some ⟨g, 0, none⟩), .int .u16 id, .bool false, .func (.func 241) #[] #[.pointer (some ⟨gs, 0, none⟩)]] w fun e w' => e = .returned (.tuple #[prtV (thePort c id), .int .i64 (endCode c u id false (sameKind s))]) ∧
      MapIs w' Tryz.prog 50 kU vB b (usedL (endUsed c u id false (sameKind s))) ∧ w.grownBy w' (some b) := by
  obtain ⟨W0, hW, hk0, hb0⟩ : ∃ W, w.alloc (.cells #[.int .u16 0, .int .u16 0, .string ⟨#[]⟩, .bool false, .bool false, .int .u32 0] 59) = W ∧ Blk W w.heap.size 59 #[.int .u16 0, .int .u16 0, .string ⟨#[]⟩, .bool false, .bool false, .int .u32 0] ∧ Below w.heap.size w W := ⟨_, rfl, Blk.new _ _ _, below_one _ _⟩
  have HW := Lib.hid hW
  have HB0 := Lib.hid hb0
  have HK0 := Lib.hid hk0
  have hc0 := h.up hb0
  have HC0 := Lib.hid hc0
  have HM := Lib.hid hm
  have HN := Lib.hid hn
  have bt := hbd.t
  have hbl := h.bl
  obtain ⟨gi, k6, hI⟩ := hc0.idx (Nat.le_refl _)
  have HI := Lib.hid hI
  have hgl := hc0.lt
  clear hW hb0 hk0 hc0 hm hn hbd h hI
  rcases idx_cases (fun y => y.id == id) c.ports with ⟨h1, h2⟩ | ⟨ks, p, h1, hkd, h3, h4, h5⟩
  · have HX := Lib.hid h1
    have HV := Lib.hid (show endCode c u id false (sameKind s) = 19 by unfold endCode; rw [show portOf c id = none from h2])
    have HT := Lib.hid (show thePort c id = noPrt by unfold thePort; rw [show portOf c id = none from h2]; rfl)
    clear h1 h2
    go_enter Tryz.func239, Tryz.ntmps239
    go_upto_region 1 with (fail)
    rw [HW.out]
    go_wp2_with fail
    refine (iPort_val c gi id _ HI.out hid (-1) HX).mono ?_
    rintro e w2 ⟨rfl, hb2⟩
    have hk := HK0.out.below hb2 HK0.out.lt
    have q0 := hk.cell 0
    have q1 := hk.cell 1
    have q2 := hk.cell 2
    have q3 := hk.cell 3
    have q4 := hk.cell 4
    have q5 := hk.cell 5
    have qf := hk.frozen
    have HK := Lib.hid hk
    have HB2 := Lib.hid (Below.then_ HB0.out hb2)
    simp at q0 q1 q2 q3 q4 q5
    clear hk hb2
    go_wp2
    refine bodyPost_ret (v := .tuple #[prtV noPrt, .int .i64 19]) (by simp [results, Tryz.results239, go_sem, noPrt, q0, q1, q2, q3, q4, q5]) rfl ⟨by rw [HT.out, HV.out], ?_, ?_⟩
    · rw [endUsed_ne (by rw [HV.out]; decide)]
      exact HM.out.below (by (repeat (first | with_reducible exact HB2.out | with_reducible exact Below.refl _ _ | with_reducible refine Below.drew ?_ | (with_reducible refine Below.setCell ?_ (by simp) _) | (with_reducible refine Below.alloc ?_ (by have hq := HB2.out.size; simp; omega) _)))) hbl
    · exact grown_of_below (by (repeat (first | with_reducible exact HB2.out | with_reducible exact Below.refl _ _ | with_reducible refine Below.drew ?_ | (with_reducible refine Below.setCell ?_ (by simp) _) | (with_reducible refine Below.alloc ?_ (by have hq := HB2.out.size; simp; omega) _)))) _
  · have HX := Lib.hid h1
    have HPS := Lib.hid h3
    have HF := Lib.hid (show portOf c id = some p from h4)
    have HT := Lib.hid (show thePort c id = p by simp [thePort, show portOf c id = some p from h4])
    clear h1 h3 h4 h5
    have m0 : (0 : Int) ≤ (ks : Int) := by omega
    have m1 : (ks : Int) < (c.ports.length : Int) := by omega
    have mneg : decide ((ks : Int) < 0) = false := decide_eq_false (by omega)
    go_enter Tryz.func239, Tryz.ntmps239
    go_upto_region 1 with (fail)
    rw [HW.out]
    go_wp2_with fail
    refine (iPort_val c gi id _ HI.out hid ks HX).mono ?_
    rintro e w2 ⟨rfl, hb2⟩
    have hk := HK0.out.below hb2 HK0.out.lt
    have hc2 := HC0.out.up hb2
    have HC2 := Lib.hid hc2
    have HK2 := Lib.hid hk
    have HB2 := Lib.hid (Below.then_ HB0.out hb2)
    have HB2a := Lib.hid hb2
    have q4 := hc2.p4
    have hgl2 := hc2.lt
    obtain ⟨bp, op, rfl, hbq, p0, p1, p2, p3, p4, p5⟩ := prt_at hc2.rd HPS.out
    clear hk hb2 hc2
    go_upto_region 5 with (fail)
    obtain ⟨W3, hW3, pb3, hb3⟩ := PtBox.new w2 p 59
    rw [hW3]
    have hk3 := HK2.out.below hb3 HK2.out.lt
    have HP3 := Lib.hid pb3
    have HC3 := Lib.hid (HC2.out.up hb3)
    have HB3 := Lib.hid (Below.then_ HB2.out hb3)
    have HB3a := Lib.hid hb3
    obtain ⟨z0, z1, z2, z3, z4, z5, hz⟩ := pb3
    have q0 := hk3.cell 0
    have q1 := hk3.cell 1
    have q2 := hk3.cell 2
    have q3 := hk3.cell 3
    have q5 := hk3.cell 4
    have q6 := hk3.cell 5
    have qf := hk3.frozen
    have HK3 := Lib.hid hk3
    simp at q0 q1 q2 q3 q5 q6
    clear p0 p1 p2 p3 p4 p5 hW3 hb3 hk3 q4 k6
    rcases Bool.eq_false_or_eq_true p.output with hpo | hpo
    · have HV := Lib.hid (endD_25 (u := u) (s := s) HF.out hpo)
      have HPO := Lib.hid hpo
      go_wp2
      refine bodyPost_ret (v := .tuple #[prtV p, .int .i64 25]) (by simp [results, Tryz.results239, go_sem, HPO.out, q0, q1, q2, q3, q5, q6]) rfl ⟨by rw [HT.out, HV.out], ?_, ?_⟩
      · rw [endUsed_ne (by rw [HV.out]; decide)]
        exact HM.out.below (by (repeat (first | with_reducible exact HB3.out | with_reducible exact Below.refl _ _ | with_reducible refine Below.drew ?_ | (with_reducible refine Below.setCell ?_ (by simp) _) | (with_reducible refine Below.alloc ?_ (by have hq := HB3.out.size; simp; omega) _)))) hbl
      · exact grown_of_below (by (repeat (first | with_reducible exact HB3.out | with_reducible exact Below.refl _ _ | with_reducible refine Below.drew ?_ | (with_reducible refine Below.setCell ?_ (by simp) _) | (with_reducible refine Below.alloc ?_ (by have hq := HB3.out.size; simp; omega) _)))) _
    · have HPO := Lib.hid hpo
      have hfb : sameKind s p = true ∨ sameKind s p = false := by cases sameKind s p <;> simp
      rcases hfb with hft | hft
      · have HFT := Lib.hid hft
        go_wp2_with fail
        refine (fitSame_ok p s _ gs _ (PtBox.up (PtBox.up (PtBox.up (PtBox.up hgs HB0.out) HB2a.out) HB3a.out) (Below.refl _ _)) true HFT).mono ?_
        rintro e w4 ⟨rfl, hb4⟩
        have hk4 := HK3.out.below hb4 HK3.out.lt
        have hp4 := HP3.out.up hb4
        have hc4 := HC3.out.up hb4
        have HB4 := Lib.hid (Below.then_ HB3.out hb4)
        have hm4 := HM.out.below HB4.out hbl
        have q7 := hc4.mp
        have hgl4 := hc4.lt
        have HK4 := Lib.hid hk4
        have HP4 := Lib.hid hp4
        have HM4 := Lib.hid hm4
        clear q0 q1 q2 q3 q5 q6 qf z0 z1 z2 z3 z4 z5 hz hb4
        obtain ⟨z0, z1, z2, z3, z4, z5, hz⟩ := hp4
        have q0 := hk4.cell 0
        have q1 := hk4.cell 1
        have q2 := hk4.cell 2
        have q3 := hk4.cell 3
        have q5 := hk4.cell 4
        have q6 := hk4.cell 5
        have qf := hk4.frozen
        simp at q0 q1 q2 q3 q5 q6
        obtain ⟨l, hl⟩ := keyU hid
        by_cases hmem : id ∈ u
        · have HV := Lib.hid (endD_27 HF.out HPO.out HFT.out hmem)
          have hgv : getv (usedL u) id = some true := by rw [usedL_get, if_pos hmem]
          rcases hm4.look lawU Tryz.underlying309 (zeroBool _) kU_inj (by rw [usedL_keys]; exact HN.out) hl with ⟨h1, _⟩ | ⟨v, h1, hr⟩
          · rw [hgv] at h1; cases h1
          · obtain rfl : v = true := by rw [hgv] at h1; injection h1 with h1; exact h1.symm
            have hr1 := hr false
            simp only [Bool.false_eq_true, if_false, kU, vB] at hr1
            clear hr h1 hgv hm4 hl hk4 hc4
            go_wp2
            refine bodyPost_ret (v := .tuple #[prtV p, .int .i64 27]) (by simp [results, Tryz.results239, go_sem, HPO.out, q0, q1, q2, q3, q5, q6]) rfl ⟨by rw [HT.out, HV.out], ?_, ?_⟩
            · rw [endUsed_ne (by rw [HV.out]; decide)]
              exact HM.out.below (by (repeat (first | with_reducible exact HB4.out | with_reducible exact Below.refl _ _ | with_reducible refine Below.drew ?_ | (with_reducible refine Below.setCell ?_ (by simp) _) | (with_reducible refine Below.alloc ?_ (by have hq := HB4.out.size; simp; omega) _)))) hbl
            · exact grown_of_below (by (repeat (first | with_reducible exact HB4.out | with_reducible exact Below.refl _ _ | with_reducible refine Below.drew ?_ | (with_reducible refine Below.setCell ?_ (by simp) _) | (with_reducible refine Below.alloc ?_ (by have hq := HB4.out.size; simp; omega) _)))) _
        · have HV := Lib.hid (endD_0 HF.out HPO.out HFT.out hmem)
          have hgv : getv (usedL u) id = none := by rw [usedL_get, if_neg hmem]
          rcases hm4.look lawU Tryz.underlying309 (zeroBool _) kU_inj (by rw [usedL_keys]; exact HN.out) hl with ⟨h1, hr⟩ | ⟨v, h1, hr⟩
          · have hr1 := hr false
            obtain ⟨w5, hput, hm5, hg5, hs5⟩ := hm4.put lawU Tryz.underlying309 hl kU_inj hgv true
            simp only [Bool.false_eq_true, if_false, kU, vB] at hr1 hput
            have HM5 := Lib.hid hm5
            have HG5 := Lib.hid hg5
            have hk5 : Blk w5 w.heap.size 59 #[.int .u16 0, .int .u16 0, .string ⟨#[]⟩, .bool false, .bool false, .int .u32 0] := (hg5.block _ hk4.lt (fun e => by injection e with e; omega)).trans hk4
            have b0 := hk5.cell 0
            have b1 := hk5.cell 1
            have b2 := hk5.cell 2
            have b3 := hk5.cell 3
            have b5 := hk5.cell 4
            have b6 := hk5.cell 5
            have bf := hk5.frozen
            simp at b0 b1 b2 b3 b5 b6
            have hzb : w2.heap.size ≠ b := by have h1 := HB2.out.size; omega
            have t0 : w5.cell? ⟨w2.heap.size, 0, none⟩ = some (.int .u16 p.id) := (grown_cell hg5 hz hzb).trans z0
            have t1 : w5.cell? ⟨w2.heap.size, 1, none⟩ = some (.int .u16 p.part) := (grown_cell hg5 hz hzb).trans z1
            have t2 : w5.cell? ⟨w2.heap.size, 2, none⟩ = some (.string p.name) := (grown_cell hg5 hz hzb).trans z2
            have t3 : w5.cell? ⟨w2.heap.size, 3, none⟩ = some (.bool p.output) := (grown_cell hg5 hz hzb).trans z3
            have t4 : w5.cell? ⟨w2.heap.size, 4, none⟩ = some (.bool p.queuing) := (grown_cell hg5 hz hzb).trans z4
            have t5 : w5.cell? ⟨w2.heap.size, 5, none⟩ = some (.int .u32 p.size) := (grown_cell hg5 hz hzb).trans z5
            clear hr h1 hgv hm4 hl hk4 hc4 hm5 hg5 hk5 q0 q1 q2 q3 q5 q6 qf
            go_wp2
            refine bodyPost_ret (v := .tuple #[prtV p, .int .i64 0]) (by simp [results, Tryz.results239, go_sem, HPO.out, b0, b1, b2, b3, b5, b6]) rfl ⟨by rw [HT.out, HV.out], ?_, ?_⟩
            · rw [endUsed_0 HV.out]
              have e : usedL (u ++ [id]) = usedL u ++ [(id, true)] := by simp [usedL]
              rw [e]
              exact MapIs.far6 HM5.out (by omega)
            · exact grown_far6 ((grown_of_below HB4.out (some b)).trans HG5.out) (Nat.le_refl _)
          · rw [hgv] at h1; cases h1
      · have HFT := Lib.hid hft
        have HV := Lib.hid (endD_26 (u := u) HF.out HPO.out hft)
        clear hft
        go_wp2_with fail
        refine (fitSame_ok p s _ gs _ (PtBox.up (PtBox.up (PtBox.up (PtBox.up hgs HB0.out) HB2a.out) HB3a.out) (Below.refl _ _)) false HFT).mono ?_
        rintro e w4 ⟨rfl, hb4⟩
        have hk4 := HK3.out.below hb4 HK3.out.lt
        have hp4 := HP3.out.up hb4
        have HB4 := Lib.hid (Below.then_ HB3.out hb4)
        clear q0 q1 q2 q3 q5 q6 qf z0 z1 z2 z3 z4 z5 hz hb4
        obtain ⟨z0, z1, z2, z3, z4, z5, hz⟩ := hp4
        have q0 := hk4.cell 0
        have q1 := hk4.cell 1
        have q2 := hk4.cell 2
        have q3 := hk4.cell 3
        have q5 := hk4.cell 4
        have q6 := hk4.cell 5
        have qf := hk4.frozen
        simp at q0 q1 q2 q3 q5 q6
        clear hk4
        go_wp2
        refine bodyPost_ret (v := .tuple #[prtV p, .int .i64 26]) (by simp [results, Tryz.results239, go_sem, HPO.out, q0, q1, q2, q3, q5, q6]) rfl ⟨by rw [HT.out, HV.out], ?_, ?_⟩
        · rw [endUsed_ne (by rw [HV.out]; decide)]
          exact HM.out.below (by (repeat (first | with_reducible exact HB4.out | with_reducible exact Below.refl _ _ | with_reducible refine Below.drew ?_ | (with_reducible refine Below.setCell ?_ (by simp) _) | (with_reducible refine Below.alloc ?_ (by have hq := HB4.out.size; simp; omega) _)))) hbl
        · exact grown_of_below (by (repeat (first | with_reducible exact HB4.out | with_reducible exact Below.refl _ _ | with_reducible refine Below.drew ?_ | (with_reducible refine Below.setCell ?_ (by simp) _) | (with_reducible refine Below.alloc ?_ (by have hq := HB4.out.size; simp; omega) _)))) _
end Go.Proofs.YtpedlbjbbcbbkaaGreat
namespace Go.Proofs.YtpedlbjbbcbbkaaGreat
open Go.RowKit
open Go.Maps (Keyed)
attribute [local go_sem] ext_cell
theorem endCode_new {c : Cfg} {u : List Int} {id : Int} {o : Bool} {fit : Prt → Bool} (h : endCode c u id o fit = 0) : id ∉ u := by
  unfold endCode at h
  split at h
  · cases h
  · split at h
    · split at h
      · split at h
        · cases h
        · assumption
      · cases h
    · cases h
theorem nodup_snoc {l : List Int} {x : Int} (h : l.Nodup) (hx : x ∉ l) : (l ++ [x]).Nodup := by
  rw [List.nodup_append]
  exact ⟨h, by simp, fun a ha b hb e => hx (by simp at hb; rw [← hb, ← e]; exact ha)⟩
theorem ChBox.grown {w w' : World} {g b : Nat} {x : Chn} {D : Option Addr} {d : Nat} (h : ChBox w g x D d) (hg : w.grownBy w' (some b)) (hne : ∀ x o v, w.cell? ⟨x, o, none⟩ = some v → x ≠ b) : ChBox w' g x D d := by
  obtain ⟨h0, h1, h2, hl⟩ := h
  have n := hne _ _ _ h0
  exact ⟨(grown_cell hg hl n).trans h0, (grown_cell hg hl n).trans h1, (grown_cell hg hl n).trans h2, Nat.lt_of_lt_of_le hl hg.size⟩
theorem PtBox.grown {w w' : World} {g b : Nat} {x : Prt} (h : PtBox w g x) (hg : w.grownBy w' (some b)) (hne : ∀ x o v, w.cell? ⟨x, o, none⟩ = some v → x ≠ b) : PtBox w' g x := by
  obtain ⟨h0, h1, h2, h3, h4, h5, hl⟩ := h
  have n := hne _ _ _ h0
  exact ⟨(grown_cell hg hl n).trans h0, (grown_cell hg hl n).trans h1, (grown_cell hg hl n).trans h2, (grown_cell hg hl n).trans h3, (grown_cell hg hl n).trans h4, (grown_cell hg hl n).trans h5, Nat.lt_of_lt_of_le hl hg.size⟩
structure ChSt (w wr : World) (g b gb : Nat) (c : Cfg) (A4 : Option Addr) (c4 : Nat) (x : Chn) (D : Option Addr) (d : Nat) (us : List Int) : Prop where
  chk : ChkAt wr wr.heap.size g b c A4 c4
  mp : MapIs wr Tryz.prog 50 kU vB b (usedL us)
  nd : us.Nodup
  cb : ChBox wr gb x D d
  rd : Rd wr wr.heap.size 1 D x.dests.length (x.dests.map (Value.int .u16))
  gr : w.grownBy wr (some b)
section
variable {w wr w' : World} {g b gb gs : Nat} {c : Cfg} {A4 : Option Addr} {c4 : Nat} {x : Chn} {D : Option Addr} {d : Nat} {us us' : List Int}
theorem ChSt.step (h : ChSt w wr g b gb c A4 c4 x D d us) (hm : MapIs w' Tryz.prog 50 kU vB b (usedL us')) (hn : us'.Nodup) (hg : wr.grownBy w' (some b)) : ChSt w w' g b gb c A4 c4 x D d us' := by
  have hne : ∀ x o v, wr.cell? ⟨x, o, none⟩ = some v → x ≠ b := fun x o v hx => h.mp.ne hx
  exact ⟨h.chk.grown hg hne, hm, hn, h.cb.grown hg hne, (h.rd.grown hg (Nat.le_refl _) hne).more hg.size, h.gr.trans hg⟩
theorem ChSt.up (h : ChSt w wr g b gb c A4 c4 x D d us) (hb : Below wr.heap.size wr w') : ChSt w w' g b gb c A4 c4 x D d us :=
  h.step (h.mp.below hb h.chk.bl) h.nd (grown_of_below hb _)
theorem ChSt.ne (h : ChSt w wr g b gb c A4 c4 x D d us) : ∀ x o v, wr.cell? ⟨x, o, none⟩ = some v → x ≠ b := fun _ _ _ hx => h.mp.ne hx
end
theorem endS_val (c : Cfg) (g b : Nat) (A4 : Option Addr) (c4 : Nat) (w : World) (h : ChkAt w w.heap.size g b c A4 c4) (hbd : c.Bd) (u : List Int) (hm : MapIs w Tryz.prog 50 kU vB b (usedL u)) (hn : u.Nodup) (id : Int) (hid : wU16 id) (v : Int) (hv : Hid (endCode c u id true anyPort = v)) :
    Calls Tryz.prog 239 #[.pointer (some ⟨g, 0, none⟩), .int .u16 id, .bool true, .func (.func 240) #[] #[]] w fun e w' => e = .returned (.tuple #[prtV (thePort c id), .int .i64 v]) ∧
      MapIs w' Tryz.prog 50 kU vB b (usedL (endUsed c u id true anyPort)) ∧ w.grownBy w' (some b) := by
  have := endS_ok c g b A4 c4 w h hbd u hm hn id hid
  rwa [hv.out] at this
theorem endD_val (c : Cfg) (g b : Nat) (A4 : Option Addr) (c4 : Nat) (w : World) (h : ChkAt w w.heap.size g b c A4 c4) (hbd : c.Bd) (u : List Int) (hm : MapIs w Tryz.prog 50 kU vB b (usedL u)) (hn : u.Nodup) (id : Int) (hid : wU16 id) (gs : Nat) (s : Prt) (hgs : PtBox w gs s) (v : Int) (hv : Hid (endCode c u id false (sameKind s) = v)) :
    Calls Tryz.prog 239 #[.pointer (some ⟨g, 0, none⟩), .int .u16 id, .bool false, .func (.func 241) #[] #[.pointer (some ⟨gs, 0, none⟩)]] w fun e w' => e = .returned (.tuple #[prtV (thePort c id), .int .i64 v]) ∧
      MapIs w' Tryz.prog 50 kU vB b (usedL (endUsed c u id false (sameKind s))) ∧ w.grownBy w' (some b) := by
  have := endD_ok c g b A4 c4 w h hbd u hm hn id hid gs s hgs
  rwa [hv.out] at this
theorem destsCode_hit {c : Cfg} {s : Prt} {us : List Int} {l : List Int} {k : Nat} {d : Int} {v : Int × List Int} (h : v = destsCode c s us (l.drop k)) (hx : l[k]? = some d) (hp : endCode c us d false (sameKind s) ≠ 0) : v = (endCode c us d false (sameKind s), us) := by
  rw [h, drop_cons hx, destsCode, if_neg hp]
theorem destsCode_miss {c : Cfg} {s : Prt} {us : List Int} {l : List Int} {k : Nat} {d : Int} {v : Int × List Int} (h : v = destsCode c s us (l.drop k)) (hx : l[k]? = some d) (hp : endCode c us d false (sameKind s) = 0) : v = destsCode c s (us ++ [d]) (l.drop (k + 1)) := by
  rw [h, drop_cons hx, destsCode, if_pos hp]
theorem destsCode_end {c : Cfg} {s : Prt} {us : List Int} {l : List Int} {v : Int × List Int} (h : v = destsCode c s us (l.drop l.length)) : v = (0, us) := by
  rw [h, List.drop_length, destsCode]
set_option maxRecDepth 100000 in
set_option maxHeartbeats 4000000 in
theorem channel_ok (c : Cfg) (g b : Nat) (A4 : Option Addr) (c4 : Nat) (w : World) (h : ChkAt w w.heap.size g b c A4 c4) (hbd : c.Bd) (u : List Int) (hm : MapIs w Tryz.prog 50 kU vB b (usedL u)) (hn : u.Nodup) (x : Chn) (hx : x.ok) (hxl : x.dests.length ≤ 1048576) (D : Option Addr) (d : Nat)
    (hD : Rd w w.heap.size 1 D x.dests.length (x.dests.map (Value.int .u16))) :
    Calls Tryz.prog 202 #[.pointer (some ⟨g, 0, none⟩), .agg #[.int .u16 x.id, .int .u16 x.source, .slice D x.dests.length d]] w fun e w' => e = .returned (.int .i64 (chanCode c u x).1) ∧
      MapIs w' Tryz.prog 50 kU vB b (usedL (chanCode c u x).2) ∧ w.grownBy w' (some b) := by
  obtain ⟨W0, hW, cb, hb0⟩ := ChBox.new w x D d 66
  have hst : ChSt w W0 g b w.heap.size c A4 c4 x D d u := ⟨h.up hb0, hm.below hb0 h.bl, hn, cb, hD.up hb0, grown_of_below hb0 _⟩
  have HW := Lib.hid hW
  have HS := Lib.hid hst
  have HBD := Lib.hid hbd
  have hsrc := hx.source
  have HDS := Lib.hid hx.dests
  obtain ⟨y0, y1, y2, hz⟩ := cb
  clear h hm hn hD hst hb0 hW hbd hx
  by_cases he : endCode c u x.source true anyPort = 0
  · have HE := Lib.hid he
    have hus := endUsed_0 he
    have hnew := endCode_new he
    clear he
    go_enter Tryz.func202, Tryz.ntmps202
    go_upto_region 1 with (fail)
    rw [HW.out]
    go_wp2_with fail
    refine (endS_val c g b A4 c4 _ HS.out.chk HBD.out u HS.out.mp HS.out.nd x.source hsrc 0 HE).mono ?_
    rintro e w2 ⟨rfl, hm2, hg2⟩
    rw [hus] at hm2
    have hst2 := HS.out.step hm2 (nodup_snoc HS.out.nd hnew) hg2
    clear y0 y1 y2 hz hm2 hg2 hus hnew
    go_upto_region 4 with (fail)
    obtain ⟨W3, hW3, pb3, hb3⟩ := PtBox.new w2 (thePort c x.source) 59
    rw [hW3]
    have hst3 := hst2.up hb3
    have hcb := hst3.cb
    obtain ⟨y0, y1, y2, hz⟩ := hcb
    have HS3 := Lib.hid hst3
    have HP3 := Lib.hid pb3
    clear hst2 hst3 hb3 hW3 pb3
    by_cases hd0 : x.dests.length = 0
    · have HV := Lib.hid (show chanCode c u x = (28, u ++ [x.source]) by unfold chanCode; rw [if_pos HE.out, if_pos (List.eq_nil_of_length_eq_zero hd0)])
      have hd0' : ((x.dests.length : Int) == 0) = true := by simp [hd0]
      clear hd0
      go_wp2
      go_ret
      exact ⟨by rw [HV.out]; try rfl, by rw [HV.out]; exact HS3.out.mp, HS3.out.gr⟩
    · have HV := Lib.hid (show chanCode c u x = destsCode c (thePort c x.source) (u ++ [x.source]) (x.dests.drop 0) by unfold chanCode; rw [if_pos HE.out, if_neg (fun e => hd0 (by rw [e]; rfl))]; rfl)
      have hd0' : ((x.dests.length : Int) == 0) = false := by simp; exact fun e => hd0 (by rw [e]; rfl)
      clear hd0
      generalize hs : thePort c x.source = s at HV HP3
      clear hs
      go_wp2
      clear y0 y1 y2 hz
      go_loopw [30] (fun j wr => ∃ (k : Nat) (us : List Int), k ≤ x.dests.length ∧ j = .int .i64 k ∧ Hid (chanCode c u x = destsCode c s us (x.dests.drop k)) ∧ Hid (ChSt w wr g b w.heap.size c A4 c4 x D d us) ∧ Hid (PtBox wr w2.heap.size s)) (fun j _ => x.dests.length - (intOf j).toNat)
      case atStart => exact ⟨0, _, Nat.zero_le _, rfl, HV, HS3, HP3⟩
      case round =>
        obtain ⟨k, us, hk, rfl, hrest, HSr, HPr⟩ := hrel
        by_cases hlt : k < x.dests.length
        · obtain ⟨dd, hdd⟩ := get_lt hlt
          obtain ⟨bd, od, rfl, hbd, gd⟩ := int_at HSr.out.rd hdd
          have hdu := HDS.out dd (List.mem_of_getElem? hdd)
          have HDD := Lib.hid hdd
          clear hdd
          by_cases he : endCode c us dd false (sameKind s) = 0
          · have HE2 := Lib.hid he
            have hus := endUsed_0 he
            have hnew := endCode_new he
            have HN := Lib.hid (destsCode_miss hrest.out HDD.out he)
            clear he
            go_wp2_with fail
            refine (endD_val c g b A4 c4 _ HSr.out.chk HBD.out us HSr.out.mp HSr.out.nd dd hdu w2.heap.size s HPr.out 0 HE2).mono ?_
            rintro e w4 ⟨rfl, hm4, hg4⟩
            rw [hus] at hm4
            have HS4 := Lib.hid (HSr.out.step hm4 (nodup_snoc HSr.out.nd hnew) hg4)
            have HP4 := Lib.hid (HPr.out.grown hg4 HSr.out.ne)
            clear hm4 hg4 hus hnew
            go_wp2
            go_roundw
            case rel => exact ⟨k + 1, us ++ [dd], by omega, by go_num, HN, Lib.hid (HS4.out.up (below_one _ _)), Lib.hid (HP4.out.up (below_one _ _))⟩
            case measure => simp [intOf]; omega
          · have HE2 := Lib.hid (destsCode_hit hrest.out HDD.out he)
            have hus := endUsed_ne he
            have hne : (endCode c us dd false (sameKind s) != 0) = true := by simpa using he
            clear he
            go_wp2_with fail
            refine (endD_ok c g b A4 c4 _ HSr.out.chk HBD.out us HSr.out.mp HSr.out.nd dd hdu w2.heap.size s HPr.out).mono ?_
            rintro e w4 ⟨rfl, hm4, hg4⟩
            rw [hus] at hm4
            have HS4 := Lib.hid (HSr.out.step hm4 HSr.out.nd hg4)
            clear hm4 hg4 hus
            go_wp2
            go_ret
            exact ⟨by rw [HE2.out]; try rfl, by rw [HE2.out]; exact (HS4.out.up (below_one _ _)).mp, (HS4.out.up (below_one _ _)).gr⟩
        · obtain rfl : k = x.dests.length := by omega
          have HE2 := Lib.hid (destsCode_end hrest.out)
          go_wp2
          go_ret
          exact ⟨by rw [HE2.out]; try rfl, by rw [HE2.out]; exact HSr.out.mp, HSr.out.gr⟩
  · have HV := Lib.hid (show chanCode c u x = (endCode c u x.source true anyPort, u) by unfold chanCode; rw [if_neg he])
    have hus := endUsed_ne he
    have hne : (endCode c u x.source true anyPort != 0) = true := by simpa using he
    clear he
    go_enter Tryz.func202, Tryz.ntmps202
    go_upto_region 1 with (fail)
    rw [HW.out]
    go_wp2_with fail
    refine (endS_ok c g b A4 c4 _ HS.out.chk HBD.out u HS.out.mp HS.out.nd x.source hsrc).mono ?_
    rintro e w2 ⟨rfl, hm2, hg2⟩
    rw [hus] at hm2
    have HS4 := Lib.hid (HS.out.step hm2 HS.out.nd hg2)
    clear y0 y1 y2 hz hm2 hg2 hus
    go_wp2
    go_ret
    exact ⟨by rw [HV.out]; try rfl, by rw [HV.out]; exact (HS4.out.up (below_one _ _)).mp, (HS4.out.up (below_one _ _)).gr⟩
end Go.Proofs.YtpedlbjbbcbbkaaGreat
namespace Go.Proofs.YtpedlbjbbcbbkaaGreat
open Go.RowKit
open Go.Maps (Keyed)
attribute [local go_sem] ext_cell
def badFlt (s : Int) (v : Int × Int) : Flt := if v.1 = 0 then noFlt else ⟨v.1, s, v.2⟩
theorem badFlt_0 {s : Int} {v : Int × Int} (h : v = (0, 0)) : badFlt s v = noFlt := by rw [h]; rfl
theorem badFlt_e {s e i : Int} {v : Int × Int} (h : v = (e, i)) (he : e ≠ 0) : badFlt s v = ⟨e, s, i⟩ := by rw [h]; exact if_neg he
theorem portCode_val (c : Cfg) (g b : Nat) (A4 : Option Addr) (c4 : Nat) (w : World) (h : ChkAt w w.heap.size g b c A4 c4) (p : Prt) (hp : p.ok) (v : Int) (hv : Hid (portCode c p = v)) :
    Calls Tryz.prog 200 #[.pointer (some ⟨g, 0, none⟩), .agg #[.int .u16 p.id, .int .u16 p.part, .string p.name, .bool p.output, .bool p.queuing, .int .u32 p.size]] w fun e w' => e = .returned (.int .i64 v) ∧ Below w.heap.size w w' := by
  have := chkPort_ok c g b A4 c4 w h p hp
  rwa [hv.out] at this
theorem FltBk (w : World) (t : TypeId) : ∃ W, w.alloc (.cells #[.int .i64 0, .int .i64 0, .int .i64 0] t) = W ∧ Blk W w.heap.size t #[.int .i64 0, .int .i64 0, .int .i64 0] ∧ Below w.heap.size w W := ⟨_, rfl, Blk.new _ _ _, below_one _ _⟩
set_option maxRecDepth 100000 in
set_option maxHeartbeats 4000000 in
theorem firstPort_ok (c : Cfg) (hok : c.ok) (hbd : c.Bd) (g b : Nat) (A4 : Option Addr) (c4 : Nat) (w : World) (h : ChkAt w w.heap.size g b c A4 c4) :
    Calls Tryz.prog 198 #[.int .i64 4, .slice A4 c.ports.length c4, .func (.func 200) #[.pointer (some ⟨g, 0, none⟩)] #[]] w fun e w' => e = .returned (fltV (badFlt 4 (portBad c))) ∧ Below w.heap.size w w' := by
  obtain ⟨W0, hW, hk0, hb0⟩ := FltBk w 37
  have HW := Lib.hid hW
  have HK0 := Lib.hid hk0
  have HB0 := Lib.hid hb0
  have HC0 := Lib.hid (h.up hb0)
  have bt := hbd.t
  have HOK := Lib.hid hok.ports
  clear hW hk0 hb0 h hok hbd
  go_enter Tryz.func198, Tryz.ntmps198
  go_upto_region 1 with (fail)
  rw [HW.out]
  go_wp2
  go_loopw [12] (fun i wr => ∃ k : Nat, k ≤ c.ports.length ∧ i = .int .i64 k ∧ Hid (portBad c = bad k ((c.ports.map (portCode c)).drop k)) ∧ Hid (ChkAt wr wr.heap.size g b c A4 c4) ∧ Hid (Blk wr w.heap.size 37 #[.int .i64 0, .int .i64 0, .int .i64 0]) ∧ Hid (Below w.heap.size w wr)) (fun i _ => c.ports.length - (intOf i).toNat)
  case atStart => exact ⟨0, Nat.zero_le _, rfl, Lib.hid rfl, HC0, HK0, HB0⟩
  case round =>
    obtain ⟨k, hk, rfl, hrest, HC, HK, HB⟩ := hrel
    by_cases hlt : k < c.ports.length
    · obtain ⟨x, hx⟩ := get_lt hlt
      have hxo := HOK.out x (List.mem_of_getElem? hx)
      obtain ⟨bp, op, rfl, hbp, p0, p1, p2, p3, p4, p5⟩ := prt_at HC.out.rd hx
      have HX := Lib.hid (show (c.ports.map (portCode c))[k]? = some (portCode c x) by simp [hx])
      clear hx
      go_upto_region 4 with (fail)
      obtain ⟨W3, hW3, pb3, hb3⟩ := PtBox.new wr x 59
      rw [hW3]
      have HC3 := Lib.hid (HC.out.up hb3)
      have HK3 := Lib.hid (HK.out.below hb3 HK.out.lt)
      have HB3 := Lib.hid (Below.trans HB.out (hb3.mono HB.out.size))
      clear p0 p1 p2 p3 p4 p5 hW3 hb3
      obtain ⟨p0, p1, p2, p3, p4, p5, hz⟩ := pb3
      by_cases he : portCode c x = 0
      · have HE := Lib.hid he
        clear he
        go_wp2_with (go_at_call 200; refine (portCode_val c g b _ c4 _ HC3.out x hxo 0 HE).mono ?_; rintro e w4 ⟨rfl, hb4⟩)
        go_roundw
        case rel => exact ⟨k + 1, by omega, by go_num, Lib.hid (bad_miss hrest.out (by rw [HX.out, HE.out])), Lib.hid (HC3.out.up hb4), Lib.hid (HK3.out.below hb4 HK3.out.lt), Lib.hid (Below.trans HB3.out (hb4.mono HB3.out.size))⟩
        case measure => simp [intOf]; omega
      · have HV := Lib.hid (badFlt_e (s := 4) (bad_hit hrest.out HX.out he) he)
        have hne : (portCode c x != 0) = true := by simpa using he
        clear he
        go_wp2_with fail
        refine (chkPort_ok c g b _ c4 _ HC3.out x hxo).mono ?_
        rintro e w4 ⟨rfl, hb4⟩
        have hk4 := HK3.out.below hb4 HK3.out.lt
        have HB4 := Lib.hid (Below.trans HB3.out (hb4.mono HB3.out.size))
        have q0 := hk4.cell 0
        have q1 := hk4.cell 1
        have q2 := hk4.cell 2
        have qf := hk4.frozen
        simp at q0 q1 q2
        clear hk4 hb4
        go_wp2
        refine bodyPost_ret (v := fltV ⟨portCode c x, 4, k⟩) (by simp [results, Tryz.results198, go_sem, q0, q1, q2]) rfl ⟨by rw [HV.out], ?_⟩
        (repeat (first | with_reducible exact HB4.out | with_reducible exact Below.refl _ _ | with_reducible refine Below.drew ?_ | (with_reducible refine Below.setCell ?_ (by simp) _) | (with_reducible refine Below.alloc ?_ (by have hq := HB4.out.size; simp; omega) _)))
    · obtain rfl : k = c.ports.length := by omega
      have HV := Lib.hid (badFlt_0 (s := 4) (bad_end (v := portBad c) (l := c.ports.map (portCode c)) (by simpa using hrest.out)))
      have q0 := HK.out.cell 0
      have q1 := HK.out.cell 1
      have q2 := HK.out.cell 2
      have qf := HK.out.frozen
      simp at q0 q1 q2
      have HB4 := HB
      go_wp2
      refine bodyPost_ret (v := fltV noFlt) (by simp [results, Tryz.results198, go_sem, noFlt, q0, q1, q2]) rfl ⟨by rw [HV.out], ?_⟩
      (repeat (first | with_reducible exact HB4.out | with_reducible exact Below.refl _ _ | with_reducible refine Below.drew ?_ | (with_reducible refine Below.setCell ?_ (by simp) _) | (with_reducible refine Below.alloc ?_ (by have hq := HB4.out.size; simp; omega) _)))
theorem chansBad_hit {c : Cfg} {i : Nat} {us : List Int} {x : Chn} {v : Int × Int} (h : v = chansBad c i us (c.chans.drop i)) (hx : c.chans[i]? = some x) (hp : (chanCode c us x).1 ≠ 0) : v = ((chanCode c us x).1, (i : Int)) := by
  rw [h, drop_cons hx, chansBad, if_neg hp]
theorem chansBad_miss {c : Cfg} {i : Nat} {us : List Int} {x : Chn} {v : Int × Int} (h : v = chansBad c i us (c.chans.drop i)) (hx : c.chans[i]? = some x) (hp : (chanCode c us x).1 = 0) : v = chansBad c (i + 1) (chanCode c us x).2 (c.chans.drop (i + 1)) := by
  rw [h, drop_cons hx, chansBad, if_pos hp]
theorem chansBad_end {c : Cfg} {us : List Int} {v : Int × Int} (h : v = chansBad c c.chans.length us (c.chans.drop c.chans.length)) : v = (0, 0) := by
  rw [h, List.drop_length, chansBad]
theorem destsCode_nodup {c : Cfg} {s : Prt} : ∀ (l us : List Int), us.Nodup → (destsCode c s us l).2.Nodup
  | [], _, h => h
  | d :: r, us, h => by
    unfold destsCode
    split
    · rename_i h0
      exact destsCode_nodup r _ (nodup_snoc h (endCode_new h0))
    · exact h
theorem chanCode_nodup {c : Cfg} {us : List Int} {x : Chn} (h : us.Nodup) : (chanCode c us x).2.Nodup := by
  unfold chanCode
  split
  · rename_i h0
    split
    · exact nodup_snoc h (endCode_new h0)
    · exact destsCode_nodup _ _ (nodup_snoc h (endCode_new h0))
  · exact h
theorem channel_val (c : Cfg) (g b : Nat) (A4 : Option Addr) (c4 : Nat) (w : World) (h : ChkAt w w.heap.size g b c A4 c4) (hbd : c.Bd) (u : List Int) (hm : MapIs w Tryz.prog 50 kU vB b (usedL u)) (hn : u.Nodup) (x : Chn) (hx : x.ok) (hxl : x.dests.length ≤ 1048576) (D : Option Addr) (d : Nat)
    (hD : Rd w w.heap.size 1 D x.dests.length (x.dests.map (Value.int .u16))) (v : Int) (hv : Hid ((chanCode c u x).1 = v)) :
    Calls Tryz.prog 202 #[.pointer (some ⟨g, 0, none⟩), .agg #[.int .u16 x.id, .int .u16 x.source, .slice D x.dests.length d]] w fun e w' => e = .returned (.int .i64 v) ∧
      MapIs w' Tryz.prog 50 kU vB b (usedL (chanCode c u x).2) ∧ w.grownBy w' (some b) := by
  have := channel_ok c g b A4 c4 w h hbd u hm hn x hx hxl D d hD
  rwa [hv.out] at this
structure FcSt (w wr : World) (g b : Nat) (c : Cfg) (A4 : Option Addr) (c4 : Nat) (A5 : Option Addr) (us : List Int) : Prop where
  chk : ChkAt wr wr.heap.size g b c A4 c4
  mp : MapIs wr Tryz.prog 50 kU vB b (usedL us)
  nd : us.Nodup
  ch : ∃ cs, ChnsC wr wr.heap.size c.chans cs ∧ Rd wr wr.heap.size 3 A5 c.chans.length cs
  bk : Blk wr w.heap.size 37 #[.int .i64 0, .int .i64 0, .int .i64 0]
  bl : b < w.heap.size
  gr : w.grownBy wr (some b)
theorem Rd.grown2 {w w' : World} {b sz n : Nat} {A : Option Addr} {xs : List Value} (h : Rd w w.heap.size sz A n xs) (hg : w.grownBy w' (some b)) (hne : ∀ x o v, w.cell? ⟨x, o, none⟩ = some v → x ≠ b) : Rd w' w'.heap.size sz A n xs := (h.grown hg (Nat.le_refl _) hne).more hg.size
theorem ChnC.grown {w w' : World} {b : Nat} {x : Chn} {cs : List Value} (h : ChnC w w.heap.size x cs) (hg : w.grownBy w' (some b)) (hne : ∀ x o v, w.cell? ⟨x, o, none⟩ = some v → x ≠ b) : ChnC w' w'.heap.size x cs := by
  obtain ⟨A, c, e, h1, h2, h3⟩ := h
  exact ⟨A, c, e, h1, h2, h3.grown2 hg hne⟩
theorem ChnsC.grown {w w' : World} {b : Nat} (hg : w.grownBy w' (some b)) (hne : ∀ x o v, w.cell? ⟨x, o, none⟩ = some v → x ≠ b) : ∀ {l : List Chn} {cs : List Value}, ChnsC w w.heap.size l cs → ChnsC w' w'.heap.size l cs
  | [], _, h => h
  | _ :: _, _, ⟨c0, c1, e, h1, h2⟩ => ⟨c0, c1, e, h1.grown hg hne, ChnsC.grown hg hne h2⟩
section
variable {w wr w' : World} {g b : Nat} {c : Cfg} {A4 A5 : Option Addr} {c4 : Nat} {us us' : List Int}
theorem FcSt.step (h : FcSt w wr g b c A4 c4 A5 us) (hm : MapIs w' Tryz.prog 50 kU vB b (usedL us')) (hn : us'.Nodup) (hg : wr.grownBy w' (some b)) : FcSt w w' g b c A4 c4 A5 us' := by
  have hne : ∀ x o v, wr.cell? ⟨x, o, none⟩ = some v → x ≠ b := fun x o v hx => h.mp.ne hx
  obtain ⟨cs, h1, h2⟩ := h.ch
  have hbl := h.bl
  exact ⟨h.chk.grown hg hne, hm, hn, ⟨cs, h1.grown hg hne, h2.grown2 hg hne⟩, (hg.block _ h.bk.lt (fun e => by injection e with e; omega)).trans h.bk, hbl, h.gr.trans hg⟩
theorem FcSt.up (h : FcSt w wr g b c A4 c4 A5 us) (hb : Below wr.heap.size wr w') : FcSt w w' g b c A4 c4 A5 us :=
  h.step (h.mp.below hb h.chk.bl) h.nd (grown_of_below hb _)
end
theorem grown_far3 {a w : World} {g b : Nat} (h : a.grownBy w (some b)) (hg : a.heap.size ≤ g) {o0 o1 o2 : Nat} {u0 u1 u2 : Value} :
    a.grownBy (((w.setCell ⟨g, o0, none⟩ u0).setCell ⟨g, o1, none⟩ u1).setCell ⟨g, o2, none⟩ u2) (some b) :=
  grown_far (grown_far (grown_far h hg _ _) hg _ _) hg _ _
set_option maxRecDepth 100000 in
set_option maxHeartbeats 4000000 in
theorem firstChan_ok (c : Cfg) (hok : c.ok) (hbd : c.Bd) (g b : Nat) (A4 A5 : Option Addr) (c4 c5 : Nat) (w : World) (h : ChkAt w w.heap.size g b c A4 c4) (hm : MapIs w Tryz.prog 50 kU vB b (usedL []))
    (cs : List Value) (hC : ChnsC w w.heap.size c.chans cs) (hr : Rd w w.heap.size 3 A5 c.chans.length cs) :
    Calls Tryz.prog 201 #[.int .i64 5, .slice A5 c.chans.length c5, .func (.func 202) #[.pointer (some ⟨g, 0, none⟩)] #[]] w fun e w' => e = .returned (fltV (badFlt 5 (chanBad c))) ∧ w.grownBy w' (some b) := by
  obtain ⟨W0, hW, hk0, hb0⟩ := FltBk w 37
  have hst : FcSt w W0 g b c A4 c4 A5 [] := ⟨h.up hb0, hm.below hb0 h.bl, by simp, ⟨cs, (hC.keep fun _ _ hp => hb0.cell hp).more hb0.size, hr.up hb0⟩, hk0, h.bl, grown_of_below hb0 _⟩
  have HW := Lib.hid hW
  have HS0 := Lib.hid hst
  have bx := hbd.x
  have HDL := Lib.hid hbd.d
  have HBD := Lib.hid hbd
  have HOK := Lib.hid hok.chans
  clear hW hk0 hb0 h hok hbd hst hC hr hm
  go_enter Tryz.func201, Tryz.ntmps201
  go_upto_region 1 with (fail)
  rw [HW.out]
  go_wp2
  go_loopw [12] (fun i wr => ∃ (k : Nat) (us : List Int), k ≤ c.chans.length ∧ i = .int .i64 k ∧ Hid (chanBad c = chansBad c k us (c.chans.drop k)) ∧ Hid (FcSt w wr g b c A4 c4 A5 us)) (fun i _ => c.chans.length - (intOf i).toNat)
  case atStart => exact ⟨0, [], Nat.zero_le _, rfl, Lib.hid rfl, HS0⟩
  case round =>
    obtain ⟨k, us, hk, rfl, hrest, HS⟩ := hrel
    by_cases hlt : k < c.chans.length
    · obtain ⟨x, hx⟩ := get_lt hlt
      have hxo := HOK.out x (List.mem_of_getElem? hx)
      have hxl := HDL.out x (List.mem_of_getElem? hx)
      obtain ⟨cs2, hC, hr⟩ := HS.out.ch
      obtain ⟨bp, op, rfl, hbp, p0, p1, D, d, p2, hd1, hd2, hD⟩ := chn_at hC hr hx
      have HX := Lib.hid hx
      have HD := Lib.hid hD
      clear hx hC hr hD
      go_upto_region 4 with (fail)
      obtain ⟨W3, hW3, cb3, hb3⟩ := ChBox.new wr x D d 66
      rw [hW3]
      have HS3 := Lib.hid (HS.out.up hb3)
      have HD3 := Lib.hid (HD.out.up hb3)
      clear p0 p1 p2 hW3 hb3
      obtain ⟨p0, p1, p2, hz⟩ := cb3
      by_cases he : (chanCode c us x).1 = 0
      · have HE := Lib.hid he
        clear he
        go_wp2_with fail
        refine (channel_val c g b _ c4 _ HS3.out.chk HBD.out us HS3.out.mp HS3.out.nd x hxo hxl D d HD3.out 0 HE).mono ?_
        rintro e w4 ⟨rfl, hm4, hg4⟩
        have HS4 := Lib.hid (HS3.out.step hm4 (chanCode_nodup HS3.out.nd) hg4)
        clear hm4 hg4
        go_wp2
        go_roundw
        case rel => exact ⟨k + 1, _, by omega, by go_num, Lib.hid (chansBad_miss hrest.out HX.out HE.out), HS4⟩
        case measure => simp [intOf]; omega
      · have HV := Lib.hid (badFlt_e (s := 5) (chansBad_hit hrest.out HX.out he) he)
        have hne : ((chanCode c us x).1 != 0) = true := by simpa using he
        clear he
        go_wp2_with fail
        refine (channel_ok c g b _ c4 _ HS3.out.chk HBD.out us HS3.out.mp HS3.out.nd x hxo hxl D d HD3.out).mono ?_
        rintro e w4 ⟨rfl, hm4, hg4⟩
        have hs4 := HS3.out.step hm4 (chanCode_nodup HS3.out.nd) hg4
        have q0 := hs4.bk.cell 0
        have q1 := hs4.bk.cell 1
        have q2 := hs4.bk.cell 2
        have qf := hs4.bk.frozen
        simp at q0 q1 q2
        have HG := Lib.hid hs4.gr
        clear hm4 hg4 hs4
        go_wp2
        refine bodyPost_ret (v := fltV ⟨(chanCode c us x).1, 5, k⟩) (by simp [results, Tryz.results201, go_sem, q0, q1, q2]) rfl ⟨by rw [HV.out], ?_⟩
        exact grown_far3 HG.out (Nat.le_refl _)
    · obtain rfl : k = c.chans.length := by omega
      have HV := Lib.hid (badFlt_0 (s := 5) (chansBad_end hrest.out))
      have q0 := HS.out.bk.cell 0
      have q1 := HS.out.bk.cell 1
      have q2 := HS.out.bk.cell 2
      have qf := HS.out.bk.frozen
      simp at q0 q1 q2
      go_wp2
      refine bodyPost_ret (v := fltV noFlt) (by simp [results, Tryz.results201, go_sem, noFlt, q0, q1, q2]) rfl ⟨by rw [HV.out], ?_⟩
      exact grown_far3 HS.out.gr (Nat.le_refl _)
end Go.Proofs.YtpedlbjbbcbbkaaGreat
namespace Go.Proofs.YtpedlbjbbcbbkaaGreat
open Go.RowKit
attribute [local go_sem] ext_cell
def pFlt (c : Cfg) : Flt := badFlt 4 (portBad c)
def xFlt (c : Cfg) : Flt := badFlt 5 (chanBad c)
set_option maxRecDepth 100000 in
set_option maxHeartbeats 4000000 in
theorem wPorts_ok (c : Cfg) (A1 A2 A3 A4 A5 : Option Addr) (c1 c2 c3 c4 c5 : Nat) (w : World) (hR : CfgR w w.heap.size c A1 A2 A3 A4 A5 c1 c2 c3 c4 c5) (hs : c.small) (hok : c.ok) : Calls Tryz.prog 118 #[cfgV c.frame A1 A2 A3 A4 A5 c.parts.length c.wins.length c.regs.length c.ports.length c.chans.length c1 c2 c3 c4 c5] w fun e w' => e = .returned (fltV (pFlt c)) ∧ Below w.heap.size w w' := by
  obtain ⟨W0, hW, st⟩ := St.start_any hR 29
  have HW := Lib.hid hW
  obtain ⟨W1, hW1, hk1, hb1⟩ := FltBk W0 37
  have HW1 := Lib.hid hW1
  have e0 : W0.heap.size = w.heap.size + 1 := by rw [← hW]; simp
  rw [e0] at hk1
  have HK1 := Lib.hid hk1
  have hst1 := st.up hb1
  obtain ⟨x0, x1, x2, x3, x4, x5, hz⟩ := hst1.cells
  have ST1 := Lib.hid hst1
  have hbd := hs.bd
  clear hR hW st hW1 hk1 hst1 e0
  go_enter Tryz.func118, Tryz.ntmps118
  go_upto_region 1 with (fail)
  rw [HW.out, HW1.out]
  have KEEP : ∀ V, Below W1.heap.size W1 V → (fun w' => w'.cell? ⟨w.heap.size, 0, none⟩ = some (.int .u64 c.frame) ∧ w'.cell? ⟨w.heap.size, 1, none⟩ = some (.slice A1 c.parts.length c1) ∧ w'.cell? ⟨w.heap.size, 2, none⟩ = some (.slice A2 c.wins.length c2) ∧
      w'.cell? ⟨w.heap.size, 3, none⟩ = some (.slice A3 c.regs.length c3) ∧ w'.cell? ⟨w.heap.size, 4, none⟩ = some (.slice A4 c.ports.length c4) ∧ w'.cell? ⟨w.heap.size, 5, none⟩ = some (.slice A5 c.chans.length c5)) V := fun V hV => by
    have q : ∀ b o, b < W1.heap.size → V.cell? ⟨b, o, none⟩ = W1.cell? ⟨b, o, none⟩ := fun b o h => hV.cell (p := ⟨b, o, none⟩) h
    exact ⟨(q _ _ hz).trans x0, (q _ _ hz).trans x1, (q _ _ hz).trans x2, (q _ _ hz).trans x3, (q _ _ hz).trans x4, (q _ _ hz).trans x5⟩
  have HKP := Lib.hid KEEP
  clear KEEP
  go_region_held3 (fun w' => w'.cell? ⟨w.heap.size, 0, none⟩ = some (.int .u64 c.frame) ∧ w'.cell? ⟨w.heap.size, 1, none⟩ = some (.slice A1 c.parts.length c1) ∧ w'.cell? ⟨w.heap.size, 2, none⟩ = some (.slice A2 c.wins.length c2) ∧
      w'.cell? ⟨w.heap.size, 3, none⟩ = some (.slice A3 c.regs.length c3) ∧ w'.cell? ⟨w.heap.size, 4, none⟩ = some (.slice A4 c.ports.length c4) ∧ w'.cell? ⟨w.heap.size, 5, none⟩ = some (.slice A5 c.chans.length c5))
    (first | exact HKP.out _ HBX.out | exact HKP.out _ HBW.out | exact trivial | go_keep)
    (first
      | (go_at_call 199; refine (of_ok c _ _ _ _ _ _ _ _ _ _ _ (ST1.out.up (by repeat (first | with_reducible exact Below.refl _ _ | with_reducible refine Below.drew ?_ | (with_reducible refine Below.alloc ?_ (by simp) _) | (with_reducible refine Below.setCell ?_ (by simp) _)))).R hs hok).mono ?_; rintro e w2 ⟨g, b, rfl, hc, hm, hb2, hgb⟩; have HBW := Lib.hid (Below.then_ (show Below W1.heap.size W1 _ from (by repeat (first | with_reducible exact Below.refl _ _ | with_reducible refine Below.drew ?_ | (with_reducible refine Below.alloc ?_ (by simp) _) | (with_reducible refine Below.setCell ?_ (by simp) _)))) hb2); have HC := Lib.hid hc)
      | (go_at_call 198; refine (firstPort_ok c hok hbd g b _ _ _ HC.out).mono ?_; rintro e w3 ⟨rfl, hb3⟩; have HBX := Lib.hid (Below.then_ HBW.out hb3); have hk3 := HK1.out.below HBX.out HK1.out.lt; have q0 := hk3.cell 0; have q1 := hk3.cell 1; have q2 := hk3.cell 2; have qf := hk3.frozen; simp at q0 q1 q2))
  go_wp2
  refine bodyPost_ret (v := fltV (badFlt 4 (portBad c))) (by simp [results, Tryz.results118, go_sem, q0, q1, q2]) rfl ⟨rfl, ?_⟩
  exact Below.setCell (Below.setCell (Below.setCell (ST1.out.up HBX.out).bel (by simp) _) (by simp) _) (by simp) _
set_option maxRecDepth 100000 in
set_option maxHeartbeats 4000000 in
theorem wChannels_ok (c : Cfg) (A1 A2 A3 A4 A5 : Option Addr) (c1 c2 c3 c4 c5 : Nat) (w : World) (hR : CfgR w w.heap.size c A1 A2 A3 A4 A5 c1 c2 c3 c4 c5) (hs : c.small) (hok : c.ok) : Calls Tryz.prog 119 #[cfgV c.frame A1 A2 A3 A4 A5 c.parts.length c.wins.length c.regs.length c.ports.length c.chans.length c1 c2 c3 c4 c5] w fun e w' => e = .returned (fltV (xFlt c)) ∧ Below w.heap.size w w' := by
  obtain ⟨W0, hW, st⟩ := St.start_any hR 29
  have HW := Lib.hid hW
  obtain ⟨W1, hW1, hk1, hb1⟩ := FltBk W0 37
  have HW1 := Lib.hid hW1
  have e0 : W0.heap.size = w.heap.size + 1 := by rw [← hW]; simp
  rw [e0] at hk1
  have HK1 := Lib.hid hk1
  have hst1 := st.up hb1
  obtain ⟨x0, x1, x2, x3, x4, x5, hz⟩ := hst1.cells
  have ST1 := Lib.hid hst1
  have hbd := hs.bd
  clear hR hW st hW1 hk1 hst1 e0
  go_enter Tryz.func119, Tryz.ntmps119
  go_upto_region 1 with (fail)
  rw [HW.out, HW1.out]
  have KEEP : ∀ V, Below W1.heap.size W1 V → (fun w' => w'.cell? ⟨w.heap.size, 0, none⟩ = some (.int .u64 c.frame) ∧ w'.cell? ⟨w.heap.size, 1, none⟩ = some (.slice A1 c.parts.length c1) ∧ w'.cell? ⟨w.heap.size, 2, none⟩ = some (.slice A2 c.wins.length c2) ∧
      w'.cell? ⟨w.heap.size, 3, none⟩ = some (.slice A3 c.regs.length c3) ∧ w'.cell? ⟨w.heap.size, 4, none⟩ = some (.slice A4 c.ports.length c4) ∧ w'.cell? ⟨w.heap.size, 5, none⟩ = some (.slice A5 c.chans.length c5)) V := fun V hV => by
    have q : ∀ b o, b < W1.heap.size → V.cell? ⟨b, o, none⟩ = W1.cell? ⟨b, o, none⟩ := fun b o h => hV.cell (p := ⟨b, o, none⟩) h
    exact ⟨(q _ _ hz).trans x0, (q _ _ hz).trans x1, (q _ _ hz).trans x2, (q _ _ hz).trans x3, (q _ _ hz).trans x4, (q _ _ hz).trans x5⟩
  have HKP := Lib.hid KEEP
  clear KEEP
  go_region_held3 (fun w' => w'.cell? ⟨w.heap.size, 0, none⟩ = some (.int .u64 c.frame) ∧ w'.cell? ⟨w.heap.size, 1, none⟩ = some (.slice A1 c.parts.length c1) ∧ w'.cell? ⟨w.heap.size, 2, none⟩ = some (.slice A2 c.wins.length c2) ∧
      w'.cell? ⟨w.heap.size, 3, none⟩ = some (.slice A3 c.regs.length c3) ∧ w'.cell? ⟨w.heap.size, 4, none⟩ = some (.slice A4 c.ports.length c4) ∧ w'.cell? ⟨w.heap.size, 5, none⟩ = some (.slice A5 c.chans.length c5))
    (first | exact HKP.out _ HBX.out | exact HKP.out _ HBW.out | exact trivial | go_keep)
    (first
      | (go_at_call 199; refine (of_ok c _ _ _ _ _ _ _ _ _ _ _ (ST1.out.up (by repeat (first | with_reducible exact Below.refl _ _ | with_reducible refine Below.drew ?_ | (with_reducible refine Below.alloc ?_ (by simp) _) | (with_reducible refine Below.setCell ?_ (by simp) _)))).R hs hok).mono ?_; rintro e w2 ⟨g, b, rfl, hc, hm, hb2, hgb⟩; have HBW := Lib.hid (Below.then_ (show Below W1.heap.size W1 _ from (by repeat (first | with_reducible exact Below.refl _ _ | with_reducible refine Below.drew ?_ | (with_reducible refine Below.alloc ?_ (by simp) _) | (with_reducible refine Below.setCell ?_ (by simp) _)))) hb2); have HC := Lib.hid hc; have HM := Lib.hid hm; obtain ⟨cs2, hC2, hr2⟩ := (ST1.out.up HBW.out).R.chans; have HCC := Lib.hid hC2; have HRR := Lib.hid hr2; clear hC2 hr2)
      | (go_at_call 201; refine (firstChan_ok c hok hbd g b _ _ _ _ _ HC.out HM.out cs2 HCC.out HRR.out).mono ?_; rintro e w3 ⟨rfl, hg3⟩; have HBX := Lib.hid (below_grown HBW.out hg3 HBW.out.size hgb); have hk3 := HK1.out.below HBX.out HK1.out.lt; have q0 := hk3.cell 0; have q1 := hk3.cell 1; have q2 := hk3.cell 2; have qf := hk3.frozen; simp at q0 q1 q2))
  go_wp2
  refine bodyPost_ret (v := fltV (badFlt 5 (chanBad c))) (by simp [results, Tryz.results119, go_sem, q0, q1, q2]) rfl ⟨rfl, ?_⟩
  exact Below.setCell (Below.setCell (Below.setCell (ST1.out.up HBX.out).bel (by simp) _) (by simp) _) (by simp) _
end Go.Proofs.YtpedlbjbbcbbkaaGreat
namespace Go.Proofs.YtpedlbjbbcbbkaaGreat
open Go.RowKit
attribute [local go_sem] ext_cell
theorem hasI_idx (l : List Int) (id : Int) : hasI l id = decide (0 ≤ idx (fun y => id == y) l) := by
  rcases idx_cases (fun y => id == y) l with ⟨h1, h2⟩ | ⟨k, y, h1, _, h3, _, h5⟩
  · rw [h1]
    have := List.find?_eq_none.1 h2
    rw [hasI_no (fun h => this id h (by simp))]
    rfl
  · rw [h1]
    have : y = id := (show id = y by simpa using h5).symm
    rw [contains_hit h3 this]
    simp
def CfgCh (w : World) (c : Cfg) (A5 : Option Addr) : Prop := ∃ cs, ChnsC w w.heap.size c.chans cs ∧ Rd w w.heap.size 3 A5 c.chans.length cs
theorem CfgCh.up {w w' : World} {c : Cfg} {A5 : Option Addr} (h : CfgCh w c A5) (hb : Below w.heap.size w w') : CfgCh w' c A5 := by
  obtain ⟨cs, h1, h2⟩ := h
  exact ⟨cs, (h1.keep fun _ _ hp => hb.cell hp).more hb.size, h2.up hb⟩
def chanTo (c : Cfg) (id : Int) : Option Chn := c.chans.find? (fun x => hasI x.dests id)
def fromOf (c : Cfg) (id : Int) : Int × Bool := match chanTo c id with
  | none => (0, false)
  | some x => (x.source, true)
theorem fromOf_none {c : Cfg} {id : Int} (h : chanTo c id = none) : fromOf c id = (0, false) := by unfold fromOf; rw [h]
theorem fromOf_some {c : Cfg} {id : Int} {x : Chn} (h : chanTo c id = some x) : fromOf c id = (x.source, true) := by unfold fromOf; rw [h]
theorem in18_val (l : List Int) (A : Option Addr) (cp : Nat) (id : Int) (w : World) (hl : l.length ≤ 1048576) (hP : Rd w w.heap.size 1 A l.length (l.map (Value.int .u16))) (v : Bool) (hv : Hid (hasI l id = v)) :
    Calls Tryz.prog 243 #[.slice A l.length cp, .int .u16 id] w fun e w' => e = .returned (.bool v) ∧ Below w.heap.size w w' := by
  have := in18_ok l A cp id w hl hP
  rwa [hv.out] at this
end Go.Proofs.YtpedlbjbbcbbkaaGreat
namespace Go.Proofs.YtpedlbjbbcbbkaaGreat
open Go.RowKit
attribute [local go_sem] ext_cell
/-- all ends of channels are ports -/
def wired (c : Cfg) : Prop := ∀ x ∈ c.chans, (portOf c x.source).isSome = true ∧ ∀ d ∈ x.dests, (portOf c d).isSome = true
def toB (c : Cfg) (t : Int) (l : List Int) : Bool := l.any fun d => (thePort c d).part == t
def sendsL (c : Cfg) (f t : Int) (l : List Chn) : Bool := l.any fun x => (thePort c x.source).part == f && toB c t x.dests
def sendsB (c : Cfg) (f t : Int) : Bool := sendsL c f t c.chans
theorem port_idx {c : Cfg} {id : Int} (h : (portOf c id).isSome = true) : ∃ (k : Nat), idx (fun y => y.id == id) c.ports = (k : Int) ∧ c.ports[k]? = some (thePort c id) ∧ portOf c id = some (thePort c id) := by
  rcases idx_cases (fun y => y.id == id) c.ports with ⟨_, h2⟩ | ⟨k, p, h1, hk, h3, h4, h5⟩
  · have : portOf c id = none := h2
    rw [this] at h; cases h
  · have e : portOf c id = some p := h4
    have e2 : thePort c id = p := by simp [thePort, e]
    exact ⟨k, h1, by rw [e2]; exact h3, by rw [e2]; exact e⟩
theorem sendsL_hit {c : Cfg} {f t : Int} {l : List Chn} {k : Nat} {x : Chn} (hx : l[k]? = some x) (h1 : ((thePort c x.source).part == f) = true) (h2 : toB c t x.dests = true) : sendsL c f t l = true := by
  unfold sendsL; rw [List.any_eq_true]; exact ⟨x, List.mem_of_getElem? hx, by rw [h1, h2]; rfl⟩
theorem sendsL_miss {c : Cfg} {f t : Int} {l : List Chn} {k : Nat} {x : Chn} (hx : l[k]? = some x) (h0 : sendsL c f t (l.take k) = false) (h : ((thePort c x.source).part == f && toB c t x.dests) = false) : sendsL c f t (l.take (k + 1)) = false := by
  rw [take_next hx]; unfold sendsL at h0 ⊢; rw [List.any_append, h0, List.any_cons, h]; rfl
theorem toB_hit {c : Cfg} {t : Int} {l : List Int} {k : Nat} {d : Int} (hx : l[k]? = some d) (h1 : ((thePort c d).part == t) = true) : toB c t l = true := by
  unfold toB; rw [List.any_eq_true]; exact ⟨d, List.mem_of_getElem? hx, h1⟩
theorem toB_miss {c : Cfg} {t : Int} {l : List Int} {k : Nat} {d : Int} (hx : l[k]? = some d) (h0 : toB c t (l.take k) = false) (h1 : ((thePort c d).part == t) = false) : toB c t (l.take (k + 1)) = false := by
  rw [take_next hx]; unfold toB at h0 ⊢; rw [List.any_append, h0, List.any_cons, h1]; rfl
end Go.Proofs.YtpedlbjbbcbbkaaGreat
namespace Go.Proofs.YtpedlbjbbcbbkaaGreat
open Go.RowKit Go.Lib
/-- what the checks say of a right configuration -/
theorem bad_none {l : List Int} {i : Nat} (h : (bad i l).1 = 0) : ∀ e ∈ l, e = 0 := (bad_zero l i).1 h
theorem right_parts {c : Cfg} (h : rightB c = true) : uniqueB c = true ∧ (portBad c).1 = 0 ∧ (rChanBad c).1 = 0 := by
  unfold rightB at h
  simp only [Bool.and_eq_true, decide_eq_true_eq] at h
  exact ⟨h.1.1, h.1.2, h.2⟩
theorem unique_parts {c : Cfg} (h : uniqueB c = true) : (c.parts.map (·.id)).Nodup ∧ (c.ports.map (·.id)).Nodup ∧ (c.chans.map (·.id)).Nodup := of_decide_eq_true h
theorem port_known {c : Cfg} (h : (portBad c).1 = 0) : ∀ p ∈ c.ports, 0 ≤ idx (fun y => y.id == p.part) c.parts ∧ p.size ≠ 0 := by
  intro p hp
  have := bad_none h (portCode c p) (List.mem_map.2 ⟨p, hp, rfl⟩)
  unfold portCode at this
  split at this
  · cases this
  · split at this
    · cases this
    · exact ⟨by omega, by assumption⟩
theorem rChans_ok {c : Cfg} : ∀ (r : List Chn) (i : Nat), (rChans c i r).1 = 0 → ∀ (k : Nat) (x : Chn), r[k]? = some x → rChan c (i + k) x = 0
  | [], _, _, k, x, hx => by simp at hx
  | y :: r, i, h, k, x, hx => by
    unfold rChans at h
    by_cases h0 : rChan c i y = 0
    · rw [if_pos h0] at h
      cases k with
      | zero => simp at hx; subst hx; simpa using h0
      | succ k =>
        have := rChans_ok r (i + 1) h k x (by simpa using hx)
        rwa [show i + 1 + k = i + (k + 1) from by omega] at this
    · rw [if_neg h0] at h; exact absurd h h0
theorem rDests_ok {c : Cfg} {i : Nat} {x : Chn} : ∀ (r : List Int) (k : Nat), rDests c i x k r = 0 → ∀ (m : Nat) (d : Int), r[m]? = some d → rDest c i x (k + m) d = 0
  | [], _, _, m, d, hd => by simp at hd
  | e :: r, k, h, m, d, hd => by
    unfold rDests at h
    by_cases h0 : rDest c i x k e = 0
    · rw [if_pos h0] at h
      cases m with
      | zero => simp at hd; subst hd; simpa using h0
      | succ m =>
        have := rDests_ok r (k + 1) h m d (by simpa using hd)
        rwa [show k + 1 + m = k + (m + 1) from by omega] at this
    · rw [if_neg h0] at h; exact absurd h h0
/-- a right channel: its source is an output, its destinations are inputs of the same kind, none is used before -/
structure GoodCh (c : Cfg) (i : Nat) (x : Chn) : Prop where
  src : ∃ s, portOf c x.source = some s ∧ s.output = true
  fresh : usesL (c.chans.take i) x.source = false
  some_ : x.dests ≠ []
  dst : ∀ (k : Nat) (d : Int), x.dests[k]? = some d → ∃ p, portOf c d = some p ∧ p.output = false ∧ sameKind (thePort c x.source) p = true ∧ usesL (c.chans.take i) d = false ∧ d ∉ x.dests.take k
theorem rChan_good {c : Cfg} {i : Nat} {x : Chn} (h : rChan c i x = 0) : GoodCh c i x := by
  unfold rChan at h
  rcases hs : portOf c x.source with _ | s
  · rw [hs] at h; cases h
  · rw [hs] at h
    simp only at h
    cases ho : s.output with
    | false => rw [ho] at h; simp at h
    | true =>
      rw [ho] at h
      simp only [if_true] at h
      by_cases hu : usesL (c.chans.take i) x.source = true
      · rw [if_pos hu] at h; cases h
      · rw [if_neg hu] at h
        by_cases hd : x.dests = []
        · rw [if_pos hd] at h; cases h
        · rw [if_neg hd] at h
          refine ⟨⟨s, hs, ho⟩, Bool.eq_false_iff.2 hu, hd, fun k d hk => ?_⟩
          have h2 := rDests_ok x.dests 0 h k d hk
          rw [Nat.zero_add] at h2
          unfold rDest at h2
          rcases hp : portOf c d with _ | p
          · rw [hp] at h2; cases h2
          · rw [hp] at h2
            simp only at h2
            cases hpo : p.output with
            | true => rw [hpo] at h2; simp at h2
            | false =>
              rw [hpo] at h2
              simp only [Bool.false_eq_true, if_false] at h2
              by_cases hk2 : sameKind (thePort c x.source) p = true
              · rw [if_pos hk2] at h2
                split at h2
                · cases h2
                · rename_i hn
                  have hid := portOf_id hp
                  rw [hid] at hn
                  simp only [Bool.or_eq_true, not_or] at hn
                  exact ⟨p, rfl, hpo, hk2, Bool.eq_false_iff.2 hn.1, fun hm => hn.2 (List.contains_iff_mem.2 hm)⟩
              · rw [if_neg hk2] at h2; cases h2
theorem right_good {c : Cfg} (h : (rChanBad c).1 = 0) {i : Nat} {x : Chn} (hx : c.chans[i]? = some x) : GoodCh c i x := by
  have := rChans_ok c.chans 0 h i x hx
  rw [Nat.zero_add] at this
  exact rChan_good this
theorem right_wired {c : Cfg} (h : rightB c = true) : wired c := by
  obtain ⟨_, _, h3⟩ := right_parts h
  intro x hx
  obtain ⟨i, hi⟩ := List.mem_iff_getElem?.1 hx
  have g := right_good h3 hi
  obtain ⟨s, hs, _⟩ := g.src
  refine ⟨by rw [hs]; rfl, fun d hd => ?_⟩
  obtain ⟨k, hk⟩ := List.mem_iff_getElem?.1 hd
  obtain ⟨p, hp, _⟩ := g.dst k d hk
  rw [hp]; rfl
end Go.Proofs.YtpedlbjbbcbbkaaGreat
namespace Go.Proofs.YtpedlbjbbcbbkaaGreat
open Go.RowKit
attribute [local go_sem] ext_cell
theorem info_int : (Tryz.prog.info? 3).map (fun i => (i.zero, i.size, i.bytes)) = some (some (.int .i64 0), 1, 8) := by kernel_rfl
theorem info_ints : (Tryz.prog.info? 121).map (fun i => (i.zero, i.size, i.bytes)) = some (some (.slice none 0 0), 1, 24) := by kernel_rfl
/-- rows of numbers, each in memory of the call's own -/
def OwnRs (w : World) (base : Nat) (rows : List (List Int)) (vs : List Value) : Prop := vs.length = rows.length ∧ ∀ (i : Nat) (l : List Int) (v : Value), rows[i]? = some l → vs[i]? = some v → w.ownsRow base 3 1 v l.length (l.map (Value.int .i64))
def MatO (w : World) (base : Nat) (v : Value) (rows : List (List Int)) : Prop := ∃ vs, w.ownsRow base 121 1 v rows.length vs ∧ OwnRs w base rows vs
theorem own_less {w : World} {b b' : Nat} {e : TypeId} {size n : Nat} {v : Value} {xs : List Value} (h : w.ownsRow b e size v n xs) (hb : b' ≤ b) : w.ownsRow b' e size v n xs := by
  refine ⟨h.1, ?_⟩
  rcases h.2 with h2 | ⟨g, cap, cur, rfl, hg, r⟩
  · exact .inl h2
  · exact .inr ⟨g, cap, cur, rfl, by omega, r⟩
theorem OwnRs.keep {w w' : World} {b b' : Nat} {rows : List (List Int)} {vs : List Value} (h : OwnRs w b rows vs) (hk : ∀ v n xs, w.ownsRow b 3 1 v n xs → w'.ownsRow b' 3 1 v n xs) : OwnRs w' b' rows vs :=
  ⟨h.1, fun i l v h1 h2 => hk _ _ _ (h.2 i l v h1 h2)⟩
theorem OwnRs.snoc {w : World} {b : Nat} {rows : List (List Int)} {vs : List Value} {l : List Int} {v : Value} (h : OwnRs w b rows vs) (ho : w.ownsRow b 3 1 v l.length (l.map (Value.int .i64))) : OwnRs w b (rows ++ [l]) (vs ++ [v]) := by
  refine ⟨by simp [h.1], fun i l' v' h1 h2 => ?_⟩
  rcases Nat.lt_or_ge i rows.length with hi | hi
  · rw [List.getElem?_append_left hi] at h1
    rw [List.getElem?_append_left (by rw [h.1]; exact hi)] at h2
    exact h.2 i l' v' h1 h2
  · rw [List.getElem?_append_right hi] at h1
    rw [List.getElem?_append_right (by rw [h.1]; exact hi), h.1] at h2
    rcases Nat.eq_zero_or_pos (i - rows.length) with h0 | h0
    · rw [h0] at h1 h2
      simp at h1 h2
      subst h1 h2
      exact ho
    · rw [List.getElem?_eq_none (by simp; omega)] at h1
      cases h1
theorem MatO.below {w w' : World} {b : Nat} {v : Value} {rows : List (List Int)} (h : MatO w b v rows) (hb : Below w.heap.size w w') : MatO w' b v rows := by
  obtain ⟨vs, h1, h2⟩ := h
  exact ⟨vs, own_below h1 hb, h2.keep fun _ _ _ h => own_below h hb⟩
def pid (c : Cfg) (i : Nat) : Int := ((c.parts.map (·.id))[i]?).getD 0
def rowTo (c : Cfg) (i m : Nat) : List Int := ((List.range m).filter (fun k => sendsB c (pid c i) (pid c k))).map (fun k : Nat => (k : Int))
def matTo (c : Cfg) (i : Nat) : List (List Int) := (List.range i).map fun j => rowTo c j c.parts.length
def matRows (c : Cfg) : List (List Int) := matTo c c.parts.length
theorem pid_at {c : Cfg} {i : Nat} {x : Par} (h : c.parts[i]? = some x) : pid c i = x.id := by simp [pid, h]
theorem rowTo_yes {c : Cfg} {i m : Nat} (h : sendsB c (pid c i) (pid c m) = true) : rowTo c i (m + 1) = rowTo c i m ++ [(m : Int)] := by
  unfold rowTo; rw [List.range_succ, List.filter_append]; simp [h]
theorem rowTo_no {c : Cfg} {i m : Nat} (h : sendsB c (pid c i) (pid c m) = false) : rowTo c i (m + 1) = rowTo c i m := by
  unfold rowTo; rw [List.range_succ, List.filter_append]; simp [h]
theorem rowTo_len (c : Cfg) (i m : Nat) : (rowTo c i m).length ≤ m := by
  unfold rowTo; rw [List.length_map]; exact Nat.le_trans (List.length_filter_le _ _) (by simp)
theorem matTo_next (c : Cfg) (i : Nat) : matTo c (i + 1) = matTo c i ++ [rowTo c i c.parts.length] := by
  unfold matTo; rw [List.range_succ, List.map_append]; rfl
theorem matTo_len (c : Cfg) (i : Nat) : (matTo c i).length = i := by simp [matTo]
theorem one_slice (w : World) (A : Option Addr) (n cp : Nat) (t : TypeId) : Rd (w.alloc (.cells #[.slice A n cp] t)) (w.alloc (.cells #[.slice A n cp] t)).heap.size 1 (some ⟨w.heap.size, 0, none⟩) 1 [.slice A n cp] := by
  refine ⟨rfl, fun _ => ⟨_, _, rfl, by simp, fun j u hu => ?_⟩⟩
  have := World.news_of_block (heap_alloc_new w (.cells #[.slice A n cp] t)) j u (by simpa using hu)
  rwa [addr_add] at this
end Go.Proofs.YtpedlbjbbcbbkaaGreat
namespace Go.Proofs.YtpedlbjbbcbbkaaGreat
open Go.RowKit
/-- a slice of slices reads as rows -/
def RowsR (w : World) (A : Option Addr) (rows : List (List Int)) : Prop := ∃ vs, Rd w w.heap.size 1 A rows.length vs ∧ ∀ (i : Nat) (l : List Int) (v : Value), rows[i]? = some l → vs[i]? = some v → ∃ A' c', v = .slice A' l.length c' ∧ Rd w w.heap.size 1 A' l.length (l.map (Value.int .i64))
theorem RowsR.up {w w' : World} {A : Option Addr} {rows : List (List Int)} (h : RowsR w A rows) (hb : Below w.heap.size w w') : RowsR w' A rows := by
  obtain ⟨vs, h1, h2⟩ := h
  refine ⟨vs, h1.up hb, fun i l v e1 e2 => ?_⟩
  obtain ⟨A', c', e, hr⟩ := h2 i l v e1 e2
  exact ⟨A', c', e, hr.up hb⟩
theorem MatO.reads {w : World} {b : Nat} {v : Value} {rows : List (List Int)} (h : MatO w b v rows) : ∃ A c, v = .slice A rows.length c ∧ RowsR w A rows := by
  obtain ⟨vs, h1, h2⟩ := h
  obtain ⟨A, c, e, _, _, hr⟩ := own_form h1
  refine ⟨A, c, e, vs, hr, fun i l v e1 e2 => ?_⟩
  obtain ⟨A', c', e', _, _, hr'⟩ := own_form (h2.2 i l v e1 e2)
  exact ⟨A', c', e', hr'⟩
theorem RowsR.row {w : World} {A : Option Addr} {rows : List (List Int)} (h : RowsR w A rows) {i : Nat} {l : List Int} (hi : rows[i]? = some l) :
    ∃ b o A' c', A = some ⟨b, o, none⟩ ∧ b < w.heap.size ∧ w.cell? ⟨b, o + i, none⟩ = some (.slice A' l.length c') ∧ Rd w w.heap.size 1 A' l.length (l.map (Value.int .i64)) := by
  obtain ⟨vs, h1, h2⟩ := h
  have hlt : i < rows.length := (List.getElem?_eq_some_iff.1 hi).1
  have hvl := h1.1
  obtain ⟨v, hv⟩ : ∃ v, vs[i]? = some v := ⟨_, List.getElem?_eq_getElem (by omega)⟩
  obtain ⟨A', c', rfl, hr⟩ := h2 i l v hi hv
  obtain ⟨b, o, rfl, hb, hc⟩ := h1.2 (by omega)
  exact ⟨b, o, A', c', rfl, hb, hc i _ hv, hr⟩
/-- the cells of a partition, boxed -/
def PaBox (w : World) (g : Nat) (x : Par) : Prop := w.cell? ⟨g, 0, none⟩ = some (.int .u16 x.id) ∧ w.cell? ⟨g, 1, none⟩ = some (.string x.name) ∧ w.cell? ⟨g, 2, none⟩ = some (.int .u64 x.period) ∧ w.cell? ⟨g, 3, none⟩ = some (.int .u64 x.duration) ∧ g < w.heap.size
theorem PaBox.up {w w' : World} {g : Nat} {x : Par} (h : PaBox w g x) (hb : Below w.heap.size w w') : PaBox w' g x := by
  obtain ⟨h0, h1, h2, h3, hg⟩ := h
  have q : ∀ j, w'.cell? ⟨g, j, none⟩ = w.cell? ⟨g, j, none⟩ := fun j => hb.cell (p := ⟨g, j, none⟩) hg
  exact ⟨(q 0).trans h0, (q 1).trans h1, (q 2).trans h2, (q 3).trans h3, Nat.lt_of_lt_of_le hg hb.size⟩
theorem PaBox.new (w : World) (x : Par) (t : TypeId) : ∃ W, w.alloc (.cells #[.int .u16 x.id, .string x.name, .int .u64 x.period, .int .u64 x.duration] t) = W ∧ PaBox W w.heap.size x ∧ Below w.heap.size w W :=
  ⟨_, rfl, ⟨by simp, by simp, by simp, by simp, by simp⟩, below_one _ _⟩
end Go.Proofs.YtpedlbjbbcbbkaaGreat
