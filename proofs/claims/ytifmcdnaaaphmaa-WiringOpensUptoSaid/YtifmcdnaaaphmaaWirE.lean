/-
  What the method end of the checker of package wiring computes, walked once: at a source, at a destination.
-/
import Derived.Test.YtifmcdnaaaphmaaWirP
namespace Go.Proofs.Ytifmcdnaaaphmaa
open Go.RowKit
open Go.Maps (Keyed)
attribute [local go_sem] ext_cell
@[reducible] def prtV (p : Prt) : Value := .agg #[.int .u16 p.id, .int .u16 p.part, .string p.name, .bool p.output, .bool p.queuing, .int .u32 p.size]
set_option maxRecDepth 100000 in
set_option maxHeartbeats 1000000 in
theorem fitAny_ok (a0 a1 a2 a3 a4 a5 : Value) (w : World) : Calls Try.prog 58 #[.agg #[a0, a1, a2, a3, a4, a5]] w fun e w' => e = .returned (.bool true) ∧ Below w.heap.size w w' := by
  go_enter Try.func58, Try.ntmps58
  go_wp2
  go_ret
  exact ⟨rfl, below_one _ _⟩
set_option maxRecDepth 100000 in
set_option maxHeartbeats 1000000 in
theorem fitSame_ok (p s : Prt) (o : Bool) (g : Nat) (w : World) (hg : PtBox w g s) (v : Bool) (hv : Hid (sameKind s p = v)) : Calls Try.prog 59 #[.agg #[.int .u16 p.id, .int .u16 p.part, .string p.name, .bool o, .bool p.queuing, .int .u32 p.size], .pointer (some ⟨g, 0, none⟩)] w fun e w' => e = .returned (.bool v) ∧ Below w.heap.size w w' := by
  obtain ⟨z0, z1, z2, z3, z4, z5, hz⟩ := hg
  rw [← hv.out]
  by_cases hq : p.queuing = s.queuing
  · by_cases hz2 : p.size = s.size
    · have HV := Lib.hid (sameKind_y hq hz2)
      have HQ := Lib.hid hq
      have h2 : (p.size == s.size) = true := by simp [hz2]
      clear hq hz2 hv
      go_enter Try.func59, Try.ntmps59
      go_wp2
      all_goals first | (exfalso; exact ‹¬ p.queuing = s.queuing› HQ.out) | (go_ret; exact ⟨ret_bool (by rw [HV.out]), below_one _ _⟩)
    · have HV := Lib.hid (sameKind_s hz2)
      have HQ := Lib.hid hq
      have h2 : (p.size == s.size) = false := by simp [hz2]
      clear hq hz2 hv
      go_enter Try.func59, Try.ntmps59
      go_wp2
      all_goals first | (exfalso; exact ‹¬ p.queuing = s.queuing› HQ.out) | (go_ret; exact ⟨ret_bool (by rw [HV.out]), below_one _ _⟩)
  · have HV := Lib.hid (sameKind_q hq)
    have HQ := Lib.hid hq
    clear hq hv
    go_enter Try.func59, Try.ntmps59
    go_wp2
    all_goals first | (exfalso; exact HQ.out ‹p.queuing = s.queuing›) | (go_ret; exact ⟨ret_bool (by rw [HV.out]), below_one _ _⟩)
def endUsed (c : Cfg) (u : List Int) (id : Int) (out : Bool) (fit : Prt → Bool) : List Int := if endCode c u id out fit = 0 then u ++ [id] else u
theorem endUsed_ne {c : Cfg} {u : List Int} {id : Int} {out : Bool} {fit : Prt → Bool} (h : endCode c u id out fit ≠ 0) : endUsed c u id out fit = u := if_neg h
theorem endUsed_0 {c : Cfg} {u : List Int} {id : Int} {out : Bool} {fit : Prt → Bool} (h : endCode c u id out fit = 0) : endUsed c u id out fit = u ++ [id] := if_pos h
theorem MapIs.far {α β : Type} {w : World} {P : Program} {K : TypeId} {key : α → Value} {val : β → Value} {b : Nat} {es : List (α × β)} (h : MapIs w P K key val b es) {p : Addr} (hp : b ≠ p.block) (u : Value) : MapIs (w.setCell p u) P K key val b es :=
  h.block (Below.heap_setCell w p u b hp)
theorem MapIs.far6 {α β : Type} {w : World} {P : Program} {K : TypeId} {key : α → Value} {val : β → Value} {b g : Nat} {es : List (α × β)} (h : MapIs w P K key val b es) (hp : b ≠ g) {o0 o1 o2 o3 o4 o5 : Nat} {u0 u1 u2 u3 u4 u5 : Value} :
    MapIs ((((((w.setCell ⟨g, o0, none⟩ u0).setCell ⟨g, o1, none⟩ u1).setCell ⟨g, o2, none⟩ u2).setCell ⟨g, o3, none⟩ u3).setCell ⟨g, o4, none⟩ u4).setCell ⟨g, o5, none⟩ u5) P K key val b es :=
  (((((h.far hp u0).far hp u1).far hp u2).far hp u3).far hp u4).far hp u5
theorem grown_far {a w : World} {g b : Nat} (h : a.grownBy w (some b)) (hg : a.heap.size ≤ g) (o : Nat) (u : Value) : a.grownBy (w.setCell ⟨g, o, none⟩ u) (some b) :=
  ⟨h.os, h.tape, h.output, by simpa [World.setCell] using h.size, fun i hi hne => (Below.heap_setCell w ⟨g, o, none⟩ u i (by show i ≠ g; omega)).trans (h.block i hi hne)⟩
theorem grown_far6 {a w : World} {g b : Nat} (h : a.grownBy w (some b)) (hg : a.heap.size ≤ g) {o0 o1 o2 o3 o4 o5 : Nat} {u0 u1 u2 u3 u4 u5 : Value} :
    a.grownBy ((((((w.setCell ⟨g, o0, none⟩ u0).setCell ⟨g, o1, none⟩ u1).setCell ⟨g, o2, none⟩ u2).setCell ⟨g, o3, none⟩ u3).setCell ⟨g, o4, none⟩ u4).setCell ⟨g, o5, none⟩ u5) (some b) :=
  grown_far (grown_far (grown_far (grown_far (grown_far (grown_far h hg _ _) hg _ _) hg _ _) hg _ _) hg _ _) hg _ _

theorem endS_25 {c : Cfg} {u : List Int} {id : Int} {p : Prt}  (h : portOf c id = some p) (ho : p.output = false) : endCode c u id true anyPort = 25 := by simp [endCode, h, ho]
theorem endS_26 {c : Cfg} {u : List Int} {id : Int} {p : Prt}  (h : portOf c id = some p) (ho : p.output = true) (hf : anyPort p = false) : endCode c u id true anyPort = 26 := by simp [endCode, h, ho, hf]
theorem endS_27 {c : Cfg} {u : List Int} {id : Int} {p : Prt}  (h : portOf c id = some p) (ho : p.output = true) (hf : anyPort p = true) (hu : id ∈ u) : endCode c u id true anyPort = 27 := by simp [endCode, h, ho, hf, hu]
theorem endS_0 {c : Cfg} {u : List Int} {id : Int} {p : Prt}  (h : portOf c id = some p) (ho : p.output = true) (hf : anyPort p = true) (hu : id ∉ u) : endCode c u id true anyPort = 0 := by simp [endCode, h, ho, hf, hu]
set_option maxRecDepth 100000 in
set_option maxHeartbeats 4000000 in
theorem endS_ok (c : Cfg) (g b : Nat) (A4 : Option Addr) (c4 : Nat) (w : World) (h : ChkAt w w.heap.size g b c A4 c4) (hbd : c.Bd) (u : List Int) (hm : MapIs w Try.prog 38 kU vB b (usedL u)) (hn : u.Nodup) (id : Int) (hid : wU16 id)  :
    Calls Try.prog 57 #[.pointer (some ⟨g, 0, none⟩), .int .u16 id, .bool true, .func (.func 58) #[] #[]] w fun e w' => e = .returned (.tuple #[prtV (thePort c id), .int .i64 (endCode c u id true anyPort)]) ∧
      MapIs w' Try.prog 38 kU vB b (usedL (endUsed c u id true anyPort)) ∧ w.grownBy w' (some b) := by
  obtain ⟨W0, hW, hk0, hb0⟩ : ∃ W, w.alloc (.cells #[.int .u16 0, .int .u16 0, .string ⟨#[]⟩, .bool false, .bool false, .int .u32 0] 43) = W ∧ Blk W w.heap.size 43 #[.int .u16 0, .int .u16 0, .string ⟨#[]⟩, .bool false, .bool false, .int .u32 0] ∧ Below w.heap.size w W := ⟨_, rfl, Blk.new _ _ _, below_one _ _⟩
  have HW := Lib.hid hW
  have HB0 := Lib.hid hb0
  have HK0 := Lib.hid hk0
  have hc0 := h.up hb0
  have HC0 := Lib.hid hc0
  have HM := Lib.hid hm
  have HN := Lib.hid hn
  have bt := hbd.t
  have hbl := h.bl
  obtain ⟨gi, k6, hI⟩ := hc0.idx (Nat.le_refl _)
  have HI := Lib.hid hI
  have hgl := hc0.lt
  clear hW hb0 hk0 hc0 hm hn hbd h hI
  rcases idx_cases (fun y => y.id == id) c.ports with ⟨h1, h2⟩ | ⟨ks, p, h1, hkd, h3, h4, h5⟩
  · have HX := Lib.hid h1
    have HV := Lib.hid (show endCode c u id true anyPort = 19 by unfold endCode; rw [show portOf c id = none from h2])
    have HT := Lib.hid (show thePort c id = noPrt by unfold thePort; rw [show portOf c id = none from h2]; rfl)
    clear h1 h2
    go_enter Try.func57, Try.ntmps57
    go_upto_region 1 with (fail)
    rw [HW.out]
    go_wp2_with fail
    refine (iPort_val c gi id _ HI.out hid (-1) HX).mono ?_
    rintro e w2 ⟨rfl, hb2⟩
    have hk := HK0.out.below hb2 HK0.out.lt
    have q0 := hk.cell 0
    have q1 := hk.cell 1
    have q2 := hk.cell 2
    have q3 := hk.cell 3
    have q4 := hk.cell 4
    have q5 := hk.cell 5
    have qf := hk.frozen
    have HK := Lib.hid hk
    have HB2 := Lib.hid (Below.then_ HB0.out hb2)
    simp at q0 q1 q2 q3 q4 q5
    clear hk hb2
    go_wp2
    refine bodyPost_ret (v := .tuple #[prtV noPrt, .int .i64 19]) (by simp [results, Try.results57, go_sem, noPrt, q0, q1, q2, q3, q4, q5, qf]) rfl ⟨by rw [HT.out, HV.out], ?_, ?_⟩
    · rw [endUsed_ne (by rw [HV.out]; decide)]
      exact HM.out.below (by (repeat (first | with_reducible exact HB2.out | with_reducible exact Below.refl _ _ | with_reducible refine Below.drew ?_ | (with_reducible refine Below.setCell ?_ (by simp) _) | (with_reducible refine Below.alloc ?_ (by have hq := HB2.out.size; simp; omega) _)))) hbl
    · exact grown_of_below (by (repeat (first | with_reducible exact HB2.out | with_reducible exact Below.refl _ _ | with_reducible refine Below.drew ?_ | (with_reducible refine Below.setCell ?_ (by simp) _) | (with_reducible refine Below.alloc ?_ (by have hq := HB2.out.size; simp; omega) _)))) _
  · have HX := Lib.hid h1
    have HPS := Lib.hid h3
    have HF := Lib.hid (show portOf c id = some p from h4)
    have HT := Lib.hid (show thePort c id = p by simp [thePort, show portOf c id = some p from h4])
    clear h1 h3 h4 h5
    have m0 : (0 : Int) ≤ (ks : Int) := by omega
    have m1 : (ks : Int) < (c.ports.length : Int) := by omega
    have mneg : decide ((ks : Int) < 0) = false := decide_eq_false (by omega)
    go_enter Try.func57, Try.ntmps57
    go_upto_region 1 with (fail)
    rw [HW.out]
    go_wp2_with fail
    refine (iPort_val c gi id _ HI.out hid ks HX).mono ?_
    rintro e w2 ⟨rfl, hb2⟩
    have hk := HK0.out.below hb2 HK0.out.lt
    have hc2 := HC0.out.up hb2
    have HC2 := Lib.hid hc2
    have HK2 := Lib.hid hk
    have HB2 := Lib.hid (Below.then_ HB0.out hb2)
    have HB2a := Lib.hid hb2
    have q4 := hc2.p4
    have hgl2 := hc2.lt
    obtain ⟨bp, op, rfl, hbq, p0, p1, p2, p3, p4, p5⟩ := prt_at hc2.rd HPS.out
    clear hk hb2 hc2
    go_upto_region 5 with (fail)
    obtain ⟨W3, hW3, pb3, hb3⟩ := PtBox.new w2 p 43
    rw [hW3]
    have hk3 := HK2.out.below hb3 HK2.out.lt
    have HP3 := Lib.hid pb3
    have HC3 := Lib.hid (HC2.out.up hb3)
    have HB3 := Lib.hid (Below.then_ HB2.out hb3)
    have HB3a := Lib.hid hb3
    obtain ⟨z0, z1, z2, z3, z4, z5, hz⟩ := pb3
    have q0 := hk3.cell 0
    have q1 := hk3.cell 1
    have q2 := hk3.cell 2
    have q3 := hk3.cell 3
    have q5 := hk3.cell 4
    have q6 := hk3.cell 5
    have qf := hk3.frozen
    have HK3 := Lib.hid hk3
    simp at q0 q1 q2 q3 q5 q6
    clear p0 p1 p2 p3 p4 p5 hW3 hb3 hk3 q4 k6
    rcases Bool.eq_false_or_eq_true p.output with hpo | hpo
    · have HPO := Lib.hid hpo
      go_wp2_with fail
      refine (fitAny_ok _ _ _ _ _ _ _).mono ?_
      rintro e w4 ⟨rfl, hb4⟩
      have hk4 := HK3.out.below hb4 HK3.out.lt
      have hp4 := HP3.out.up hb4
      have hc4 := HC3.out.up hb4
      have HB4 := Lib.hid (Below.then_ HB3.out hb4)
      have hm4 := HM.out.below HB4.out hbl
      have q7 := hc4.mp
      have hgl4 := hc4.lt
      have HK4 := Lib.hid hk4
      have HP4 := Lib.hid hp4
      have HM4 := Lib.hid hm4
      clear q0 q1 q2 q3 q5 q6 qf z0 z1 z2 z3 z4 z5 hz hb4
      obtain ⟨z0, z1, z2, z3, z4, z5, hz⟩ := hp4
      have q0 := hk4.cell 0
      have q1 := hk4.cell 1
      have q2 := hk4.cell 2
      have q3 := hk4.cell 3
      have q5 := hk4.cell 4
      have q6 := hk4.cell 5
      have qf := hk4.frozen
      simp at q0 q1 q2 q3 q5 q6
      obtain ⟨l, hl⟩ := keyU hid
      by_cases hmem : id ∈ u
      · have HV := Lib.hid (endS_27 HF.out HPO.out rfl hmem)
        have hgv : getv (usedL u) id = some true := by rw [usedL_get, if_pos hmem]
        rcases hm4.look lawU Try.underlying75 (zeroBool _) kU_inj (by rw [usedL_keys]; exact HN.out) hl with ⟨h1, _⟩ | ⟨v, h1, hr⟩
        · rw [hgv] at h1; cases h1
        · obtain rfl : v = true := by rw [hgv] at h1; injection h1 with h1; exact h1.symm
          have hr1 := hr false
          simp only [Bool.false_eq_true, if_false, kU, vB] at hr1
          clear hr h1 hgv hm4 hl hk4 hc4
          go_wp2
          refine bodyPost_ret (v := .tuple #[prtV p, .int .i64 27]) (by simp [results, Try.results57, go_sem, HPO.out, q0, q1, q2, q3, q5, q6, qf]) rfl ⟨by rw [HT.out, HV.out], ?_, ?_⟩
          · rw [endUsed_ne (by rw [HV.out]; decide)]
            exact HM.out.below (by (repeat (first | with_reducible exact HB4.out | with_reducible exact Below.refl _ _ | with_reducible refine Below.drew ?_ | (with_reducible refine Below.setCell ?_ (by simp) _) | (with_reducible refine Below.alloc ?_ (by have hq := HB4.out.size; simp; omega) _)))) hbl
          · exact grown_of_below (by (repeat (first | with_reducible exact HB4.out | with_reducible exact Below.refl _ _ | with_reducible refine Below.drew ?_ | (with_reducible refine Below.setCell ?_ (by simp) _) | (with_reducible refine Below.alloc ?_ (by have hq := HB4.out.size; simp; omega) _)))) _
      · have HV := Lib.hid (endS_0 HF.out HPO.out rfl hmem)
        have hgv : getv (usedL u) id = none := by rw [usedL_get, if_neg hmem]
        rcases hm4.look lawU Try.underlying75 (zeroBool _) kU_inj (by rw [usedL_keys]; exact HN.out) hl with ⟨h1, hr⟩ | ⟨v, h1, hr⟩
        · have hr1 := hr false
          obtain ⟨w5, hput, hm5, hg5, hs5⟩ := hm4.put lawU Try.underlying75 hl kU_inj hgv true
          simp only [Bool.false_eq_true, if_false, kU, vB] at hr1 hput
          have HM5 := Lib.hid hm5
          have HG5 := Lib.hid hg5
          have hk5 : Blk w5 w.heap.size 43 #[.int .u16 0, .int .u16 0, .string ⟨#[]⟩, .bool false, .bool false, .int .u32 0] := (hg5.block _ hk4.lt (fun e => by injection e with e; omega)).trans hk4
          have b0 := hk5.cell 0
          have b1 := hk5.cell 1
          have b2 := hk5.cell 2
          have b3 := hk5.cell 3
          have b5 := hk5.cell 4
          have b6 := hk5.cell 5
          have bf := hk5.frozen
          simp at b0 b1 b2 b3 b5 b6
          have hzb : w2.heap.size ≠ b := by have h1 := HB2.out.size; omega
          have t0 : w5.cell? ⟨w2.heap.size, 0, none⟩ = some (.int .u16 p.id) := (grown_cell hg5 hz hzb).trans z0
          have t1 : w5.cell? ⟨w2.heap.size, 1, none⟩ = some (.int .u16 p.part) := (grown_cell hg5 hz hzb).trans z1
          have t2 : w5.cell? ⟨w2.heap.size, 2, none⟩ = some (.string p.name) := (grown_cell hg5 hz hzb).trans z2
          have t3 : w5.cell? ⟨w2.heap.size, 3, none⟩ = some (.bool p.output) := (grown_cell hg5 hz hzb).trans z3
          have t4 : w5.cell? ⟨w2.heap.size, 4, none⟩ = some (.bool p.queuing) := (grown_cell hg5 hz hzb).trans z4
          have t5 : w5.cell? ⟨w2.heap.size, 5, none⟩ = some (.int .u32 p.size) := (grown_cell hg5 hz hzb).trans z5
          clear hr h1 hgv hm4 hl hk4 hc4 hm5 hg5 hk5 q0 q1 q2 q3 q5 q6 qf
          go_wp2
          refine bodyPost_ret (v := .tuple #[prtV p, .int .i64 0]) (by simp [results, Try.results57, go_sem, HPO.out, b0, b1, b2, b3, b5, b6, bf]) rfl ⟨by rw [HT.out, HV.out], ?_, ?_⟩
          · rw [endUsed_0 HV.out]
            have e : usedL (u ++ [id]) = usedL u ++ [(id, true)] := by simp [usedL]
            rw [e]
            exact MapIs.far6 HM5.out (by omega)
          · exact grown_far6 ((grown_of_below HB4.out (some b)).trans HG5.out) (Nat.le_refl _)
        · rw [hgv] at h1; cases h1
    · have HV := Lib.hid (endS_25 (u := u) HF.out hpo)
      have HPO := Lib.hid hpo
      go_wp2
      refine bodyPost_ret (v := .tuple #[prtV p, .int .i64 25]) (by simp [results, Try.results57, go_sem, HPO.out, q0, q1, q2, q3, q5, q6, qf]) rfl ⟨by rw [HT.out, HV.out], ?_, ?_⟩
      · rw [endUsed_ne (by rw [HV.out]; decide)]
        exact HM.out.below (by (repeat (first | with_reducible exact HB3.out | with_reducible exact Below.refl _ _ | with_reducible refine Below.drew ?_ | (with_reducible refine Below.setCell ?_ (by simp) _) | (with_reducible refine Below.alloc ?_ (by have hq := HB3.out.size; simp; omega) _)))) hbl
      · exact grown_of_below (by (repeat (first | with_reducible exact HB3.out | with_reducible exact Below.refl _ _ | with_reducible refine Below.drew ?_ | (with_reducible refine Below.setCell ?_ (by simp) _) | (with_reducible refine Below.alloc ?_ (by have hq := HB3.out.size; simp; omega) _)))) _

theorem endD_25 {c : Cfg} {u : List Int} {id : Int} {p : Prt} {s : Prt} (h : portOf c id = some p) (ho : p.output = true) : endCode c u id false (sameKind s) = 25 := by simp [endCode, h, ho]
theorem endD_26 {c : Cfg} {u : List Int} {id : Int} {p : Prt} {s : Prt} (h : portOf c id = some p) (ho : p.output = false) (hf : (sameKind s) p = false) : endCode c u id false (sameKind s) = 26 := by simp [endCode, h, ho, hf]
theorem endD_27 {c : Cfg} {u : List Int} {id : Int} {p : Prt} {s : Prt} (h : portOf c id = some p) (ho : p.output = false) (hf : (sameKind s) p = true) (hu : id ∈ u) : endCode c u id false (sameKind s) = 27 := by simp [endCode, h, ho, hf, hu]
theorem endD_0 {c : Cfg} {u : List Int} {id : Int} {p : Prt} {s : Prt} (h : portOf c id = some p) (ho : p.output = false) (hf : (sameKind s) p = true) (hu : id ∉ u) : endCode c u id false (sameKind s) = 0 := by simp [endCode, h, ho, hf, hu]
set_option maxRecDepth 100000 in
set_option maxHeartbeats 4000000 in
theorem endD_ok (c : Cfg) (g b : Nat) (A4 : Option Addr) (c4 : Nat) (w : World) (h : ChkAt w w.heap.size g b c A4 c4) (hbd : c.Bd) (u : List Int) (hm : MapIs w Try.prog 38 kU vB b (usedL u)) (hn : u.Nodup) (id : Int) (hid : wU16 id) (gs : Nat) (s : Prt) (hgs : PtBox w gs s) :
    Calls Try.prog 57 #[.pointer (some ⟨g, 0, none⟩), .int .u16 id, .bool false, .func (.func 59) #[] #[.pointer (some ⟨gs, 0, none⟩)]] w fun e w' => e = .returned (.tuple #[prtV (thePort c id), .int .i64 (endCode c u id false (sameKind s))]) ∧
      MapIs w' Try.prog 38 kU vB b (usedL (endUsed c u id false (sameKind s))) ∧ w.grownBy w' (some b) := by
  obtain ⟨W0, hW, hk0, hb0⟩ : ∃ W, w.alloc (.cells #[.int .u16 0, .int .u16 0, .string ⟨#[]⟩, .bool false, .bool false, .int .u32 0] 43) = W ∧ Blk W w.heap.size 43 #[.int .u16 0, .int .u16 0, .string ⟨#[]⟩, .bool false, .bool false, .int .u32 0] ∧ Below w.heap.size w W := ⟨_, rfl, Blk.new _ _ _, below_one _ _⟩
  have HW := Lib.hid hW
  have HB0 := Lib.hid hb0
  have HK0 := Lib.hid hk0
  have hc0 := h.up hb0
  have HC0 := Lib.hid hc0
  have HM := Lib.hid hm
  have HN := Lib.hid hn
  have bt := hbd.t
  have hbl := h.bl
  obtain ⟨gi, k6, hI⟩ := hc0.idx (Nat.le_refl _)
  have HI := Lib.hid hI
  have hgl := hc0.lt
  clear hW hb0 hk0 hc0 hm hn hbd h hI
  rcases idx_cases (fun y => y.id == id) c.ports with ⟨h1, h2⟩ | ⟨ks, p, h1, hkd, h3, h4, h5⟩
  · have HX := Lib.hid h1
    have HV := Lib.hid (show endCode c u id false (sameKind s) = 19 by unfold endCode; rw [show portOf c id = none from h2])
    have HT := Lib.hid (show thePort c id = noPrt by unfold thePort; rw [show portOf c id = none from h2]; rfl)
    clear h1 h2
    go_enter Try.func57, Try.ntmps57
    go_upto_region 1 with (fail)
    rw [HW.out]
    go_wp2_with fail
    refine (iPort_val c gi id _ HI.out hid (-1) HX).mono ?_
    rintro e w2 ⟨rfl, hb2⟩
    have hk := HK0.out.below hb2 HK0.out.lt
    have q0 := hk.cell 0
    have q1 := hk.cell 1
    have q2 := hk.cell 2
    have q3 := hk.cell 3
    have q4 := hk.cell 4
    have q5 := hk.cell 5
    have qf := hk.frozen
    have HK := Lib.hid hk
    have HB2 := Lib.hid (Below.then_ HB0.out hb2)
    simp at q0 q1 q2 q3 q4 q5
    clear hk hb2
    go_wp2
    refine bodyPost_ret (v := .tuple #[prtV noPrt, .int .i64 19]) (by simp [results, Try.results57, go_sem, noPrt, q0, q1, q2, q3, q4, q5, qf]) rfl ⟨by rw [HT.out, HV.out], ?_, ?_⟩
    · rw [endUsed_ne (by rw [HV.out]; decide)]
      exact HM.out.below (by (repeat (first | with_reducible exact HB2.out | with_reducible exact Below.refl _ _ | with_reducible refine Below.drew ?_ | (with_reducible refine Below.setCell ?_ (by simp) _) | (with_reducible refine Below.alloc ?_ (by have hq := HB2.out.size; simp; omega) _)))) hbl
    · exact grown_of_below (by (repeat (first | with_reducible exact HB2.out | with_reducible exact Below.refl _ _ | with_reducible refine Below.drew ?_ | (with_reducible refine Below.setCell ?_ (by simp) _) | (with_reducible refine Below.alloc ?_ (by have hq := HB2.out.size; simp; omega) _)))) _
  · have HX := Lib.hid h1
    have HPS := Lib.hid h3
    have HF := Lib.hid (show portOf c id = some p from h4)
    have HT := Lib.hid (show thePort c id = p by simp [thePort, show portOf c id = some p from h4])
    clear h1 h3 h4 h5
    have m0 : (0 : Int) ≤ (ks : Int) := by omega
    have m1 : (ks : Int) < (c.ports.length : Int) := by omega
    have mneg : decide ((ks : Int) < 0) = false := decide_eq_false (by omega)
    go_enter Try.func57, Try.ntmps57
    go_upto_region 1 with (fail)
    rw [HW.out]
    go_wp2_with fail
    refine (iPort_val c gi id _ HI.out hid ks HX).mono ?_
    rintro e w2 ⟨rfl, hb2⟩
    have hk := HK0.out.below hb2 HK0.out.lt
    have hc2 := HC0.out.up hb2
    have HC2 := Lib.hid hc2
    have HK2 := Lib.hid hk
    have HB2 := Lib.hid (Below.then_ HB0.out hb2)
    have HB2a := Lib.hid hb2
    have q4 := hc2.p4
    have hgl2 := hc2.lt
    obtain ⟨bp, op, rfl, hbq, p0, p1, p2, p3, p4, p5⟩ := prt_at hc2.rd HPS.out
    clear hk hb2 hc2
    go_upto_region 5 with (fail)
    obtain ⟨W3, hW3, pb3, hb3⟩ := PtBox.new w2 p 43
    rw [hW3]
    have hk3 := HK2.out.below hb3 HK2.out.lt
    have HP3 := Lib.hid pb3
    have HC3 := Lib.hid (HC2.out.up hb3)
    have HB3 := Lib.hid (Below.then_ HB2.out hb3)
    have HB3a := Lib.hid hb3
    obtain ⟨z0, z1, z2, z3, z4, z5, hz⟩ := pb3
    have q0 := hk3.cell 0
    have q1 := hk3.cell 1
    have q2 := hk3.cell 2
    have q3 := hk3.cell 3
    have q5 := hk3.cell 4
    have q6 := hk3.cell 5
    have qf := hk3.frozen
    have HK3 := Lib.hid hk3
    simp at q0 q1 q2 q3 q5 q6
    clear p0 p1 p2 p3 p4 p5 hW3 hb3 hk3 q4 k6
    rcases Bool.eq_false_or_eq_true p.output with hpo | hpo
    · have HV := Lib.hid (endD_25 (u := u) (s := s) HF.out hpo)
      have HPO := Lib.hid hpo
      go_wp2
      refine bodyPost_ret (v := .tuple #[prtV p, .int .i64 25]) (by simp [results, Try.results57, go_sem, HPO.out, q0, q1, q2, q3, q5, q6, qf]) rfl ⟨by rw [HT.out, HV.out], ?_, ?_⟩
      · rw [endUsed_ne (by rw [HV.out]; decide)]
        exact HM.out.below (by (repeat (first | with_reducible exact HB3.out | with_reducible exact Below.refl _ _ | with_reducible refine Below.drew ?_ | (with_reducible refine Below.setCell ?_ (by simp) _) | (with_reducible refine Below.alloc ?_ (by have hq := HB3.out.size; simp; omega) _)))) hbl
      · exact grown_of_below (by (repeat (first | with_reducible exact HB3.out | with_reducible exact Below.refl _ _ | with_reducible refine Below.drew ?_ | (with_reducible refine Below.setCell ?_ (by simp) _) | (with_reducible refine Below.alloc ?_ (by have hq := HB3.out.size; simp; omega) _)))) _
    · have HPO := Lib.hid hpo
      have hfb : sameKind s p = true ∨ sameKind s p = false := by cases sameKind s p <;> simp
      rcases hfb with hft | hft
      · have HFT := Lib.hid hft
        go_wp2_with fail
        refine (fitSame_ok p s _ gs _ (PtBox.up (PtBox.up (PtBox.up (PtBox.up hgs HB0.out) HB2a.out) HB3a.out) (Below.refl _ _)) true HFT).mono ?_
        rintro e w4 ⟨rfl, hb4⟩
        have hk4 := HK3.out.below hb4 HK3.out.lt
        have hp4 := HP3.out.up hb4
        have hc4 := HC3.out.up hb4
        have HB4 := Lib.hid (Below.then_ HB3.out hb4)
        have hm4 := HM.out.below HB4.out hbl
        have q7 := hc4.mp
        have hgl4 := hc4.lt
        have HK4 := Lib.hid hk4
        have HP4 := Lib.hid hp4
        have HM4 := Lib.hid hm4
        clear q0 q1 q2 q3 q5 q6 qf z0 z1 z2 z3 z4 z5 hz hb4
        obtain ⟨z0, z1, z2, z3, z4, z5, hz⟩ := hp4
        have q0 := hk4.cell 0
        have q1 := hk4.cell 1
        have q2 := hk4.cell 2
        have q3 := hk4.cell 3
        have q5 := hk4.cell 4
        have q6 := hk4.cell 5
        have qf := hk4.frozen
        simp at q0 q1 q2 q3 q5 q6
        obtain ⟨l, hl⟩ := keyU hid
        by_cases hmem : id ∈ u
        · have HV := Lib.hid (endD_27 HF.out HPO.out HFT.out hmem)
          have hgv : getv (usedL u) id = some true := by rw [usedL_get, if_pos hmem]
          rcases hm4.look lawU Try.underlying75 (zeroBool _) kU_inj (by rw [usedL_keys]; exact HN.out) hl with ⟨h1, _⟩ | ⟨v, h1, hr⟩
          · rw [hgv] at h1; cases h1
          · obtain rfl : v = true := by rw [hgv] at h1; injection h1 with h1; exact h1.symm
            have hr1 := hr false
            simp only [Bool.false_eq_true, if_false, kU, vB] at hr1
            clear hr h1 hgv hm4 hl hk4 hc4
            go_wp2
            refine bodyPost_ret (v := .tuple #[prtV p, .int .i64 27]) (by simp [results, Try.results57, go_sem, HPO.out, q0, q1, q2, q3, q5, q6, qf]) rfl ⟨by rw [HT.out, HV.out], ?_, ?_⟩
            · rw [endUsed_ne (by rw [HV.out]; decide)]
              exact HM.out.below (by (repeat (first | with_reducible exact HB4.out | with_reducible exact Below.refl _ _ | with_reducible refine Below.drew ?_ | (with_reducible refine Below.setCell ?_ (by simp) _) | (with_reducible refine Below.alloc ?_ (by have hq := HB4.out.size; simp; omega) _)))) hbl
            · exact grown_of_below (by (repeat (first | with_reducible exact HB4.out | with_reducible exact Below.refl _ _ | with_reducible refine Below.drew ?_ | (with_reducible refine Below.setCell ?_ (by simp) _) | (with_reducible refine Below.alloc ?_ (by have hq := HB4.out.size; simp; omega) _)))) _
        · have HV := Lib.hid (endD_0 HF.out HPO.out HFT.out hmem)
          have hgv : getv (usedL u) id = none := by rw [usedL_get, if_neg hmem]
          rcases hm4.look lawU Try.underlying75 (zeroBool _) kU_inj (by rw [usedL_keys]; exact HN.out) hl with ⟨h1, hr⟩ | ⟨v, h1, hr⟩
          · have hr1 := hr false
            obtain ⟨w5, hput, hm5, hg5, hs5⟩ := hm4.put lawU Try.underlying75 hl kU_inj hgv true
            simp only [Bool.false_eq_true, if_false, kU, vB] at hr1 hput
            have HM5 := Lib.hid hm5
            have HG5 := Lib.hid hg5
            have hk5 : Blk w5 w.heap.size 43 #[.int .u16 0, .int .u16 0, .string ⟨#[]⟩, .bool false, .bool false, .int .u32 0] := (hg5.block _ hk4.lt (fun e => by injection e with e; omega)).trans hk4
            have b0 := hk5.cell 0
            have b1 := hk5.cell 1
            have b2 := hk5.cell 2
            have b3 := hk5.cell 3
            have b5 := hk5.cell 4
            have b6 := hk5.cell 5
            have bf := hk5.frozen
            simp at b0 b1 b2 b3 b5 b6
            have hzb : w2.heap.size ≠ b := by have h1 := HB2.out.size; omega
            have t0 : w5.cell? ⟨w2.heap.size, 0, none⟩ = some (.int .u16 p.id) := (grown_cell hg5 hz hzb).trans z0
            have t1 : w5.cell? ⟨w2.heap.size, 1, none⟩ = some (.int .u16 p.part) := (grown_cell hg5 hz hzb).trans z1
            have t2 : w5.cell? ⟨w2.heap.size, 2, none⟩ = some (.string p.name) := (grown_cell hg5 hz hzb).trans z2
            have t3 : w5.cell? ⟨w2.heap.size, 3, none⟩ = some (.bool p.output) := (grown_cell hg5 hz hzb).trans z3
            have t4 : w5.cell? ⟨w2.heap.size, 4, none⟩ = some (.bool p.queuing) := (grown_cell hg5 hz hzb).trans z4
            have t5 : w5.cell? ⟨w2.heap.size, 5, none⟩ = some (.int .u32 p.size) := (grown_cell hg5 hz hzb).trans z5
            clear hr h1 hgv hm4 hl hk4 hc4 hm5 hg5 hk5 q0 q1 q2 q3 q5 q6 qf
            go_wp2
            refine bodyPost_ret (v := .tuple #[prtV p, .int .i64 0]) (by simp [results, Try.results57, go_sem, HPO.out, b0, b1, b2, b3, b5, b6, bf]) rfl ⟨by rw [HT.out, HV.out], ?_, ?_⟩
            · rw [endUsed_0 HV.out]
              have e : usedL (u ++ [id]) = usedL u ++ [(id, true)] := by simp [usedL]
              rw [e]
              exact MapIs.far6 HM5.out (by omega)
            · exact grown_far6 ((grown_of_below HB4.out (some b)).trans HG5.out) (Nat.le_refl _)
          · rw [hgv] at h1; cases h1
      · have HFT := Lib.hid hft
        have HV := Lib.hid (endD_26 (u := u) HF.out HPO.out hft)
        clear hft
        go_wp2_with fail
        refine (fitSame_ok p s _ gs _ (PtBox.up (PtBox.up (PtBox.up (PtBox.up hgs HB0.out) HB2a.out) HB3a.out) (Below.refl _ _)) false HFT).mono ?_
        rintro e w4 ⟨rfl, hb4⟩
        have hk4 := HK3.out.below hb4 HK3.out.lt
        have hp4 := HP3.out.up hb4
        have HB4 := Lib.hid (Below.then_ HB3.out hb4)
        clear q0 q1 q2 q3 q5 q6 qf z0 z1 z2 z3 z4 z5 hz hb4
        obtain ⟨z0, z1, z2, z3, z4, z5, hz⟩ := hp4
        have q0 := hk4.cell 0
        have q1 := hk4.cell 1
        have q2 := hk4.cell 2
        have q3 := hk4.cell 3
        have q5 := hk4.cell 4
        have q6 := hk4.cell 5
        have qf := hk4.frozen
        simp at q0 q1 q2 q3 q5 q6
        clear hk4
        go_wp2
        refine bodyPost_ret (v := .tuple #[prtV p, .int .i64 26]) (by simp [results, Try.results57, go_sem, HPO.out, q0, q1, q2, q3, q5, q6, qf]) rfl ⟨by rw [HT.out, HV.out], ?_, ?_⟩
        · rw [endUsed_ne (by rw [HV.out]; decide)]
          exact HM.out.below (by (repeat (first | with_reducible exact HB4.out | with_reducible exact Below.refl _ _ | with_reducible refine Below.drew ?_ | (with_reducible refine Below.setCell ?_ (by simp) _) | (with_reducible refine Below.alloc ?_ (by have hq := HB4.out.size; simp; omega) _)))) hbl
        · exact grown_of_below (by (repeat (first | with_reducible exact HB4.out | with_reducible exact Below.refl _ _ | with_reducible refine Below.drew ?_ | (with_reducible refine Below.setCell ?_ (by simp) _) | (with_reducible refine Below.alloc ?_ (by have hq := HB4.out.size; simp; omega) _)))) _
end Go.Proofs.Ytifmcdnaaaphmaa
