/-
  The laws of the chapter of layer 5: ConfMerges, walked.
-/
import Derived.BigQuiet
import Derived.Deep.RegionHeld3
import Derived.Test.YtldchpmilknlmaaGreatMrg4
import Derived.Test.YtldchpmilknlmaaGreatAlive05
import Derived.Test.YtldchpmilknlmaaGreatBoxC
namespace Go.Proofs.YtldchpmilknlmaaGreat
open Go.RowKit Go.Lib
attribute [local go_sem] ext_cell
set_option maxRecDepth 100000
/-- the joined configuration in its box -/
theorem join_box {V w4 : World} {F : Int} {ga gb : Nat} {a b : Cfg} {A1 A2 A3 A4 A5 B1 B2 B3 B4 B5 : Option Addr} {a1 a2 a3 a4 a5 b1 b2 b3 b4 b5 : Nat} {ca cb : List Value} {u : Nat → Value} (hE : Below V.heap.size V w4) (hS : ∀ i, i < 34 → S3 V.heap.size F ga gb A1 A2 A3 A4 A5 a1 a2 a3 a4 a5 B1 B2 B3 B4 B5 b1 b2 b3 b4 b5 a b ca cb i u w4) (hca : ChnsC V V.heap.size a.chans ca) (hcb : ChnsC V V.heap.size b.chans cb) :
    ∃ (gw : Nat) (X1 X2 X3 X4 X5 : Option Addr) (x1 x2 x3 x4 x5 : Nat), u 32 = ptr0 gw ∧ CBx w4 gw (joinC F a b) X1 X2 X3 X4 X5 x1 x2 x3 x4 x5 := by
  have h0 := hS 0 (by omega)
  have h6 := hS 6 (by omega)
  have h12 := hS 12 (by omega)
  have h18 := hS 18 (by omega)
  have h24 := hS 24 (by omega)
  have h30 := hS 30 (by omega)
  have h31 := hS 31 (by omega)
  have h33 := hS 33 (by omega)
  simp only [S3] at h0 h6 h12 h18 h24 h30 h31 h33
  obtain ⟨X1, x1, f1, k1, l1, r1⟩ := own_form h6
  obtain ⟨X2, x2, f2, k2, l2, r2⟩ := own_form h12
  obtain ⟨X3, x3, f3, k3, l3, r3⟩ := own_form h18
  obtain ⟨X4, x4, f4, k4, l4, r4⟩ := own_form h24
  obtain ⟨X5, x5, f5, k5, l5, r5⟩ := own_form h30
  obtain ⟨gw, vs, h32, _, hv, hbk⟩ := h33
  rw [h31.1] at hv
  injection hv with hv
  subst hv
  rw [h0, f1, f2, f3, f4, f5] at hbk
  have y0 := hbk.cell 0
  have y1 := hbk.cell 1
  have y2 := hbk.cell 2
  have y3 := hbk.cell 3
  have y4 := hbk.cell 4
  have y5 := hbk.cell 5
  simp at y0 y1 y2 y3 y4 y5
  have q1 := (hca.keep fun _ _ hp => hE.cell hp).more hE.size
  have q2 := (hcb.keep fun _ _ hp => hE.cell hp).more hE.size
  refine ⟨gw, X1, X2, X3, X4, X5, x1, x2, x3, x4, x5, h32, ⟨⟨?_, ?_, ?_, ?_, ⟨ca ++ cb, ChnsC.app q1 q2, ?_⟩, ⟨?_, l1⟩, ⟨?_, l2⟩, ⟨?_, l3⟩, ⟨?_, l4⟩, ⟨?_, l5⟩⟩, y0, ?_, ?_, ?_, ?_, ?_, hbk.lt⟩⟩
  · show Rd _ _ _ _ (a.parts ++ b.parts).length ((a.parts ++ b.parts).flatMap Par.cells)
    rw [List.length_append, List.flatMap_append]; exact r1
  · show Rd _ _ _ _ (a.wins ++ b.wins).length ((a.wins ++ b.wins).flatMap Win.cells)
    rw [List.length_append, List.flatMap_append]; exact r2
  · show Rd _ _ _ _ (a.regs ++ b.regs).length ((a.regs ++ b.regs).flatMap Reg.cells)
    rw [List.length_append, List.flatMap_append]; exact r3
  · show Rd _ _ _ _ (a.ports ++ b.ports).length ((a.ports ++ b.ports).flatMap Prt.cells)
    rw [List.length_append, List.flatMap_append]; exact r4
  · show Rd _ _ _ _ (a.chans ++ b.chans).length _
    rw [List.length_append]; exact r5
  · show (a.parts ++ b.parts).length ≤ _; rw [List.length_append]; exact k1
  · show (a.wins ++ b.wins).length ≤ _; rw [List.length_append]; exact k2
  · show (a.regs ++ b.regs).length ≤ _; rw [List.length_append]; exact k3
  · show (a.ports ++ b.ports).length ≤ _; rw [List.length_append]; exact k4
  · show (a.chans ++ b.chans).length ≤ _; rw [List.length_append]; exact k5
  · show _ = some (Value.slice _ (a.parts ++ b.parts).length _); rw [List.length_append]; exact y1
  · show _ = some (Value.slice _ (a.wins ++ b.wins).length _); rw [List.length_append]; exact y2
  · show _ = some (Value.slice _ (a.regs ++ b.regs).length _); rw [List.length_append]; exact y3
  · show _ = some (Value.slice _ (a.ports ++ b.ports).length _); rw [List.length_append]; exact y4
  · show _ = some (Value.slice _ (a.chans ++ b.chans).length _); rw [List.length_append]; exact y5
theorem few_le {c : Cfg} (h : few c = true) : c.total ≤ 120 := by
  unfold few at h
  simp only [Bool.and_eq_true, decide_eq_true_eq] at h
  exact h.2
theorem few_sum {a b : Cfg} (h1 : few a = true) (h2 : few b = true) : a.total + b.total ≤ BIG := by
  have := few_le h1
  have := few_le h2
  unfold BIG
  omega
/-- the two configurations in a row of the call's own -/
theorem cfg_new2 (w : World) (a : Cfg) (A1 A2 A3 A4 A5 : Option Addr) (a1 a2 a3 a4 a5 : Nat) (b : Cfg) (B1 B2 B3 B4 B5 : Option Addr) (b1 b2 b3 b4 b5 : Nat) (t : TypeId) (hRa : CfgR w w.heap.size a A1 A2 A3 A4 A5 a1 a2 a3 a4 a5) (hRb : CfgR w w.heap.size b B1 B2 B3 B4 B5 b1 b2 b3 b4 b5) (W : World) (hW : W = w.alloc (.cells #[.int .u64 a.frame, .slice A1 a.parts.length a1, .slice A2 a.wins.length a2, .slice A3 a.regs.length a3, .slice A4 a.ports.length a4, .slice A5 a.chans.length a5, .int .u64 b.frame, .slice B1 b.parts.length b1, .slice B2 b.wins.length b2, .slice B3 b.regs.length b3, .slice B4 b.ports.length b4, .slice B5 b.chans.length b5] t)) :
    RowsOf (CfgC W W.heap.size) [a, b] ([.int .u64 a.frame, .slice A1 a.parts.length a1, .slice A2 a.wins.length a2, .slice A3 a.regs.length a3, .slice A4 a.ports.length a4, .slice A5 a.chans.length a5] ++ [.int .u64 b.frame, .slice B1 b.parts.length b1, .slice B2 b.wins.length b2, .slice B3 b.regs.length b3, .slice B4 b.ports.length b4, .slice B5 b.chans.length b5]) ∧ Rd W W.heap.size 6 (some ⟨w.heap.size, 0, none⟩) 2 ([.int .u64 a.frame, .slice A1 a.parts.length a1, .slice A2 a.wins.length a2, .slice A3 a.regs.length a3, .slice A4 a.ports.length a4, .slice A5 a.chans.length a5] ++ [.int .u64 b.frame, .slice B1 b.parts.length b1, .slice B2 b.wins.length b2, .slice B3 b.regs.length b3, .slice B4 b.ports.length b4, .slice B5 b.chans.length b5]) := by
  have hb : Below w.heap.size w W := by rw [hW]; exact below_one _ _
  have hk := Blk.new w t #[.int .u64 a.frame, .slice A1 a.parts.length a1, .slice A2 a.wins.length a2, .slice A3 a.regs.length a3, .slice A4 a.ports.length a4, .slice A5 a.chans.length a5, .int .u64 b.frame, .slice B1 b.parts.length b1, .slice B2 b.wins.length b2, .slice B3 b.regs.length b3, .slice B4 b.ports.length b4, .slice B5 b.chans.length b5]
  rw [← hW] at hk
  refine ⟨rows_app (rows_one ⟨A1, A2, A3, A4, A5, a1, a2, a3, a4, a5, rfl, hRa.up hb⟩) (rows_one ⟨B1, B2, B3, B4, B5, b1, b2, b3, b4, b5, rfl, hRb.up hb⟩), rfl, fun _ => ⟨_, _, rfl, hk.lt, fun j u hu => ?_⟩⟩
  rw [Nat.zero_add]
  exact (hk.cell _).trans (by simpa using hu)
theorem merge2_ok (F : Int) (a : Cfg) (A1 A2 A3 A4 A5 : Option Addr) (a1 a2 a3 a4 a5 : Nat) (b : Cfg) (B1 B2 B3 B4 B5 : Option Addr) (b1 b2 b3 b4 b5 : Nat) (w : World) (hRa : CfgR w w.heap.size a A1 A2 A3 A4 A5 a1 a2 a3 a4 a5) (hRb : CfgR w w.heap.size b B1 B2 B3 B4 B5 b1 b2 b3 b4 b5) (ht : a.total + b.total ≤ 4194304) (C : Cfg) (hC : Hid (joinC F a b = C)) (t : TypeId) :
    Calls Tryz.prog 24 #[.int .u64 F, .slice (some ⟨w.heap.size, 0, none⟩) 2 2] (w.alloc (.cells #[.int .u64 a.frame, .slice A1 a.parts.length a1, .slice A2 a.wins.length a2, .slice A3 a.regs.length a3, .slice A4 a.ports.length a4, .slice A5 a.chans.length a5, .int .u64 b.frame, .slice B1 b.parts.length b1, .slice B2 b.wins.length b2, .slice B3 b.regs.length b3, .slice B4 b.ports.length b4, .slice B5 b.chans.length b5] t)) fun e w' => ∃ (P1 P2 P3 P4 P5 : Option Addr) (p1 p2 p3 p4 p5 : Nat),
      e = .returned (cfgV C.frame P1 P2 P3 P4 P5 C.parts.length C.wins.length C.regs.length C.ports.length C.chans.length p1 p2 p3 p4 p5) ∧ CfgR w' w'.heap.size C P1 P2 P3 P4 P5 p1 p2 p3 p4 p5 ∧ Below (w.alloc (.cells #[.int .u64 a.frame, .slice A1 a.parts.length a1, .slice A2 a.wins.length a2, .slice A3 a.regs.length a3, .slice A4 a.ports.length a4, .slice A5 a.chans.length a5, .int .u64 b.frame, .slice B1 b.parts.length b1, .slice B2 b.wins.length b2, .slice B3 b.regs.length b3, .slice B4 b.ports.length b4, .slice B5 b.chans.length b5] t)).heap.size (w.alloc (.cells #[.int .u64 a.frame, .slice A1 a.parts.length a1, .slice A2 a.wins.length a2, .slice A3 a.regs.length a3, .slice A4 a.ports.length a4, .slice A5 a.chans.length a5, .int .u64 b.frame, .slice B1 b.parts.length b1, .slice B2 b.wins.length b2, .slice B3 b.regs.length b3, .slice B4 b.ports.length b4, .slice B5 b.chans.length b5] t)) w' := by
  obtain ⟨W, hW⟩ : ∃ W, W = w.alloc (.cells #[.int .u64 a.frame, .slice A1 a.parts.length a1, .slice A2 a.wins.length a2, .slice A3 a.regs.length a3, .slice A4 a.ports.length a4, .slice A5 a.chans.length a5, .int .u64 b.frame, .slice B1 b.parts.length b1, .slice B2 b.wins.length b2, .slice B3 b.regs.length b3, .slice B4 b.ports.length b4, .slice B5 b.chans.length b5] t) := ⟨_, rfl⟩
  obtain ⟨h1, h2⟩ := cfg_new2 w a A1 A2 A3 A4 A5 a1 a2 a3 a4 a5 b B1 B2 B3 B4 B5 b1 b2 b3 b4 b5 t hRa hRb W hW
  rw [← hW]
  refine (mergeC_ok F [a, b] (some ⟨w.heap.size, 0, none⟩) 2 _ W h1 h2 (by simp) (by simpa [sumTot] using ht)).mono ?_
  rintro e w' ⟨P1, P2, P3, P4, P5, p1, p2, p3, p4, p5, he, ho, hb⟩
  rw [catAll_two, hC.out] at he ho
  have hF : F = C.frame := by rw [← hC.out]; rfl
  exact ⟨P1, P2, P3, P4, P5, p1, p2, p3, p4, p5, by rw [he, hF], ho.toR, hb⟩
theorem merge0_ok (F : Int) (w : World) : Calls Tryz.prog 24 #[.int .u64 F, .slice none 0 0] w fun e w' => ∃ (P1 P2 P3 P4 P5 : Option Addr) (p1 p2 p3 p4 p5 : Nat),
      e = .returned (.agg #[.int .u64 F, .slice P1 0 p1, .slice P2 0 p2, .slice P3 0 p3, .slice P4 0 p4, .slice P5 0 p5]) ∧ CfgR w' w'.heap.size (emptyC F) P1 P2 P3 P4 P5 p1 p2 p3 p4 p5 ∧ Below w.heap.size w w' := by
  refine (mergeC_ok F [] none 0 [] w (by show RowsOf _ [] []; rfl) Rd.nil (by simp) (by simp [sumTot])).mono ?_
  rintro e w' ⟨P1, P2, P3, P4, P5, p1, p2, p3, p4, p5, he, ho, hb⟩
  rw [catAll_nil] at he ho
  exact ⟨P1, P2, P3, P4, P5, p1, p2, p3, p4, p5, he, ho.toR, hb⟩
theorem emptyC_ok {F : Int} (hF : wU64 F) : (emptyC F).ok := ⟨hF, fun _ h => absurd h (by simp [emptyC]), fun _ h => absurd h (by simp [emptyC]), fun _ h => absurd h (by simp [emptyC]), fun _ h => absurd h (by simp [emptyC]), fun _ h => absurd h (by simp [emptyC])⟩
theorem emptyC_small (F : Int) : (emptyC F).small := ⟨by show 0 ≤ BIG; omega, fun _ h => absurd h (by simp [emptyC]), fun _ h => absurd h (by simp [emptyC])⟩
theorem emptyC_R (F : Int) (w : World) : CfgR w w.heap.size (emptyC F) none none none none none 0 0 0 0 0 :=
  ⟨Rd.nil, Rd.nil, Rd.nil, Rd.nil, ⟨[], rfl, Rd.nil⟩, ⟨Nat.le_refl _, by unfold maxLen; omega⟩, ⟨Nat.le_refl _, by unfold maxLen; omega⟩, ⟨Nat.le_refl _, by unfold maxLen; omega⟩, ⟨Nat.le_refl _, by unfold maxLen; omega⟩, ⟨Nat.le_refl _, by unfold maxLen; omega⟩⟩
theorem same0_ok (F : Int) (hF : wU64 F) (P1 P2 P3 P4 P5 : Option Addr) (p1 p2 p3 p4 p5 : Nat) (w : World) (hR : CfgR w w.heap.size (emptyC F) P1 P2 P3 P4 P5 p1 p2 p3 p4 p5) :
    Calls Tryz.prog 14 #[.agg #[.int .u64 F, .slice P1 0 p1, .slice P2 0 p2, .slice P3 0 p3, .slice P4 0 p4, .slice P5 0 p5], .agg #[.int .u64 F, .slice none 0 0, .slice none 0 0, .slice none 0 0, .slice none 0 0, .slice none 0 0]] w fun e w' => e = .returned (.bool true) ∧ Below w.heap.size w w' :=
  rSame_ok (emptyC F) P1 P2 P3 P4 P5 p1 p2 p3 p4 p5 (emptyC F) none none none none none 0 0 0 0 0 w hR (emptyC_R F w) (emptyC_ok hF) (emptyC_small F) (emptyC_ok hF) (emptyC_small F) true (Lib.hid (eqC_yes rfl))
set_option maxRecDepth 100000 in
set_option maxHeartbeats 16000000 in
theorem confMerges_ok (F : Int) (hF : wU64 F) (a : Cfg) (A1 A2 A3 A4 A5 : Option Addr) (a1 a2 a3 a4 a5 : Nat) (b : Cfg) (B1 B2 B3 B4 B5 : Option Addr) (b1 b2 b3 b4 b5 : Nat) (w : World) (hRa : CfgR w w.heap.size a A1 A2 A3 A4 A5 a1 a2 a3 a4 a5) (hsa : a.small) (hoka : a.ok) (hRb : CfgR w w.heap.size b B1 B2 B3 B4 B5 b1 b2 b3 b4 b5) (hsb : b.small) (hokb : b.ok) :
    Calls Tryz.prog 5 #[.int .u64 F, cfgV a.frame A1 A2 A3 A4 A5 a.parts.length a.wins.length a.regs.length a.ports.length a.chans.length a1 a2 a3 a4 a5, cfgV b.frame B1 B2 B3 B4 B5 b.parts.length b.wins.length b.regs.length b.ports.length b.chans.length b1 b2 b3 b4 b5] w fun e w' => e = .returned (.bool true) ∧ Below w.heap.size w w' := by
  obtain ⟨W0, hW0, ca, hb0⟩ := CBx.new hRa 29
  obtain ⟨W1, hW1, cb, hb1⟩ := CBx.new (hRb.up hb0) 29
  have HW0 := Lib.hid hW0
  have HW1 := Lib.hid hW1
  have e0 : W0.heap.size = w.heap.size + 1 := by rw [← hW0]; simp
  rw [e0] at cb
  have CA := Lib.hid (ca.up hb1)
  have CB := Lib.hid cb
  have HZ1 := Lib.hid (Below.then_ hb0 hb1)
  have HOA := Lib.hid hoka
  have HOB := Lib.hid hokb
  have HSA := Lib.hid hsa
  have HSB := Lib.hid hsb
  have HTA := Lib.hid hsa.tot
  have HTB := Lib.hid hsb.tot
  have HF := Lib.hid hF
  obtain ⟨p0, p1, p2, p3, p4, p5⟩ := CA.out.cells
  obtain ⟨q0, q1, q2, q3, q4, q5⟩ := CB.out.cells
  have hz1 := CA.out.z
  have hz2 := CB.out.z
  clear hRa hRb hW0 hW1 ca cb hb0 hb1 hoka hokb hsa hsb e0 hF
  rcases Bool.eq_false_or_eq_true (few a) with h1 | h1
  · rcases Bool.eq_false_or_eq_true (few b) with h2 | h2
    · have H1 := Lib.hid h1
      have H2 := Lib.hid h2
      clear h1 h2
      go_enter Tryz.func5, Tryz.ntmps5
      go_upto_region 1 with (fail)
      rw [HW0.out, HW1.out]
      go_wp2_with fail
      refine (few_valB a A1 A2 A3 A4 A5 a1 a2 a3 a4 a5 W1 CA.out.R HSA.out true H1).mono ?_
      rintro e w2 ⟨rfl, hb2⟩
      have CB2 := Lib.hid (CB.out.up hb2)
      have HB2 := Lib.hid hb2
      clear hb2 p0 p1 p2 p3 p4 p5 q0 q1 q2 q3 q4 q5 hz1 hz2
      obtain ⟨q0, q1, q2, q3, q4, q5⟩ := CB2.out.cells
      go_wp2_with fail
      refine (few_valB b B1 B2 B3 B4 B5 b1 b2 b3 b4 b5 w2 CB2.out.R HSB.out true H2).mono ?_
      rintro e V ⟨rfl, hb3⟩
      have CA3 := Lib.hid (CA.out.up (Below.then_ HB2.out hb3))
      have CB3 := Lib.hid (CB2.out.up hb3)
      have HZ3 := Lib.hid (Below.then_ HZ1.out (Below.then_ HB2.out hb3))
      clear hb3 q0 q1 q2 q3 q4 q5
      obtain ⟨ca, hca, hra⟩ := CA3.out.R.chans
      obtain ⟨cb, hcb, hrb⟩ := CB3.out.R.chans
      have HCA := Lib.hid hca
      have HCB := Lib.hid hcb
      have HRA := Lib.hid hra
      have HRB := Lib.hid hrb
      clear hca hra hcb hrb
      go_upto_region 3 with (fail)
      refine wp_region_S (by kernel_rfl) (by kernel_rfl) (by kernel_rfl) (mk3 _ _ _ _ _ _ _ _ _ _ _ _ _ _ _ _ _ _ _ _ _ _ _ _ _ _ _ _ _ _ _ _ _ _ _ _ _ _ _ _ _ _ _ _ _ _ _ _ _ _ _ _ _ _ _ _ _ _) (fun _ => undef) rfl ?hput (S3 V.heap.size F w.heap.size (w.heap.size + 1) A1 A2 A3 A4 A5 a1 a2 a3 a4 a5 B1 B2 B3 B4 B5 b1 b2 b3 b4 b5 a b ca cb) (fun _ w' => Below V.heap.size V w') Le3 ((Below.refl V.heap.size V).drew) (fun i j u w w' hij _ h hl => S3.stay _ _ _ _ _ _ _ _ _ _ _ _ _ _ _ _ _ _ _ _ _ _ _ _ _ _ _ _ i j u w w' hij h hl) ?hloc ?hop ?hend
      case hput =>
        intro i o ho u v
        match i, ho with
        | 0, ho => cases ho; exact (mk3_put u v).1 0 (by decide)
        | 1, ho => cases ho; exact (mk3_put u v).1 1 (by decide)
        | 2, ho => cases ho; exact (mk3_put u v).1 2 (by decide)
        | 3, ho => cases ho; exact (mk3_put u v).1 3 (by decide)
        | 4, ho => cases ho; exact (mk3_put u v).1 4 (by decide)
        | 5, ho => cases ho; exact (mk3_put u v).1 5 (by decide)
        | 6, ho => cases ho; exact (mk3_put u v).1 6 (by decide)
        | 7, ho => cases ho; exact (mk3_put u v).1 7 (by decide)
        | 8, ho => cases ho; exact (mk3_put u v).1 8 (by decide)
        | 9, ho => cases ho; exact (mk3_put u v).1 9 (by decide)
        | 10, ho => cases ho; exact (mk3_put u v).1 10 (by decide)
        | 11, ho => cases ho; exact (mk3_put u v).1 11 (by decide)
        | 12, ho => cases ho; exact (mk3_put u v).1 12 (by decide)
        | 13, ho => cases ho; exact (mk3_put u v).1 13 (by decide)
        | 14, ho => cases ho; exact (mk3_put u v).1 14 (by decide)
        | 15, ho => cases ho; exact (mk3_put u v).1 15 (by decide)
        | 16, ho => cases ho; exact (mk3_put u v).1 16 (by decide)
        | 17, ho => cases ho; exact (mk3_put u v).1 17 (by decide)
        | 18, ho => cases ho; exact (mk3_put u v).1 18 (by decide)
        | 19, ho => cases ho; exact (mk3_put u v).1 19 (by decide)
        | 20, ho => cases ho; exact (mk3_put u v).1 20 (by decide)
        | 21, ho => cases ho; exact (mk3_put u v).1 21 (by decide)
        | 22, ho => cases ho; exact (mk3_put u v).1 22 (by decide)
        | 23, ho => cases ho; exact (mk3_put u v).1 23 (by decide)
        | 24, ho => cases ho; exact (mk3_put u v).1 24 (by decide)
        | 25, ho => cases ho; exact (mk3_put u v).1 25 (by decide)
        | 26, ho => cases ho; exact (mk3_put u v).1 26 (by decide)
        | 27, ho => cases ho; exact (mk3_put u v).1 27 (by decide)
        | 28, ho => cases ho; exact (mk3_put u v).1 28 (by decide)
        | 29, ho => cases ho; exact (mk3_put u v).1 29 (by decide)
        | 30, ho => cases ho; exact (mk3_put u v).1 30 (by decide)
        | 31, ho => cases ho; exact (mk3_put u v).1 31 (by decide)
        | 32, ho => cases ho; exact (mk3_put u v).2.1
        | 33, ho => cases ho; exact (mk3_put u v).2.2
        | n + 34, ho => exact absurd ho (by simp)
      case hloc =>
        intro i o ho j u v w' hij hp h
        have e := upd_ne (Ne.symm hij) u v
        match i, ho, h, e with
        | 0, ho, h, e => simp only [S3] at h ⊢; rw [e]; exact h
        | 1, ho, h, e => simp only [S3] at h ⊢; rw [e]; exact h
        | 2, ho, h, e => simp only [S3] at h ⊢; rw [e]; exact h
        | 3, ho, h, e => simp only [S3] at h ⊢; rw [e]; exact h
        | 4, ho, h, e => simp only [S3] at h ⊢; rw [e]; exact h
        | 5, ho, h, e => simp only [S3] at h ⊢; rw [e]; exact h
        | 6, ho, h, e => simp only [S3] at h ⊢; rw [e]; exact h
        | 7, ho, h, e => simp only [S3] at h ⊢; rw [e]; exact h
        | 8, ho, h, e => simp only [S3] at h ⊢; rw [e]; exact h
        | 9, ho, h, e => simp only [S3] at h ⊢; rw [e]; exact h
        | 10, ho, h, e => simp only [S3] at h ⊢; rw [e]; exact h
        | 11, ho, h, e => simp only [S3] at h ⊢; rw [e]; exact h
        | 12, ho, h, e => simp only [S3] at h ⊢; rw [e]; exact h
        | 13, ho, h, e => simp only [S3] at h ⊢; rw [e]; exact h
        | 14, ho, h, e => simp only [S3] at h ⊢; rw [e]; exact h
        | 15, ho, h, e => simp only [S3] at h ⊢; rw [e]; exact h
        | 16, ho, h, e => simp only [S3] at h ⊢; rw [e]; exact h
        | 17, ho, h, e => simp only [S3] at h ⊢; rw [e]; exact h
        | 18, ho, h, e => simp only [S3] at h ⊢; rw [e]; exact h
        | 19, ho, h, e => simp only [S3] at h ⊢; rw [e]; exact h
        | 20, ho, h, e => simp only [S3] at h ⊢; rw [e]; exact h
        | 21, ho, h, e => simp only [S3] at h ⊢; rw [e]; exact h
        | 22, ho, h, e => simp only [S3] at h ⊢; rw [e]; exact h
        | 23, ho, h, e => simp only [S3] at h ⊢; rw [e]; exact h
        | 24, ho, h, e => simp only [S3] at h ⊢; rw [e]; exact h
        | 25, ho, h, e => simp only [S3] at h ⊢; rw [e]; exact h
        | 26, ho, h, e => simp only [S3] at h ⊢; rw [e]; exact h
        | 27, ho, h, e => simp only [S3] at h ⊢; rw [e]; exact h
        | 28, ho, h, e => simp only [S3] at h ⊢; rw [e]; exact h
        | 29, ho, h, e => simp only [S3] at h ⊢; rw [e]; exact h
        | 30, ho, h, e => simp only [S3] at h ⊢; rw [e]; exact h
        | 31, ho, h, e =>
          cases ho
          have e0 := upd_ne (hp { on := 0, ground := .data } (by simp) rfl) u v
          have e6 := upd_ne (hp { on := 6, ground := .data } (by simp) rfl) u v
          have e12 := upd_ne (hp { on := 12, ground := .data } (by simp) rfl) u v
          have e18 := upd_ne (hp { on := 18, ground := .data } (by simp) rfl) u v
          have e24 := upd_ne (hp { on := 24, ground := .data } (by simp) rfl) u v
          have e30 := upd_ne (hp { on := 30, ground := .data } (by simp) rfl) u v
          simp only [S3] at h ⊢
          rw [e, e0, e6, e12, e18, e24, e30]
          exact h
        | 32, ho, h, e => simp only [S3] at h ⊢; rw [e]; exact h
        | 33, ho, h, e =>
          cases ho
          have e31 := upd_ne (hp { on := 31, ground := .data } (by simp) rfl) u v
          have e32 := upd_ne (hp { on := 32, ground := .data } (by simp) rfl) u v
          simp only [S3] at h ⊢
          rw [e31, e32]
          exact h
        | n + 34, ho, h, e => trivial
      case hop =>
        intro i o ho u w' hE hp K hK
        have BA := CA3.out.up hE
        have BB := CB3.out.up hE
        have hsz := hE.size
        match i, ho with
        | 0, ho =>
          cases ho
          refine wp_val (.int .u64 F) (w' := w') (by simp only [mk3]; go_simp) (hK _ _ hE (Le3.bel (by decide) (Below.refl _ _)) (by simp only [S3]; rw [upd_self]))
        | 1, ho =>
          cases ho
          refine wp_val (.pointer (some ⟨w.heap.size, 1, none⟩)) (w' := w') (by simp only [mk3]; go_simp) (hK _ _ hE (Le3.bel (by decide) (Below.refl _ _)) (by simp only [S3]; rw [upd_self]))
        | 2, ho =>
          cases ho
          have h1 := hp { on := 1, ground := .data } (by simp) rfl
          simp only [S3] at h1
          have cc := BA.x1
          refine wp_val (.slice A1 a.parts.length a1) (w' := w') (by simp only [mk3, h1]; go_simp) (hK _ _ hE (Le3.bel (by decide) (Below.refl _ _)) (by simp only [S3]; rw [upd_self]))
        | 3, ho =>
          cases ho
          refine wp_val (.pointer (some ⟨w.heap.size + 1, 1, none⟩)) (w' := w') (by simp only [mk3]; go_simp) (hK _ _ hE (Le3.bel (by decide) (Below.refl _ _)) (by simp only [S3]; rw [upd_self]))
        | 4, ho =>
          cases ho
          have h3 := hp { on := 3, ground := .data } (by simp) rfl
          simp only [S3] at h3
          have cc := BB.x1
          refine wp_val (.slice B1 b.parts.length b1) (w' := w') (by simp only [mk3, h3]; go_simp) (hK _ _ hE (Le3.bel (by decide) (Below.refl _ _)) (by simp only [S3]; rw [upd_self]))
        | 5, ho =>
          cases ho
          have h2 := hp { on := 2, ground := .data } (by simp) rfl
          simp only [S3] at h2
          have h4 := hp { on := 4, ground := .data } (by simp) rfl
          simp only [S3] at h4
          refine wp_val (.slice (some ⟨w'.heap.size, 0, none⟩) 2 2) (w' := w'.alloc (.cells #[.slice A1 a.parts.length a1, .slice B1 b.parts.length b1] 23)) (by simp only [mk3, h2, h4]; go_simp) (hK _ _ (hE.alloc hsz _) (Le3.bel (by decide) (below_one _ _)) ⟨w'.heap.size, upd_self _ _ _, Blk.new _ _ _⟩)
        | 6, ho =>
          cases ho
          have h5 := hp { on := 5, ground := .data } (by simp) rfl
          simp only [S3] at h5
          obtain ⟨g, h5, hbk⟩ := h5
          refine wp_call 17 #[.slice (some ⟨g, 0, none⟩) 2 2] (w' := w') (by simp only [mk3, h5]; go_simp) ?_
          refine (concatPar_ok A1 B1 a.parts.length b.parts.length a1 b1 g (a.parts.flatMap Par.cells) (b.parts.flatMap Par.cells) w' (by have h := hbk.cell 0; simpa using h) (by have h := hbk.cell 1; simpa using h) hbk.lt BA.R.parts BB.R.parts (onePar _) (onePar _) (by have h := HSA.out.bd.p; omega) (by have h := HSB.out.bd.p; omega)).mono ?_
          rintro e w5 ⟨v, rfl, hown, hb5⟩
          exact ⟨v, rfl, hK _ _ (Below.then_ hE hb5) (Le3.bel (by decide) hb5) (by simp only [S3]; rw [upd_self]; exact own_lessC hown hsz)⟩
        | 7, ho =>
          cases ho
          refine wp_val (.pointer (some ⟨w.heap.size, 2, none⟩)) (w' := w') (by simp only [mk3]; go_simp) (hK _ _ hE (Le3.bel (by decide) (Below.refl _ _)) (by simp only [S3]; rw [upd_self]))
        | 8, ho =>
          cases ho
          have h7 := hp { on := 7, ground := .data } (by simp) rfl
          simp only [S3] at h7
          have cc := BA.x2
          refine wp_val (.slice A2 a.wins.length a2) (w' := w') (by simp only [mk3, h7]; go_simp) (hK _ _ hE (Le3.bel (by decide) (Below.refl _ _)) (by simp only [S3]; rw [upd_self]))
        | 9, ho =>
          cases ho
          refine wp_val (.pointer (some ⟨w.heap.size + 1, 2, none⟩)) (w' := w') (by simp only [mk3]; go_simp) (hK _ _ hE (Le3.bel (by decide) (Below.refl _ _)) (by simp only [S3]; rw [upd_self]))
        | 10, ho =>
          cases ho
          have h9 := hp { on := 9, ground := .data } (by simp) rfl
          simp only [S3] at h9
          have cc := BB.x2
          refine wp_val (.slice B2 b.wins.length b2) (w' := w') (by simp only [mk3, h9]; go_simp) (hK _ _ hE (Le3.bel (by decide) (Below.refl _ _)) (by simp only [S3]; rw [upd_self]))
        | 11, ho =>
          cases ho
          have h8 := hp { on := 8, ground := .data } (by simp) rfl
          simp only [S3] at h8
          have h10 := hp { on := 10, ground := .data } (by simp) rfl
          simp only [S3] at h10
          refine wp_val (.slice (some ⟨w'.heap.size, 0, none⟩) 2 2) (w' := w'.alloc (.cells #[.slice A2 a.wins.length a2, .slice B2 b.wins.length b2] 24)) (by simp only [mk3, h8, h10]; go_simp) (hK _ _ (hE.alloc hsz _) (Le3.bel (by decide) (below_one _ _)) ⟨w'.heap.size, upd_self _ _ _, Blk.new _ _ _⟩)
        | 12, ho =>
          cases ho
          have h11 := hp { on := 11, ground := .data } (by simp) rfl
          simp only [S3] at h11
          obtain ⟨g, h5, hbk⟩ := h11
          refine wp_call 18 #[.slice (some ⟨g, 0, none⟩) 2 2] (w' := w') (by simp only [mk3, h5]; go_simp) ?_
          refine (concatWin_ok A2 B2 a.wins.length b.wins.length a2 b2 g (a.wins.flatMap Win.cells) (b.wins.flatMap Win.cells) w' (by have h := hbk.cell 0; simpa using h) (by have h := hbk.cell 1; simpa using h) hbk.lt BA.R.wins BB.R.wins (oneWin _) (oneWin _) (by have h := HSA.out.bd.w; omega) (by have h := HSB.out.bd.w; omega)).mono ?_
          rintro e w5 ⟨v, rfl, hown, hb5⟩
          exact ⟨v, rfl, hK _ _ (Below.then_ hE hb5) (Le3.bel (by decide) hb5) (by simp only [S3]; rw [upd_self]; exact own_lessC hown hsz)⟩
        | 13, ho =>
          cases ho
          refine wp_val (.pointer (some ⟨w.heap.size, 3, none⟩)) (w' := w') (by simp only [mk3]; go_simp) (hK _ _ hE (Le3.bel (by decide) (Below.refl _ _)) (by simp only [S3]; rw [upd_self]))
        | 14, ho =>
          cases ho
          have h13 := hp { on := 13, ground := .data } (by simp) rfl
          simp only [S3] at h13
          have cc := BA.x3
          refine wp_val (.slice A3 a.regs.length a3) (w' := w') (by simp only [mk3, h13]; go_simp) (hK _ _ hE (Le3.bel (by decide) (Below.refl _ _)) (by simp only [S3]; rw [upd_self]))
        | 15, ho =>
          cases ho
          refine wp_val (.pointer (some ⟨w.heap.size + 1, 3, none⟩)) (w' := w') (by simp only [mk3]; go_simp) (hK _ _ hE (Le3.bel (by decide) (Below.refl _ _)) (by simp only [S3]; rw [upd_self]))
        | 16, ho =>
          cases ho
          have h15 := hp { on := 15, ground := .data } (by simp) rfl
          simp only [S3] at h15
          have cc := BB.x3
          refine wp_val (.slice B3 b.regs.length b3) (w' := w') (by simp only [mk3, h15]; go_simp) (hK _ _ hE (Le3.bel (by decide) (Below.refl _ _)) (by simp only [S3]; rw [upd_self]))
        | 17, ho =>
          cases ho
          have h14 := hp { on := 14, ground := .data } (by simp) rfl
          simp only [S3] at h14
          have h16 := hp { on := 16, ground := .data } (by simp) rfl
          simp only [S3] at h16
          refine wp_val (.slice (some ⟨w'.heap.size, 0, none⟩) 2 2) (w' := w'.alloc (.cells #[.slice A3 a.regs.length a3, .slice B3 b.regs.length b3] 25)) (by simp only [mk3, h14, h16]; go_simp) (hK _ _ (hE.alloc hsz _) (Le3.bel (by decide) (below_one _ _)) ⟨w'.heap.size, upd_self _ _ _, Blk.new _ _ _⟩)
        | 18, ho =>
          cases ho
          have h17 := hp { on := 17, ground := .data } (by simp) rfl
          simp only [S3] at h17
          obtain ⟨g, h5, hbk⟩ := h17
          refine wp_call 19 #[.slice (some ⟨g, 0, none⟩) 2 2] (w' := w') (by simp only [mk3, h5]; go_simp) ?_
          refine (concatReg_ok A3 B3 a.regs.length b.regs.length a3 b3 g (a.regs.flatMap Reg.cells) (b.regs.flatMap Reg.cells) w' (by have h := hbk.cell 0; simpa using h) (by have h := hbk.cell 1; simpa using h) hbk.lt BA.R.regs BB.R.regs (oneReg _) (oneReg _) (by have h := HSA.out.bd.r; omega) (by have h := HSB.out.bd.r; omega)).mono ?_
          rintro e w5 ⟨v, rfl, hown, hb5⟩
          exact ⟨v, rfl, hK _ _ (Below.then_ hE hb5) (Le3.bel (by decide) hb5) (by simp only [S3]; rw [upd_self]; exact own_lessC hown hsz)⟩
        | 19, ho =>
          cases ho
          refine wp_val (.pointer (some ⟨w.heap.size, 4, none⟩)) (w' := w') (by simp only [mk3]; go_simp) (hK _ _ hE (Le3.bel (by decide) (Below.refl _ _)) (by simp only [S3]; rw [upd_self]))
        | 20, ho =>
          cases ho
          have h19 := hp { on := 19, ground := .data } (by simp) rfl
          simp only [S3] at h19
          have cc := BA.x4
          refine wp_val (.slice A4 a.ports.length a4) (w' := w') (by simp only [mk3, h19]; go_simp) (hK _ _ hE (Le3.bel (by decide) (Below.refl _ _)) (by simp only [S3]; rw [upd_self]))
        | 21, ho =>
          cases ho
          refine wp_val (.pointer (some ⟨w.heap.size + 1, 4, none⟩)) (w' := w') (by simp only [mk3]; go_simp) (hK _ _ hE (Le3.bel (by decide) (Below.refl _ _)) (by simp only [S3]; rw [upd_self]))
        | 22, ho =>
          cases ho
          have h21 := hp { on := 21, ground := .data } (by simp) rfl
          simp only [S3] at h21
          have cc := BB.x4
          refine wp_val (.slice B4 b.ports.length b4) (w' := w') (by simp only [mk3, h21]; go_simp) (hK _ _ hE (Le3.bel (by decide) (Below.refl _ _)) (by simp only [S3]; rw [upd_self]))
        | 23, ho =>
          cases ho
          have h20 := hp { on := 20, ground := .data } (by simp) rfl
          simp only [S3] at h20
          have h22 := hp { on := 22, ground := .data } (by simp) rfl
          simp only [S3] at h22
          refine wp_val (.slice (some ⟨w'.heap.size, 0, none⟩) 2 2) (w' := w'.alloc (.cells #[.slice A4 a.ports.length a4, .slice B4 b.ports.length b4] 26)) (by simp only [mk3, h20, h22]; go_simp) (hK _ _ (hE.alloc hsz _) (Le3.bel (by decide) (below_one _ _)) ⟨w'.heap.size, upd_self _ _ _, Blk.new _ _ _⟩)
        | 24, ho =>
          cases ho
          have h23 := hp { on := 23, ground := .data } (by simp) rfl
          simp only [S3] at h23
          obtain ⟨g, h5, hbk⟩ := h23
          refine wp_call 20 #[.slice (some ⟨g, 0, none⟩) 2 2] (w' := w') (by simp only [mk3, h5]; go_simp) ?_
          refine (concatPrt_ok A4 B4 a.ports.length b.ports.length a4 b4 g (a.ports.flatMap Prt.cells) (b.ports.flatMap Prt.cells) w' (by have h := hbk.cell 0; simpa using h) (by have h := hbk.cell 1; simpa using h) hbk.lt BA.R.ports BB.R.ports (onePrt _) (onePrt _) (by have h := HSA.out.bd.t; omega) (by have h := HSB.out.bd.t; omega)).mono ?_
          rintro e w5 ⟨v, rfl, hown, hb5⟩
          exact ⟨v, rfl, hK _ _ (Below.then_ hE hb5) (Le3.bel (by decide) hb5) (by simp only [S3]; rw [upd_self]; exact own_lessC hown hsz)⟩
        | 25, ho =>
          cases ho
          refine wp_val (.pointer (some ⟨w.heap.size, 5, none⟩)) (w' := w') (by simp only [mk3]; go_simp) (hK _ _ hE (Le3.bel (by decide) (Below.refl _ _)) (by simp only [S3]; rw [upd_self]))
        | 26, ho =>
          cases ho
          have h25 := hp { on := 25, ground := .data } (by simp) rfl
          simp only [S3] at h25
          have cc := BA.x5
          refine wp_val (.slice A5 a.chans.length a5) (w' := w') (by simp only [mk3, h25]; go_simp) (hK _ _ hE (Le3.bel (by decide) (Below.refl _ _)) (by simp only [S3]; rw [upd_self]))
        | 27, ho =>
          cases ho
          refine wp_val (.pointer (some ⟨w.heap.size + 1, 5, none⟩)) (w' := w') (by simp only [mk3]; go_simp) (hK _ _ hE (Le3.bel (by decide) (Below.refl _ _)) (by simp only [S3]; rw [upd_self]))
        | 28, ho =>
          cases ho
          have h27 := hp { on := 27, ground := .data } (by simp) rfl
          simp only [S3] at h27
          have cc := BB.x5
          refine wp_val (.slice B5 b.chans.length b5) (w' := w') (by simp only [mk3, h27]; go_simp) (hK _ _ hE (Le3.bel (by decide) (Below.refl _ _)) (by simp only [S3]; rw [upd_self]))
        | 29, ho =>
          cases ho
          have h26 := hp { on := 26, ground := .data } (by simp) rfl
          simp only [S3] at h26
          have h28 := hp { on := 28, ground := .data } (by simp) rfl
          simp only [S3] at h28
          refine wp_val (.slice (some ⟨w'.heap.size, 0, none⟩) 2 2) (w' := w'.alloc (.cells #[.slice A5 a.chans.length a5, .slice B5 b.chans.length b5] 27)) (by simp only [mk3, h26, h28]; go_simp) (hK _ _ (hE.alloc hsz _) (Le3.bel (by decide) (below_one _ _)) ⟨w'.heap.size, upd_self _ _ _, Blk.new _ _ _⟩)
        | 30, ho =>
          cases ho
          have h29 := hp { on := 29, ground := .data } (by simp) rfl
          simp only [S3] at h29
          obtain ⟨g, h5, hbk⟩ := h29
          refine wp_call 21 #[.slice (some ⟨g, 0, none⟩) 2 2] (w' := w') (by simp only [mk3, h5]; go_simp) ?_
          refine (concatChn_ok A5 B5 a.chans.length b.chans.length a5 b5 g ca cb w' (by have h := hbk.cell 0; simpa using h) (by have h := hbk.cell 1; simpa using h) hbk.lt ((HRA.out.up hE)) ((HRB.out.up hE)) (chnsOne HCA.out) (chnsOne HCB.out) (by have h := HSA.out.bd.x; omega) (by have h := HSB.out.bd.x; omega)).mono ?_
          rintro e w5 ⟨v, rfl, hown, hb5⟩
          exact ⟨v, rfl, hK _ _ (Below.then_ hE hb5) (Le3.bel (by decide) hb5) (by simp only [S3]; rw [upd_self]; exact own_lessC hown hsz)⟩
        | 31, ho =>
          cases ho
          have h0 := hp { on := 0, ground := .data } (by simp) rfl
          simp only [S3] at h0
          have h6 := hp { on := 6, ground := .data } (by simp) rfl
          simp only [S3] at h6
          have h12 := hp { on := 12, ground := .data } (by simp) rfl
          simp only [S3] at h12
          have h18 := hp { on := 18, ground := .data } (by simp) rfl
          simp only [S3] at h18
          have h24 := hp { on := 24, ground := .data } (by simp) rfl
          simp only [S3] at h24
          have h30 := hp { on := 30, ground := .data } (by simp) rfl
          simp only [S3] at h30
          obtain ⟨D6, e6, f6, _⟩ := own_form h6
          obtain ⟨D12, e12, f12, _⟩ := own_form h12
          obtain ⟨D18, e18, f18, _⟩ := own_form h18
          obtain ⟨D24, e24, f24, _⟩ := own_form h24
          obtain ⟨D30, e30, f30, _⟩ := own_form h30
          refine wp_val (.agg #[u 0, u 6, u 12, u 18, u 24, u 30]) (w' := w') (by simp only [mk3, h0, f6, f12, f18, f24, f30]; go_simp) (hK _ _ hE (Le3.bel (by decide) (Below.refl _ _)) (by simp only [S3]; rw [upd_self, upd_ne (i := 31) (j := 0) (by decide), upd_ne (i := 31) (j := 6) (by decide), upd_ne (i := 31) (j := 12) (by decide), upd_ne (i := 31) (j := 18) (by decide), upd_ne (i := 31) (j := 24) (by decide), upd_ne (i := 31) (j := 30) (by decide)]; exact ⟨rfl, h0, ⟨_, _, _, f6⟩, ⟨_, _, _, f12⟩, ⟨_, _, _, f18⟩, ⟨_, _, _, f24⟩, ⟨_, _, _, f30⟩⟩))
        | 32, ho =>
          cases ho
          refine wp_val (.pointer (some ⟨w'.heap.size, 0, none⟩)) (w' := w'.alloc (.cells #[.int .u64 0, .slice none 0 0, .slice none 0 0, .slice none 0 0, .slice none 0 0, .slice none 0 0] 29)) (by simp only [mk3]; go_simp) (hK _ _ (hE.alloc hsz _) (Le3.bel (by decide) (below_one _ _)) ⟨w'.heap.size, _, upd_self _ _ _, hsz, Blk.new _ _ _, rfl⟩)
        | 33, ho =>
          cases ho
          have h31 := hp { on := 31, ground := .data } (by simp) rfl
          simp only [S3] at h31
          have h32 := hp { on := 32, ground := .data } (by simp) rfl
          simp only [S3] at h32
          obtain ⟨g, cs, h32a, h32b, h32c, h32d⟩ := h32
          obtain ⟨h31, h0, ⟨_, _, _, f6⟩, ⟨_, _, _, f12⟩, ⟨_, _, _, f18⟩, ⟨_, _, _, f24⟩, ⟨_, _, _, f30⟩⟩ := h31
          obtain ⟨c0, c1, c2, c3, c4, c5, rfl⟩ := arr6 h32d
          have y0 := h32c.cell 0
          have y1 := h32c.cell 1
          have y2 := h32c.cell 2
          have y3 := h32c.cell 3
          have y4 := h32c.cell 4
          have y5 := h32c.cell 5
          simp at y0 y1 y2 y3 y4 y5
          have hfr := h32c.frozen
          have hgl := h32c.lt
          have b0 := h32c.set_ 0 (u 0)
          have b1 := b0.set_ 1 (u 6)
          have b2 := b1.set_ 2 (u 12)
          have b3 := b2.set_ 3 (u 18)
          have b4 := b3.set_ 4 (u 24)
          have b5 := b4.set_ 5 (u 30)
          refine wp_skip (w' := (((((w'.setCell ⟨g, 0, none⟩ (u 0)).setCell ⟨g, 1, none⟩ (u 6)).setCell ⟨g, 2, none⟩ (u 12)).setCell ⟨g, 3, none⟩ (u 18)).setCell ⟨g, 4, none⟩ (u 24)).setCell ⟨g, 5, none⟩ (u 30)) (by simp only [mk3, h31, h32a, h0, f6, f12, f18, f24, f30]; go_simp) (hK _ _ ((((((hE.setCell h32b _).setCell h32b _).setCell h32b _).setCell h32b _).setCell h32b _).setCell h32b _) (by
            unfold Le3
            rw [if_pos rfl]
            exact (((((StoreC.set_ h32c _).trans (StoreC.set_ b0 _)).trans (StoreC.set_ b1 _)).trans (StoreC.set_ b2 _)).trans (StoreC.set_ b3 _)).trans (StoreC.set_ b4 _)) ⟨g, _, (upd_ne (by decide) _ _).trans h32a, h32b, (upd_ne (by decide) _ _).trans h31, by simpa using b5⟩)
        | n + 34, ho => exact absurd ho (by simp)
      case hend =>
        intro u w4 hE hS
        obtain ⟨gw, X1, X2, X3, X4, X5, x1, x2, x3, x4, x5, h32, cw⟩ := join_box hE (fun i hi => hS i (by simpa using hi)) HCA.out HCB.out
        have CA4 := Lib.hid (CA3.out.up hE)
        have CB4 := Lib.hid (CB3.out.up hE)
        have HZ4 := Lib.hid (Below.then_ HZ3.out hE)
        obtain ⟨C, hC⟩ : ∃ C, joinC F a b = C := ⟨_, rfl⟩
        have HC := Lib.hid hC
        rw [hC] at cw
        have CW := Lib.hid cw
        have HCT := Lib.hid (show C.total ≤ 4194304 by rw [← hC, joinC_total]; have h1 := HSA.out.total; have h2 := HSB.out.total; unfold BIG at h1 h2; omega)
        clear cw hC hE hS HCA HCB HRA HRB CA3 CB3 HZ3
        simp only [mk3, h32, ptr0]
        clear h32
        go_upto_region 4 with (fail)
        refine wp_region_S (by kernel_rfl) (by kernel_rfl) (by kernel_rfl) (mk4 _ _ _ _ _ _ _ _ _ _ _ _ _ _ _ _ _ _ _ _ _ _ _ _ _ _ _ _ _ _ _ _ _ _ _ _ _ _ _ _ _ _ _ _ _ _ _ _ _ _ _ _ _ _ _ _ _ _ _ _ _ _ _ _ _ _ _ _ _ _ _ _ _ _ _ _ _ _ _ _ _ _) (fun _ => undef) rfl ?hput (S4 w4.heap.size (cfgV C.frame X1 X2 X3 X4 X5 C.parts.length C.wins.length C.regs.length C.ports.length C.chans.length x1 x2 x3 x4 x5) (cfgV a.frame A1 A2 A3 A4 A5 a.parts.length a.wins.length a.regs.length a.ports.length a.chans.length a1 a2 a3 a4 a5) (cfgV b.frame B1 B2 B3 B4 B5 b.parts.length b.wins.length b.regs.length b.ports.length b.chans.length b1 b2 b3 b4 b5) C a b) (fun u w' => Below w4.heap.size w4 w' ∧ Sep4 u w') Le4 ⟨(Below.refl w4.heap.size w4).drew, Sep4.start _⟩ (fun i j u w w' hij hE h hl => S4.stay _ _ _ _ _ _ _ i j u w w' hij hE.2 h hl) ?hloc ?hop ?hend
        case hput =>
          intro i o ho u v
          match i, ho with
          | 0, ho => cases ho; exact (mk4_put u v).1 0 (by decide)
          | 1, ho => cases ho; exact (mk4_put u v).1 1 (by decide)
          | 2, ho => cases ho; exact (mk4_put u v).1 2 (by decide)
          | 3, ho => cases ho; exact (mk4_put u v).1 3 (by decide)
          | 4, ho => cases ho; exact (mk4_put u v).1 4 (by decide)
          | 5, ho => cases ho; exact (mk4_put u v).1 5 (by decide)
          | 6, ho => cases ho; exact (mk4_put u v).2.1 0 (by decide)
          | 7, ho => cases ho; exact (mk4_put u v).2.1 1 (by decide)
          | 8, ho => cases ho; exact (mk4_put u v).2.1 2 (by decide)
          | 9, ho => cases ho; exact (mk4_put u v).2.2 0
          | 10, ho => cases ho; exact (mk4_put u v).2.2 1
          | 11, ho => cases ho; exact (mk4_put u v).2.2 2
          | n + 12, ho => exact absurd ho (by simp)
        case hloc =>
          intro i o ho j u v w' hij hp h
          have e := upd_ne (Ne.symm hij) u v
          match i, ho, h, e with
          | 0, ho, h, e => simp only [S4] at h ⊢; rw [e]; exact h
          | 1, ho, h, e => simp only [S4] at h ⊢; rw [e]; exact h
          | 2, ho, h, e => simp only [S4] at h ⊢; rw [e]; exact h
          | 3, ho, h, e => simp only [S4] at h ⊢; rw [e]; exact h
          | 4, ho, h, e => simp only [S4] at h ⊢; rw [e]; exact h
          | 5, ho, h, e => simp only [S4] at h ⊢; rw [e]; exact h
          | 6, ho, h, e => simp only [S4] at h ⊢; rw [e]; exact h
          | 7, ho, h, e => simp only [S4] at h ⊢; rw [e]; exact h
          | 8, ho, h, e => simp only [S4] at h ⊢; rw [e]; exact h
          | 9, ho, h, e =>
            cases ho
            have e6 := upd_ne (hp { on := 6, ground := .data } (by simp) rfl) u v
            simp only [S4] at h ⊢
            rw [e6]
            exact h
          | 10, ho, h, e =>
            cases ho
            have e6 := upd_ne (hp { on := 7, ground := .data } (by simp) rfl) u v
            simp only [S4] at h ⊢
            rw [e6]
            exact h
          | 11, ho, h, e =>
            cases ho
            have e6 := upd_ne (hp { on := 8, ground := .data } (by simp) rfl) u v
            simp only [S4] at h ⊢
            rw [e6]
            exact h
          | n + 12, ho, h, e => trivial
        case hop =>
          intro i o ho u w' hE hp K hK
          have BW := CW.out.up hE.1
          have BA := CA4.out.up hE.1
          have BB := CB4.out.up hE.1
          have hsz := hE.1.size
          match i, ho with
          | 0, ho =>
            cases ho
            obtain ⟨y0, y1, y2, y3, y4, y5⟩ := BW.cells
            have yz := BW.z
            refine wp_val (cfgV C.frame X1 X2 X3 X4 X5 C.parts.length C.wins.length C.regs.length C.ports.length C.chans.length x1 x2 x3 x4 x5) (w' := w') (by simp only [mk4]; go_simp) (hK _ _ ⟨hE.1, hE.2.other (by omega) _ (Nat.le_refl _)⟩ (Le4.bel (by decide) (Below.refl _ _)) (by simp only [S4]; rw [upd_self]))
          | 1, ho =>
            cases ho
            have h0 := hp { on := 0, ground := .data } (by simp) rfl
            simp only [S4] at h0
            refine wp_call 22 #[cfgV C.frame X1 X2 X3 X4 X5 C.parts.length C.wins.length C.regs.length C.ports.length C.chans.length x1 x2 x3 x4 x5] (w' := w') (by simp only [mk4, h0]; go_simp) ?_
            refine (countsW_ok C X1 X2 X3 X4 X5 x1 x2 x3 x4 x5 w' BW.R HCT.out).mono ?_
            rintro e w6 ⟨rfl, hb6⟩
            exact ⟨_, rfl, hK _ _ ⟨Below.then_ hE.1 hb6, hE.2.other (by omega) _ hb6.size⟩ (Le4.bel (by decide) hb6) (by simp only [S4]; rw [upd_self]; rfl)⟩
          | 2, ho =>
            cases ho
            obtain ⟨y0, y1, y2, y3, y4, y5⟩ := BA.cells
            have yz := BA.z
            refine wp_val (cfgV a.frame A1 A2 A3 A4 A5 a.parts.length a.wins.length a.regs.length a.ports.length a.chans.length a1 a2 a3 a4 a5) (w' := w') (by simp only [mk4]; go_simp) (hK _ _ ⟨hE.1, hE.2.other (by omega) _ (Nat.le_refl _)⟩ (Le4.bel (by decide) (Below.refl _ _)) (by simp only [S4]; rw [upd_self]))
          | 3, ho =>
            cases ho
            have h2 := hp { on := 2, ground := .data } (by simp) rfl
            simp only [S4] at h2
            refine wp_call 23 #[cfgV a.frame A1 A2 A3 A4 A5 a.parts.length a.wins.length a.regs.length a.ports.length a.chans.length a1 a2 a3 a4 a5] (w' := w') (by simp only [mk4, h2]; go_simp) ?_
            refine (counts_ok a A1 A2 A3 A4 A5 a1 a2 a3 a4 a5 w' BA.R HSA.out).mono ?_
            rintro e w6 ⟨rfl, hb6⟩
            exact ⟨_, rfl, hK _ _ ⟨Below.then_ hE.1 hb6, hE.2.other (by omega) _ hb6.size⟩ (Le4.bel (by decide) hb6) (by simp only [S4]; rw [upd_self]; rfl)⟩
          | 4, ho =>
            cases ho
            obtain ⟨y0, y1, y2, y3, y4, y5⟩ := BB.cells
            have yz := BB.z
            refine wp_val (cfgV b.frame B1 B2 B3 B4 B5 b.parts.length b.wins.length b.regs.length b.ports.length b.chans.length b1 b2 b3 b4 b5) (w' := w') (by simp only [mk4]; go_simp) (hK _ _ ⟨hE.1, hE.2.other (by omega) _ (Nat.le_refl _)⟩ (Le4.bel (by decide) (Below.refl _ _)) (by simp only [S4]; rw [upd_self]))
          | 5, ho =>
            cases ho
            have h4 := hp { on := 4, ground := .data } (by simp) rfl
            simp only [S4] at h4
            refine wp_call 23 #[cfgV b.frame B1 B2 B3 B4 B5 b.parts.length b.wins.length b.regs.length b.ports.length b.chans.length b1 b2 b3 b4 b5] (w' := w') (by simp only [mk4, h4]; go_simp) ?_
            refine (counts_ok b B1 B2 B3 B4 B5 b1 b2 b3 b4 b5 w' BB.R HSB.out).mono ?_
            rintro e w6 ⟨rfl, hb6⟩
            exact ⟨_, rfl, hK _ _ ⟨Below.then_ hE.1 hb6, hE.2.other (by omega) _ hb6.size⟩ (Le4.bel (by decide) hb6) (by simp only [S4]; rw [upd_self]; rfl)⟩
          | 6, ho =>
            cases ho
            refine wp_val (.pointer (some ⟨w'.heap.size, 0, none⟩)) (w' := w'.alloc (.cells #[.int .i64 0, .int .i64 0, .int .i64 0, .int .i64 0, .int .i64 0, .int .i64 0, .int .i64 0] 52)) (by simp only [mk4]; go_simp) (hK _ _ ⟨hE.1.alloc hsz _, hE.2.mk_ 6 (by simp)⟩ (Le4.bel (by decide) (below_one _ _)) ⟨w'.heap.size, _, upd_self _ _ _, hsz, Blk.new _ _ _, rfl⟩)
          | 7, ho =>
            cases ho
            refine wp_val (.pointer (some ⟨w'.heap.size, 0, none⟩)) (w' := w'.alloc (.cells #[.int .i64 0, .int .i64 0, .int .i64 0, .int .i64 0, .int .i64 0, .int .i64 0, .int .i64 0] 52)) (by simp only [mk4]; go_simp) (hK _ _ ⟨hE.1.alloc hsz _, hE.2.mk_ 7 (by simp)⟩ (Le4.bel (by decide) (below_one _ _)) ⟨w'.heap.size, _, upd_self _ _ _, hsz, Blk.new _ _ _, rfl⟩)
          | 8, ho =>
            cases ho
            refine wp_val (.pointer (some ⟨w'.heap.size, 0, none⟩)) (w' := w'.alloc (.cells #[.int .i64 0, .int .i64 0, .int .i64 0, .int .i64 0, .int .i64 0, .int .i64 0, .int .i64 0] 52)) (by simp only [mk4]; go_simp) (hK _ _ ⟨hE.1.alloc hsz _, hE.2.mk_ 8 (by simp)⟩ (Le4.bel (by decide) (below_one _ _)) ⟨w'.heap.size, _, upd_self _ _ _, hsz, Blk.new _ _ _, rfl⟩)
          | 9, ho =>
            cases ho
            have h6 := hp { on := 6, ground := .data } (by simp) rfl
            simp only [S4] at h6
            have h1 := hp { on := 1, ground := .data } (by simp) rfl
            simp only [S4] at h1
            obtain ⟨g, cs, e6, hgg, hbk, h7⟩ := h6
            obtain ⟨c0, c1, c2, c3, c4, c5, c6, rfl⟩ := arr7 h7
            have y0 := hbk.cell 0
            have y1 := hbk.cell 1
            have y2 := hbk.cell 2
            have y3 := hbk.cell 3
            have y4 := hbk.cell 4
            have y5 := hbk.cell 5
            have y6 := hbk.cell 6
            simp at y0 y1 y2 y3 y4 y5 y6
            have hfr := hbk.frozen
            have hgl := hbk.lt
            have b0 := hbk.set_ 0 (.int .i64 0)
            have b1 := b0.set_ 1 (.int .i64 C.parts.length)
            have b2 := b1.set_ 2 (.int .i64 C.wins.length)
            have b3 := b2.set_ 3 (.int .i64 C.regs.length)
            have b4 := b3.set_ 4 (.int .i64 C.ports.length)
            have b5 := b4.set_ 5 (.int .i64 C.chans.length)
            have b6 := b5.set_ 6 (.int .i64 (sumDests C.chans))
            refine wp_skip (w' := (((((((w'.setCell ⟨g, 0, none⟩ (.int .i64 0)).setCell ⟨g, 1, none⟩ (.int .i64 C.parts.length)).setCell ⟨g, 2, none⟩ (.int .i64 C.wins.length)).setCell ⟨g, 3, none⟩ (.int .i64 C.regs.length)).setCell ⟨g, 4, none⟩ (.int .i64 C.ports.length)).setCell ⟨g, 5, none⟩ (.int .i64 C.chans.length)).setCell ⟨g, 6, none⟩ (.int .i64 (sumDests C.chans)))) (by simp only [mk4, h1, e6, ptr0, cntA]; go_simp) (hK _ _ ⟨(((((((hE.1.setCell hgg _).setCell hgg _).setCell hgg _).setCell hgg _).setCell hgg _).setCell hgg _).setCell hgg _), hE.2.other (.inr (by omega)) _ (by simp)⟩ (Le4.sto (by omega) (by omega) e6 ((((((((Store7.refl g w').step 0 _).step 1 _).step 2 _).step 3 _).step 4 _).step 5 _).step 6 _)) ⟨g, (upd_ne (by decide) _ _).trans e6, hgg, by simpa [cntA] using b6⟩)
          | 10, ho =>
            cases ho
            have h7 := hp { on := 7, ground := .data } (by simp) rfl
            simp only [S4] at h7
            have h3 := hp { on := 3, ground := .data } (by simp) rfl
            simp only [S4] at h3
            obtain ⟨g, cs, e6, hgg, hbk, h7⟩ := h7
            obtain ⟨c0, c1, c2, c3, c4, c5, c6, rfl⟩ := arr7 h7
            have y0 := hbk.cell 0
            have y1 := hbk.cell 1
            have y2 := hbk.cell 2
            have y3 := hbk.cell 3
            have y4 := hbk.cell 4
            have y5 := hbk.cell 5
            have y6 := hbk.cell 6
            simp at y0 y1 y2 y3 y4 y5 y6
            have hfr := hbk.frozen
            have hgl := hbk.lt
            have b0 := hbk.set_ 0 (.int .i64 0)
            have b1 := b0.set_ 1 (.int .i64 a.parts.length)
            have b2 := b1.set_ 2 (.int .i64 a.wins.length)
            have b3 := b2.set_ 3 (.int .i64 a.regs.length)
            have b4 := b3.set_ 4 (.int .i64 a.ports.length)
            have b5 := b4.set_ 5 (.int .i64 a.chans.length)
            have b6 := b5.set_ 6 (.int .i64 (sumDests a.chans))
            refine wp_skip (w' := (((((((w'.setCell ⟨g, 0, none⟩ (.int .i64 0)).setCell ⟨g, 1, none⟩ (.int .i64 a.parts.length)).setCell ⟨g, 2, none⟩ (.int .i64 a.wins.length)).setCell ⟨g, 3, none⟩ (.int .i64 a.regs.length)).setCell ⟨g, 4, none⟩ (.int .i64 a.ports.length)).setCell ⟨g, 5, none⟩ (.int .i64 a.chans.length)).setCell ⟨g, 6, none⟩ (.int .i64 (sumDests a.chans)))) (by simp only [mk4, h3, e6, ptr0, cntA]; go_simp) (hK _ _ ⟨(((((((hE.1.setCell hgg _).setCell hgg _).setCell hgg _).setCell hgg _).setCell hgg _).setCell hgg _).setCell hgg _), hE.2.other (.inr (by omega)) _ (by simp)⟩ (Le4.sto (by omega) (by omega) e6 ((((((((Store7.refl g w').step 0 _).step 1 _).step 2 _).step 3 _).step 4 _).step 5 _).step 6 _)) ⟨g, (upd_ne (by decide) _ _).trans e6, hgg, by simpa [cntA] using b6⟩)
          | 11, ho =>
            cases ho
            have h8 := hp { on := 8, ground := .data } (by simp) rfl
            simp only [S4] at h8
            have h5 := hp { on := 5, ground := .data } (by simp) rfl
            simp only [S4] at h5
            obtain ⟨g, cs, e6, hgg, hbk, h7⟩ := h8
            obtain ⟨c0, c1, c2, c3, c4, c5, c6, rfl⟩ := arr7 h7
            have y0 := hbk.cell 0
            have y1 := hbk.cell 1
            have y2 := hbk.cell 2
            have y3 := hbk.cell 3
            have y4 := hbk.cell 4
            have y5 := hbk.cell 5
            have y6 := hbk.cell 6
            simp at y0 y1 y2 y3 y4 y5 y6
            have hfr := hbk.frozen
            have hgl := hbk.lt
            have b0 := hbk.set_ 0 (.int .i64 0)
            have b1 := b0.set_ 1 (.int .i64 b.parts.length)
            have b2 := b1.set_ 2 (.int .i64 b.wins.length)
            have b3 := b2.set_ 3 (.int .i64 b.regs.length)
            have b4 := b3.set_ 4 (.int .i64 b.ports.length)
            have b5 := b4.set_ 5 (.int .i64 b.chans.length)
            have b6 := b5.set_ 6 (.int .i64 (sumDests b.chans))
            refine wp_skip (w' := (((((((w'.setCell ⟨g, 0, none⟩ (.int .i64 0)).setCell ⟨g, 1, none⟩ (.int .i64 b.parts.length)).setCell ⟨g, 2, none⟩ (.int .i64 b.wins.length)).setCell ⟨g, 3, none⟩ (.int .i64 b.regs.length)).setCell ⟨g, 4, none⟩ (.int .i64 b.ports.length)).setCell ⟨g, 5, none⟩ (.int .i64 b.chans.length)).setCell ⟨g, 6, none⟩ (.int .i64 (sumDests b.chans)))) (by simp only [mk4, h5, e6, ptr0, cntA]; go_simp) (hK _ _ ⟨(((((((hE.1.setCell hgg _).setCell hgg _).setCell hgg _).setCell hgg _).setCell hgg _).setCell hgg _).setCell hgg _), hE.2.other (.inr (by omega)) _ (by simp)⟩ (Le4.sto (by omega) (by omega) e6 ((((((((Store7.refl g w').step 0 _).step 1 _).step 2 _).step 3 _).step 4 _).step 5 _).step 6 _)) ⟨g, (upd_ne (by decide) _ _).trans e6, hgg, by simpa [cntA] using b6⟩)
          | n + 12, ho => exact absurd ho (by simp)
        case hend =>
          intro u w5 hE hS
          have n0 := hS 9 (by simp)
          have n1 := hS 10 (by simp)
          have n2 := hS 11 (by simp)
          simp only [S4] at n0 n1 n2
          obtain ⟨g6, e6, _, k6⟩ := n0
          obtain ⟨g7, e7, _, k7⟩ := n1
          obtain ⟨g8, e8, _, k8⟩ := n2
          have K6 := Lib.hid k6
          have K7 := Lib.hid k7
          have K8 := Lib.hid k8
          have CW5 := Lib.hid (CW.out.up hE.1)
          have CA5 := Lib.hid (CA4.out.up hE.1)
          have CB5 := Lib.hid (CB4.out.up hE.1)
          have HZ5 := Lib.hid (Below.then_ HZ4.out hE.1)
          simp only [mk4, e6, e7, e8, ptr0]
          clear hE hS e6 e7 e8 k6 k7 k8 CW CA4 CB4 HZ4
          have HBA := Lib.hid (Below.refl w5.heap.size w5)
          go_upto_region 6 with (fail)
          go_loopw [59] (fun i wr => ∃ k : Nat, k ≤ 7 ∧ i = .int .i64 k ∧ Hid (Below w5.heap.size w5 wr)) (fun i _ => 7 - (intOf i).toNat)
          case atStart => exact ⟨0, by omega, rfl, HBA⟩
          case round =>
            clear HBA
            obtain ⟨k, hk, rfl, HB⟩ := hrel
            by_cases hlt : k < 7
            · have k0 : (0 : Int) ≤ (k : Int) := by omega
              have k1 : (k : Int) < 7 := by omega
              have v6 := ((K6.out.below HB.out K6.out.lt).cell k).trans (cntA_at C hlt)
              have v7 := ((K7.out.below HB.out K7.out.lt).cell k).trans (cntA_at a hlt)
              have v8 := ((K8.out.below HB.out K8.out.lt).cell k).trans (cntA_at b hlt)
              rw [← HC.out, cntF_join] at v6
              have q7 := cntF_le a k
              have q8 := cntF_le b k
              have t7 := HTA.out
              have t8 := HTB.out
              obtain ⟨n7, l7⟩ : (0 ≤ cntF a k) ∧ cntF a k ≤ 4194304 := ⟨q7.1, by omega⟩
              obtain ⟨n8, l8⟩ : (0 ≤ cntF b k) ∧ cntF b k ≤ 4194304 := ⟨q8.1, by omega⟩
              generalize cntF a k = z7 at v6 v7 n7 l7
              generalize cntF b k = z8 at v6 v8 n8 l8
              clear q7 q8 t7 t8
              go_upto_region 8 with (fail)
              go_quiet (fail)
              go_wp2
              go_roundw
              case rel => exact ⟨k + 1, by omega, by go_num, (by first | exact HB | exact Lib.hid (below_drewN HB.out _))⟩
              case measure => simp [intOf]; omega
            · obtain rfl : k = 7 := by omega
              obtain ⟨V, rfl⟩ : ∃ V, V = wr := ⟨_, rfl⟩
              have BW := Lib.hid (CW5.out.up HB.out)
              have BA := Lib.hid (CA5.out.up HB.out)
              have BB := Lib.hid (CB5.out.up HB.out)
              have HZV := Lib.hid (Below.then_ HZ5.out HB.out)
              have HTT := Lib.hid (show a.total + b.total ≤ 4194304 by have h1 := HSA.out.total; have h2 := HSB.out.total; unfold BIG at h1 h2; omega)
              have HCO := Lib.hid (show C.ok by rw [← HC.out]; exact joinC_ok HF.out HOA.out HOB.out)
              have HCS := Lib.hid (show C.small by rw [← HC.out]; exact joinC_small HSA.out HSB.out (few_sum H1.out H2.out))
              have HED := Lib.hid (show eqC C C = true from eqC_yes rfl)
              have KEEP : ∀ U, Below V.heap.size V U → (fun U => U.cell? ⟨w.heap.size, 0, none⟩ = some (.int .u64 a.frame) ∧ U.cell? ⟨w.heap.size, 1, none⟩ = some (.slice A1 a.parts.length a1) ∧ U.cell? ⟨w.heap.size, 2, none⟩ = some (.slice A2 a.wins.length a2) ∧ U.cell? ⟨w.heap.size, 3, none⟩ = some (.slice A3 a.regs.length a3) ∧ U.cell? ⟨w.heap.size, 4, none⟩ = some (.slice A4 a.ports.length a4) ∧ U.cell? ⟨w.heap.size, 5, none⟩ = some (.slice A5 a.chans.length a5) ∧ U.cell? ⟨w.heap.size + 1, 0, none⟩ = some (.int .u64 b.frame) ∧ U.cell? ⟨w.heap.size + 1, 1, none⟩ = some (.slice B1 b.parts.length b1) ∧ U.cell? ⟨w.heap.size + 1, 2, none⟩ = some (.slice B2 b.wins.length b2) ∧ U.cell? ⟨w.heap.size + 1, 3, none⟩ = some (.slice B3 b.regs.length b3) ∧ U.cell? ⟨w.heap.size + 1, 4, none⟩ = some (.slice B4 b.ports.length b4) ∧ U.cell? ⟨w.heap.size + 1, 5, none⟩ = some (.slice B5 b.chans.length b5) ∧ U.cell? ⟨gw, 0, none⟩ = some (.int .u64 C.frame) ∧ U.cell? ⟨gw, 1, none⟩ = some (.slice X1 C.parts.length x1) ∧ U.cell? ⟨gw, 2, none⟩ = some (.slice X2 C.wins.length x2) ∧ U.cell? ⟨gw, 3, none⟩ = some (.slice X3 C.regs.length x3) ∧ U.cell? ⟨gw, 4, none⟩ = some (.slice X4 C.ports.length x4) ∧ U.cell? ⟨gw, 5, none⟩ = some (.slice X5 C.chans.length x5)) U := fun U hU => by
                obtain ⟨a0, a1, a2, a3, a4, a5⟩ := (BA.out.up hU).cells
                obtain ⟨b0, b1, b2, b3, b4, b5⟩ := (BB.out.up hU).cells
                obtain ⟨e0, e1, e2, e3, e4, e5⟩ := (BW.out.up hU).cells
                exact ⟨a0, a1, a2, a3, a4, a5, b0, b1, b2, b3, b4, b5, e0, e1, e2, e3, e4, e5⟩
              have HKP := Lib.hid KEEP
              obtain ⟨t0, t1, t2, t3, t4, t5, s0, s1, s2, s3, s4, s5, r0, r1, r2, r3, r4, r5⟩ := KEEP V (Below.refl _ _)
              have HBW := Lib.hid (Below.refl V.heap.size V)
              clear KEEP HB
              go_upto_region 11 with (fail)
              go_region_held3 (fun U => U.cell? ⟨w.heap.size, 0, none⟩ = some (.int .u64 a.frame) ∧ U.cell? ⟨w.heap.size, 1, none⟩ = some (.slice A1 a.parts.length a1) ∧ U.cell? ⟨w.heap.size, 2, none⟩ = some (.slice A2 a.wins.length a2) ∧ U.cell? ⟨w.heap.size, 3, none⟩ = some (.slice A3 a.regs.length a3) ∧ U.cell? ⟨w.heap.size, 4, none⟩ = some (.slice A4 a.ports.length a4) ∧ U.cell? ⟨w.heap.size, 5, none⟩ = some (.slice A5 a.chans.length a5) ∧ U.cell? ⟨w.heap.size + 1, 0, none⟩ = some (.int .u64 b.frame) ∧ U.cell? ⟨w.heap.size + 1, 1, none⟩ = some (.slice B1 b.parts.length b1) ∧ U.cell? ⟨w.heap.size + 1, 2, none⟩ = some (.slice B2 b.wins.length b2) ∧ U.cell? ⟨w.heap.size + 1, 3, none⟩ = some (.slice B3 b.regs.length b3) ∧ U.cell? ⟨w.heap.size + 1, 4, none⟩ = some (.slice B4 b.ports.length b4) ∧ U.cell? ⟨w.heap.size + 1, 5, none⟩ = some (.slice B5 b.chans.length b5) ∧ U.cell? ⟨gw, 0, none⟩ = some (.int .u64 C.frame) ∧ U.cell? ⟨gw, 1, none⟩ = some (.slice X1 C.parts.length x1) ∧ U.cell? ⟨gw, 2, none⟩ = some (.slice X2 C.wins.length x2) ∧ U.cell? ⟨gw, 3, none⟩ = some (.slice X3 C.regs.length x3) ∧ U.cell? ⟨gw, 4, none⟩ = some (.slice X4 C.ports.length x4) ∧ U.cell? ⟨gw, 5, none⟩ = some (.slice X5 C.chans.length x5))
                (first | (refine HKP.out _ ?_; (repeat (first | with_reducible exact HBW.out | with_reducible exact Below.refl _ _ | with_reducible refine Below.drew ?_ | (with_reducible refine Below.alloc ?_ (by first | (simp; done) | (have hq := HBW.out.size; simp at hq ⊢; omega)) _) | (with_reducible refine Below.setCell ?_ (by first | (simp; done) | (have hq := HBW.out.size; simp at hq ⊢; omega)) _))); done) | go_keep)
                (first
                | (go_at_call 10; refine (alive_ok _).mono ?_; rintro e q1 ⟨rfl, hq⟩; have HBW := Lib.hid (Below.then_ (show Below V.heap.size V _ from (by (repeat (first | with_reducible exact HBW.out | with_reducible exact Below.refl _ _ | with_reducible refine Below.drew ?_ | (with_reducible refine Below.alloc ?_ (by first | (simp; done) | (have hq := HBW.out.size; simp at hq ⊢; omega)) _) | (with_reducible refine Below.setCell ?_ (by first | (simp; done) | (have hq := HBW.out.size; simp at hq ⊢; omega)) _))))) hq); clear hq)
                | (go_at_call 24; ((with_reducible refine (merge2_ok F a A1 A2 A3 A4 A5 a1 a2 a3 a4 a5 b B1 B2 B3 B4 B5 b1 b2 b3 b4 b5 _ (BA.out.up (by (repeat (first | with_reducible exact HBW.out | with_reducible exact Below.refl _ _ | with_reducible refine Below.drew ?_ | (with_reducible refine Below.alloc ?_ (by first | (simp; done) | (have hq := HBW.out.size; simp at hq ⊢; omega)) _) | (with_reducible refine Below.setCell ?_ (by first | (simp; done) | (have hq := HBW.out.size; simp at hq ⊢; omega)) _))))).R (BB.out.up (by (repeat (first | with_reducible exact HBW.out | with_reducible exact Below.refl _ _ | with_reducible refine Below.drew ?_ | (with_reducible refine Below.alloc ?_ (by first | (simp; done) | (have hq := HBW.out.size; simp at hq ⊢; omega)) _) | (with_reducible refine Below.setCell ?_ (by first | (simp; done) | (have hq := HBW.out.size; simp at hq ⊢; omega)) _))))).R HTT.out C HC _).mono ?_); rintro e q1 ⟨P1, P2, P3, P4, P5, p1, p2, p3, p4, p5, rfl, hP, hq⟩; have CP := Lib.hid hP; have HBW := Lib.hid (Below.then_ (show Below V.heap.size V _ from (by (repeat (first | with_reducible exact HBW.out | with_reducible exact Below.refl _ _ | with_reducible refine Below.drew ?_ | (with_reducible refine Below.alloc ?_ (by first | (simp; done) | (have hq := HBW.out.size; simp at hq ⊢; omega)) _) | (with_reducible refine Below.setCell ?_ (by first | (simp; done) | (have hq := HBW.out.size; simp at hq ⊢; omega)) _))))) hq); clear hq hP))
                | (go_at_call 24; ((with_reducible refine (merge0_ok F _).mono ?_); rintro e q1 ⟨Q1, Q2, Q3, Q4, Q5, q1, q2, q3, q4, q5, rfl, hP, hq⟩; have CQ := Lib.hid hP; have HBW := Lib.hid (Below.then_ (show Below V.heap.size V _ from (by (repeat (first | with_reducible exact HBW.out | with_reducible exact Below.refl _ _ | with_reducible refine Below.drew ?_ | (with_reducible refine Below.alloc ?_ (by first | (simp; done) | (have hq := HBW.out.size; simp at hq ⊢; omega)) _) | (with_reducible refine Below.setCell ?_ (by first | (simp; done) | (have hq := HBW.out.size; simp at hq ⊢; omega)) _))))) hq); clear hq hP))
                | (go_at_call 14; ((with_reducible refine (rSame_ok C P1 P2 P3 P4 P5 p1 p2 p3 p4 p5 C X1 X2 X3 X4 X5 x1 x2 x3 x4 x5 _ (by first | exact CP.out | exact CP.out.up (by (repeat (first | with_reducible exact HBW.out | with_reducible exact Below.refl _ _ | with_reducible refine Below.drew ?_ | (with_reducible refine Below.alloc ?_ (by first | (simp; done) | (have hq := HBW.out.size; simp at hq ⊢; omega)) _) | (with_reducible refine Below.setCell ?_ (by first | (simp; done) | (have hq := HBW.out.size; simp at hq ⊢; omega)) _))))) (BW.out.up (by (repeat (first | with_reducible exact HBW.out | with_reducible exact Below.refl _ _ | with_reducible refine Below.drew ?_ | (with_reducible refine Below.alloc ?_ (by first | (simp; done) | (have hq := HBW.out.size; simp at hq ⊢; omega)) _) | (with_reducible refine Below.setCell ?_ (by first | (simp; done) | (have hq := HBW.out.size; simp at hq ⊢; omega)) _))))).R HCO.out HCS.out HCO.out HCS.out true HED).mono ?_); rintro e q1 ⟨rfl, hq⟩; have HBW := Lib.hid (Below.then_ (show Below V.heap.size V _ from (by (repeat (first | with_reducible exact HBW.out | with_reducible exact Below.refl _ _ | with_reducible refine Below.drew ?_ | (with_reducible refine Below.alloc ?_ (by first | (simp; done) | (have hq := HBW.out.size; simp at hq ⊢; omega)) _) | (with_reducible refine Below.setCell ?_ (by first | (simp; done) | (have hq := HBW.out.size; simp at hq ⊢; omega)) _))))) hq); clear hq))
                | (go_at_call 14; ((with_reducible refine (same0_ok F HF.out Q1 Q2 Q3 Q4 Q5 q1 q2 q3 q4 q5 _ CQ.out).mono ?_); rintro e q1 ⟨rfl, hq⟩; have HBW := Lib.hid (Below.then_ (show Below V.heap.size V _ from (by (repeat (first | with_reducible exact HBW.out | with_reducible exact Below.refl _ _ | with_reducible refine Below.drew ?_ | (with_reducible refine Below.alloc ?_ (by first | (simp; done) | (have hq := HBW.out.size; simp at hq ⊢; omega)) _) | (with_reducible refine Below.setCell ?_ (by first | (simp; done) | (have hq := HBW.out.size; simp at hq ⊢; omega)) _))))) hq); clear hq))
                | fail)
              all_goals
                go_wp2
                go_ret
                exact ⟨rfl, Below.then_ HZV.out HBW.out⟩
    · have H1 := Lib.hid h1
      have H2 := Lib.hid h2
      clear h1 h2
      go_enter Tryz.func5, Tryz.ntmps5
      go_upto_region 1 with (fail)
      rw [HW0.out, HW1.out]
      go_wp2_with fail
      refine (few_valB a A1 A2 A3 A4 A5 a1 a2 a3 a4 a5 W1 CA.out.R HSA.out true H1).mono ?_
      rintro e w2 ⟨rfl, hb2⟩
      have CB2 := Lib.hid (CB.out.up hb2)
      have HB2 := Lib.hid (Below.then_ HZ1.out hb2)
      clear hb2 p0 p1 p2 p3 p4 p5 q0 q1 q2 q3 q4 q5 hz1 hz2
      obtain ⟨q0, q1, q2, q3, q4, q5⟩ := CB2.out.cells
      go_wp2_with fail
      refine (few_valB b B1 B2 B3 B4 B5 b1 b2 b3 b4 b5 w2 CB2.out.R HSB.out false H2).mono ?_
      rintro e w3 ⟨rfl, hb3⟩
      have HZx := Lib.hid (Below.then_ HB2.out hb3)
      clear hb3 q0 q1 q2 q3 q4 q5
      go_wp2_with fail
      refine (alive_ok _).mono ?_
      rintro e w9 ⟨rfl, hb9⟩
      have HZ9 := Lib.hid (Below.then_ HZx.out hb9)
      clear hb9
      go_wp2
      go_ret
      exact ⟨rfl, HZ9.out⟩
  · have H1 := Lib.hid h1
    clear h1
    go_enter Tryz.func5, Tryz.ntmps5
    go_upto_region 1 with (fail)
    rw [HW0.out, HW1.out]
    go_wp2_with fail
    refine (few_valB a A1 A2 A3 A4 A5 a1 a2 a3 a4 a5 W1 CA.out.R HSA.out false H1).mono ?_
    rintro e w2 ⟨rfl, hb2⟩
    have HZx := Lib.hid (Below.then_ HZ1.out hb2)
    clear hb2 p0 p1 p2 p3 p4 p5 q0 q1 q2 q3 q4 q5 hz1 hz2
    go_wp2_with fail
    refine (alive_ok _).mono ?_
    rintro e w9 ⟨rfl, hb9⟩
    have HZ9 := Lib.hid (Below.then_ HZx.out hb9)
    clear hb9
    go_wp2
    go_ret
    exact ⟨rfl, HZ9.out⟩
end Go.Proofs.YtldchpmilknlmaaGreat
