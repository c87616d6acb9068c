/-
  The law PackTwice, walked.
-/
import Derived.BigQuiet
import Derived.IntWalk
import Derived.Test.YtcfoolooemhbeaaGreatAlive11
import Derived.Test.YtcfoolooemhbeaaGreatRfTw
import Derived.Test.YtcfoolooemhbeaaGreatMrgZ
namespace Go.Proofs.YtcfoolooemhbeaaGreat
open Go.RowKit Go.Lib
def dblT (c : Cfg) : Cfg := ⟨c.frame, c.parts ++ c.parts, c.wins ++ c.wins, c.regs ++ c.regs, c.ports ++ c.ports, c.chans ++ c.chans⟩
theorem dblT_ok {c : Cfg} (h : c.ok) : (dblT c).ok := by
  have key : ∀ {α : Type} {P : α → Prop} {l : List α}, (∀ y ∈ l, P y) → ∀ y ∈ l ++ l, P y := fun h y hy => by
    rcases List.mem_append.1 hy with hy | hy <;> exact h y hy
  exact ⟨h.frame, key h.parts, key h.wins, key h.regs, key h.ports, key h.chans⟩
theorem dblT_total (c : Cfg) : (dblT c).total = c.total + c.total := by
  unfold Cfg.total dblT sumDests
  simp only [List.length_append, List.map_append, List.sum_append]
  omega
theorem dblT_small {c : Cfg} (h : c.small) (h2 : c.total ≤ 120) : (dblT c).small := by
  have key : ∀ {α : Type} {P : α → Prop} {l : List α}, (∀ y ∈ l, P y) → ∀ y ∈ l ++ l, P y := fun h y hy => by
    rcases List.mem_append.1 hy with hy | hy <;> exact h y hy
  refine ⟨?_, key h.pnames, key h.tnames⟩
  rw [dblT_total]
  unfold BIG
  omega
theorem catAll_dblT (c : Cfg) : catAll c.frame [c, c] = dblT c := by
  simp [catAll, Cfg.cat, dblT]
set_option maxRecDepth 100000 in
set_option maxHeartbeats 2000000 in
theorem mergeDT_ok (c : Cfg) (A1 A2 A3 A4 A5 : Option Addr) (c1 c2 c3 c4 c5 : Nat) (w : World) (hR : CfgR w w.heap.size c A1 A2 A3 A4 A5 c1 c2 c3 c4 c5) (ht : c.total + c.total ≤ 4194304) (C : Cfg) (hC : Hid (dblT c = C)) (t : TypeId) (W : World) (hW : W = w.alloc (.cells #[.int .u64 c.frame, .slice A1 c.parts.length c1, .slice A2 c.wins.length c2, .slice A3 c.regs.length c3, .slice A4 c.ports.length c4, .slice A5 c.chans.length c5, .int .u64 c.frame, .slice A1 c.parts.length c1, .slice A2 c.wins.length c2, .slice A3 c.regs.length c3, .slice A4 c.ports.length c4, .slice A5 c.chans.length c5] t)) :
    Calls Tryz.prog 22 #[.int .u64 c.frame, .slice (some ⟨w.heap.size, 0, none⟩) 2 2] W fun e w' => ∃ (P1 P2 P3 P4 P5 : Option Addr) (p1 p2 p3 p4 p5 : Nat),
      e = .returned (cfgV C.frame P1 P2 P3 P4 P5 C.parts.length C.wins.length C.regs.length C.ports.length C.chans.length p1 p2 p3 p4 p5) ∧ CfgR w' w'.heap.size C P1 P2 P3 P4 P5 p1 p2 p3 p4 p5 ∧ Below W.heap.size W w' := by
  have hb : Below w.heap.size w W := by rw [hW]; exact below_one _ _
  have hk := Blk.new w t #[.int .u64 c.frame, .slice A1 c.parts.length c1, .slice A2 c.wins.length c2, .slice A3 c.regs.length c3, .slice A4 c.ports.length c4, .slice A5 c.chans.length c5, .int .u64 c.frame, .slice A1 c.parts.length c1, .slice A2 c.wins.length c2, .slice A3 c.regs.length c3, .slice A4 c.ports.length c4, .slice A5 c.chans.length c5]
  rw [← hW] at hk
  have h1 : RowsOf (CfgC W W.heap.size) [c, c] ([.int .u64 c.frame, .slice A1 c.parts.length c1, .slice A2 c.wins.length c2, .slice A3 c.regs.length c3, .slice A4 c.ports.length c4, .slice A5 c.chans.length c5] ++ [.int .u64 c.frame, .slice A1 c.parts.length c1, .slice A2 c.wins.length c2, .slice A3 c.regs.length c3, .slice A4 c.ports.length c4, .slice A5 c.chans.length c5]) := rows_app (rows_one ⟨A1, A2, A3, A4, A5, c1, c2, c3, c4, c5, rfl, hR.up hb⟩) (rows_one ⟨A1, A2, A3, A4, A5, c1, c2, c3, c4, c5, rfl, hR.up hb⟩)
  have h2 : Rd W W.heap.size 6 (some ⟨w.heap.size, 0, none⟩) 2 ([.int .u64 c.frame, .slice A1 c.parts.length c1, .slice A2 c.wins.length c2, .slice A3 c.regs.length c3, .slice A4 c.ports.length c4, .slice A5 c.chans.length c5] ++ [.int .u64 c.frame, .slice A1 c.parts.length c1, .slice A2 c.wins.length c2, .slice A3 c.regs.length c3, .slice A4 c.ports.length c4, .slice A5 c.chans.length c5]) := ⟨rfl, fun _ => ⟨_, _, rfl, hk.lt, fun j u hu => by rw [Nat.zero_add]; exact (hk.cell _).trans (by simpa using hu)⟩⟩
  refine (mergeC_ok c.frame [c, c] (some ⟨w.heap.size, 0, none⟩) 2 _ W h1 h2 (by simp) (by simpa [sumTot] using ht)).mono ?_
  rintro e w' ⟨P1, P2, P3, P4, P5, p1, p2, p3, p4, p5, he, ho, hb⟩
  rw [catAll_dblT, hC.out] at he ho
  have hF : c.frame = C.frame := by rw [← hC.out]; rfl
  exact ⟨P1, P2, P3, P4, P5, p1, p2, p3, p4, p5, by rw [he, hF], ho.toR, hb⟩
theorem few_totT {c : Cfg} (h : few c = true) : c.total ≤ 120 := by
  unfold few at h
  simp only [Bool.and_eq_true, decide_eq_true_eq] at h
  exact h.2
/-- a configuration that is merged with itself has equal records, unless it has none -/
theorem twc_dbl (c : Cfg) : (twcF (dblT c) = noFlt ∧ c.parts = [] ∧ c.wins = [] ∧ c.regs = [] ∧ c.ports = [] ∧ c.chans = []) ∨ ((twcF (dblT c)).code = 18 ∧ 0 < c.parts.length + c.wins.length + c.regs.length + c.ports.length + c.chans.length) := by
  by_cases h1 : c.parts = []
  · by_cases h2 : c.wins = []
    · by_cases h3 : c.regs = []
      · by_cases h4 : c.ports = []
        · by_cases h5 : c.chans = []
          · left
            refine ⟨?_, h1, h2, h3, h4, h5⟩
            have e : (dblT c).norm = ⟨c.frame, [], [], [], [], []⟩ := by unfold Cfg.norm dblT; simp [normK, h1, h2, h3, h4, h5]
            unfold twcF
            rw [e]
            rfl
          · right
            have hp : 0 < adjI keyChn (dblT c).norm.chans := by
              have h := adj_dup (key := keyChn) (c.chans.map sortD) (by simpa using h5)
              rwa [← List.map_append] at h
            refine ⟨?_, by have := List.length_pos_iff.2 h5; omega⟩
            have e : ∀ {α : Type} (k : α → List Int), ¬ 0 < adjI k (normK k (([] : List α) ++ [])) := fun k => by simp [normK, adjI]
            unfold twcF
            rw [firstTwc_5 (by show ¬ 0 < adjI keyPar (normK keyPar (c.parts ++ c.parts)); rw [h1]; exact e _) (by show ¬ 0 < adjI keyWin (normK keyWin (c.wins ++ c.wins)); rw [h2]; exact e _) (by show ¬ 0 < adjI keyReg (normK keyReg (c.regs ++ c.regs)); rw [h3]; exact e _) (by show ¬ 0 < adjI keyPrt (normK keyPrt (c.ports ++ c.ports)); rw [h4]; exact e _) hp]
        · right
          have hp : 0 < adjI keyPrt (dblT c).norm.ports := adj_dup (key := keyPrt) c.ports h4
          refine ⟨?_, by have := List.length_pos_iff.2 h4; omega⟩
          have e : ∀ {α : Type} (k : α → List Int), ¬ 0 < adjI k (normK k (([] : List α) ++ [])) := fun k => by simp [normK, adjI]
          unfold twcF
          rw [firstTwc_4 (by show ¬ 0 < adjI keyPar (normK keyPar (c.parts ++ c.parts)); rw [h1]; exact e _) (by show ¬ 0 < adjI keyWin (normK keyWin (c.wins ++ c.wins)); rw [h2]; exact e _) (by show ¬ 0 < adjI keyReg (normK keyReg (c.regs ++ c.regs)); rw [h3]; exact e _) hp]
      · right
        have hp : 0 < adjI keyReg (dblT c).norm.regs := adj_dup (key := keyReg) c.regs h3
        refine ⟨?_, by have := List.length_pos_iff.2 h3; omega⟩
        have e : ∀ {α : Type} (k : α → List Int), ¬ 0 < adjI k (normK k (([] : List α) ++ [])) := fun k => by simp [normK, adjI]
        unfold twcF
        rw [firstTwc_3 (by show ¬ 0 < adjI keyPar (normK keyPar (c.parts ++ c.parts)); rw [h1]; exact e _) (by show ¬ 0 < adjI keyWin (normK keyWin (c.wins ++ c.wins)); rw [h2]; exact e _) hp]
    · right
      have hp : 0 < adjI keyWin (dblT c).norm.wins := adj_dup (key := keyWin) c.wins h2
      refine ⟨?_, by have := List.length_pos_iff.2 h2; omega⟩
      have e : ∀ {α : Type} (k : α → List Int), ¬ 0 < adjI k (normK k (([] : List α) ++ [])) := fun k => by simp [normK, adjI]
      unfold twcF
      rw [firstTwc_2 (by show ¬ 0 < adjI keyPar (normK keyPar (c.parts ++ c.parts)); rw [h1]; exact e _) hp]
  · right
    have hp : 0 < adjI keyPar (dblT c).norm.parts := adj_dup (key := keyPar) c.parts h1
    refine ⟨?_, by have := List.length_pos_iff.2 h1; omega⟩
    unfold twcF
    rw [firstTwc_1 hp]
set_option maxRecDepth 100000 in
set_option maxHeartbeats 16000000 in
theorem packTwice_ok (c : Cfg) (A1 A2 A3 A4 A5 : Option Addr) (c1 c2 c3 c4 c5 : Nat) (w : World) (hR : CfgR w w.heap.size c A1 A2 A3 A4 A5 c1 c2 c3 c4 c5) (hs : c.small) (hok : c.ok) : Calls Tryz.prog 6 #[cfgV c.frame A1 A2 A3 A4 A5 c.parts.length c.wins.length c.regs.length c.ports.length c.chans.length c1 c2 c3 c4 c5] w fun e w' => e = .returned (.bool true) ∧ Below w.heap.size w w' := by
  obtain ⟨W0, hW, st⟩ := St.start_any hR 29
  have HW := Lib.hid hW
  have ST0 := Lib.hid st
  have HOK := Lib.hid hok
  have HSM := Lib.hid hs
  have HTT := Lib.hid hs.tot
  obtain ⟨x0, x1, x2, x3, x4, x5, hz⟩ := st.cells
  clear hR hW st hok hs
  rcases bool_cases (few c) with h1 | h1
  rotate_left
  · have H1 := Lib.hid h1
    clear h1
    go_enter Tryz.func6, Tryz.ntmps6
    go_upto_region 1 with (fail)
    rw [HW.out]
    go_wp2_with fail
    refine (few_valB c _ _ _ _ _ _ _ _ _ _ _ ST0.out.R HSM.out false H1).mono ?_
    rintro e w1 ⟨rfl, hb1⟩
    have HB1 := Lib.hid (ST0.out.up hb1).bel
    clear hb1 x0 x1 x2 x3 x4 x5 hz
    go_wp2_with fail
    refine (alive11_ok _).mono ?_
    rintro e w2 ⟨rfl, hb2⟩
    have HZ := Lib.hid (Below.then_ HB1.out hb2)
    clear hb2
    go_wp2
    go_ret
    exact ⟨rfl, HZ.out⟩
  · have H1 := Lib.hid h1
    have hto := few_totT h1
    have HTO := Lib.hid hto
    obtain ⟨k1, k2, k3, hr⟩ : ∃ a b d, twcF c = ⟨a, b, d⟩ := ⟨_, _, _, rfl⟩
    have HRR := Lib.hid hr
    obtain ⟨D, hD⟩ : ∃ D, dblT c = D := ⟨_, rfl⟩
    have HD := Lib.hid hD
    obtain ⟨f1, f2, f3, hf⟩ : ∃ a b d, twcF D = ⟨a, b, d⟩ := ⟨_, _, _, rfl⟩
    have HFF := Lib.hid hf
    have HDS := Lib.hid (show D.total ≤ 4194304 by rw [← hD, dblT_total]; omega)
    have b1 : c.parts.length ≤ 120 := by unfold Cfg.total at hto; omega
    have b2 : c.wins.length ≤ 120 := by unfold Cfg.total at hto; omega
    have b3 : c.regs.length ≤ 120 := by unfold Cfg.total at hto; omega
    have b4 : c.ports.length ≤ 120 := by unfold Cfg.total at hto; omega
    have b5 : c.chans.length ≤ 120 := by unfold Cfg.total at hto; omega
    have hdb : (f1 = 0 ∧ f2 = 0 ∧ f3 = 0 ∧ c.parts.length + c.wins.length + c.regs.length + c.ports.length + c.chans.length = 0) ∨ (f1 = 18 ∧ 0 < c.parts.length + c.wins.length + c.regs.length + c.ports.length + c.chans.length) := by
      rcases twc_dbl c with ⟨q, a1, a2, a3, a4, a5⟩ | ⟨q, a⟩
      · rw [hD, hf] at q
        exact .inl ⟨congrArg Flt.code q, congrArg Flt.part q, congrArg Flt.at_ q, by rw [a1, a2, a3, a4, a5]; rfl⟩
      · rw [hD, hf] at q
        exact .inr ⟨q, a⟩
    have HDB := Lib.hid hdb
    clear h1 hr hD hf hdb hto
    go_enter Tryz.func6, Tryz.ntmps6
    go_upto_region 1 with (fail)
    rw [HW.out]
    go_wp2_with fail
    refine (few_valB c _ _ _ _ _ _ _ _ _ _ _ ST0.out.R HSM.out true H1).mono ?_
    rintro e0 w1 ⟨rfl, hb1⟩
    have ST1 := Lib.hid (ST0.out.up hb1)
    clear hb1 x0 x1 x2 x3 x4 x5 hz
    obtain ⟨x0, x1, x2, x3, x4, x5, hz⟩ := ST1.out.cells
    go_wp2_with fail
    refine (rTwice11_ok c _ _ _ _ _ _ _ _ _ _ _ ST1.out.R HOK.out HSM.out k1 k2 k3 HRR).mono ?_
    rintro e0 w2 ⟨rfl, hb1⟩
    have ST2 := Lib.hid (ST1.out.up hb1)
    clear hb1 x0 x1 x2 x3 x4 x5 hz
    obtain ⟨x0, x1, x2, x3, x4, x5, hz⟩ := ST2.out.cells
    go_wp2_with fail
    refine (counts_ok c _ _ _ _ _ _ _ _ _ _ _ ST2.out.R HSM.out).mono ?_
    rintro e w3 ⟨rfl, hb1⟩
    obtain ⟨W4, hW4, hb4, ka⟩ : ∃ W, w3.alloc (.cells #[.int .i64 0, .int .i64 c.parts.length, .int .i64 c.wins.length, .int .i64 c.regs.length, .int .i64 c.ports.length, .int .i64 c.chans.length, .int .i64 (sumDests c.chans)] 57) = W ∧ Below w3.heap.size w3 W ∧ Blk W w3.heap.size 57 #[.int .i64 0, .int .i64 c.parts.length, .int .i64 c.wins.length, .int .i64 c.regs.length, .int .i64 c.ports.length, .int .i64 c.chans.length, .int .i64 (sumDests c.chans)] := ⟨_, rfl, below_one _ _, Blk.new _ _ _⟩
    have ST4 := Lib.hid ((ST2.out.up hb1).up hb4)
    have HW4 := Lib.hid hW4
    have HKA := Lib.hid ka
    clear x0 x1 x2 x3 x4 x5 hz hb1 hb4 hW4 ka
    go_upto_region 5 with (fail)
    rw [HW4.out]
    clear HW4
    generalize w3.heap.size = tb at *
    obtain ⟨x0, x1, x2, x3, x4, x5, hz⟩ := ST4.out.cells
    obtain ⟨W5, hW5⟩ : ∃ W, W = W4.alloc (.cells #[.int .u64 c.frame, .slice A1 c.parts.length c1, .slice A2 c.wins.length c2, .slice A3 c.regs.length c3, .slice A4 c.ports.length c4, .slice A5 c.chans.length c5, .int .u64 c.frame, .slice A1 c.parts.length c1, .slice A2 c.wins.length c2, .slice A3 c.regs.length c3, .slice A4 c.ports.length c4, .slice A5 c.chans.length c5] 29) := ⟨_, rfl⟩
    have HW5 := Lib.hid hW5.symm
    have HMG := Lib.hid (mergeDT_ok c A1 A2 A3 A4 A5 c1 c2 c3 c4 c5 W4 ST4.out.R (by have := HTO.out; omega) D HD 29 W5 hW5)
    have hb5 : Below W4.heap.size W4 W5 := by rw [hW5]; exact below_one _ _
    have ST5 := Lib.hid (ST4.out.up hb5)
    have HKA5 := Lib.hid (HKA.out.below hb5 HKA.out.lt)
    clear hW5 hb5
    go_wp2_with fail
    rw [HW5.out]
    refine HMG.out.mono ?_
    rintro e w6 ⟨P1, P2, P3, P4, P5, p1, p2, p3, p4, p5, rfl, hP, hb6⟩
    have HP := Lib.hid hP
    have ST6 := Lib.hid (ST5.out.up hb6)
    have HKA6 := Lib.hid (HKA5.out.below hb6 HKA5.out.lt)
    clear x0 x1 x2 x3 x4 x5 hz hb6 hP
    go_wp2_with fail
    refine (pckTwice_ok D _ _ _ _ _ _ _ _ _ _ _ HP.out HDS.out f1 f2 f3 HFF).mono ?_
    rintro e w7 ⟨rfl, hb7⟩
    obtain ⟨W8, hW8, hb8, kf⟩ : ∃ W, w7.alloc (.cells #[.int .i64 f1, .int .i64 f2, .int .i64 f3] 35) = W ∧ Below w7.heap.size w7 W ∧ Blk W w7.heap.size 35 #[.int .i64 f1, .int .i64 f2, .int .i64 f3] := ⟨_, rfl, below_one _ _, Blk.new _ _ _⟩
    have HW8 := Lib.hid hW8
    have HKF := Lib.hid kf
    have ST8 := Lib.hid ((ST6.out.up hb7).up hb8)
    have HKA8 := Lib.hid ((HKA6.out.below hb7 HKA6.out.lt).below hb8 (by have := HKA6.out.lt; have := hb7.size; omega))
    clear hb7 hb8 hW8 kf HMG HW5 ST5 HKA5 ST6 HKA6 HP
    go_upto_region 6 with (fail)
    rw [HW8.out]
    clear HW8
    generalize w7.heap.size = fb at *
    generalize sumDests c.chans = sd at *
    have e1 : IntKind.i64.wrap ((c.parts.length : Int) + (c.wins.length : Int)) = (c.parts.length : Int) + (c.wins.length : Int) := IntWalk.i64_in _ (by omega)
    have e2 : IntKind.i64.wrap ((c.parts.length : Int) + (c.wins.length : Int) + (c.regs.length : Int)) = (c.parts.length : Int) + (c.wins.length : Int) + (c.regs.length : Int) := IntWalk.i64_in _ (by omega)
    have e3 : IntKind.i64.wrap ((c.parts.length : Int) + (c.wins.length : Int) + (c.regs.length : Int) + (c.ports.length : Int)) = (c.parts.length : Int) + (c.wins.length : Int) + (c.regs.length : Int) + (c.ports.length : Int) := IntWalk.i64_in _ (by omega)
    have e4 : IntKind.i64.wrap ((c.parts.length : Int) + (c.wins.length : Int) + (c.regs.length : Int) + (c.ports.length : Int) + (c.chans.length : Int)) = (c.parts.length : Int) + (c.wins.length : Int) + (c.regs.length : Int) + (c.ports.length : Int) + (c.chans.length : Int) := IntWalk.i64_in _ (by omega)
    obtain ⟨b, hb40, hb55⟩ : ∃ b : Bool, ((f1 == 0) && ((f2 == 0) && (f3 == 0))) = b ∧ decide ((c.parts.length : Int) + (c.wins.length : Int) + (c.regs.length : Int) + (c.ports.length : Int) + (c.chans.length : Int) = 0) = b := by
      rcases HDB.out with ⟨a1, a2, a3, a4⟩ | ⟨a1, a2⟩
      · exact ⟨true, by rw [a1, a2, a3]; rfl, decide_eq_true (by omega)⟩
      · exact ⟨false, by rw [a1]; rfl, decide_eq_false (by omega)⟩
    have HB40 := Lib.hid hb40
    have HB55 := Lib.hid hb55
    clear hb40 hb55
    refine wp_region_H 27 31 2 _ rfl rfl rfl (by decide) (by kernel_rfl) (by kernel_rfl) (by kernel_rfl) (Nat.le_of_ble_eq_true (by kernel_rfl))
      [.bool true, .bool true, .agg #[.int .u64 c.frame, .slice A1 c.parts.length c1, .slice A2 c.wins.length c2, .slice A3 c.regs.length c3, .slice A4 c.ports.length c4, .slice A5 c.chans.length c5], .agg #[.int .i64 k1, .int .i64 k2, .int .i64 k3], .int .i64 k1, .int .i64 k2, .int .i64 k3, .agg #[.int .i64 k1, .int .i64 k2, .int .i64 k3], .bool true, .bool true, .bool true, .agg #[.int .i64 f1, .int .i64 f2, .int .i64 f3], .agg #[.int .i64 0, .int .i64 0, .int .i64 0], .bool b, .pointer (some ⟨tb, 1, none⟩), .int .i64 c.parts.length, .pointer (some ⟨tb, 2, none⟩), .int .i64 c.wins.length, .int .i64 ((c.parts.length : Int) + (c.wins.length : Int)), .pointer (some ⟨tb, 3, none⟩), .int .i64 c.regs.length, .int .i64 ((c.parts.length : Int) + (c.wins.length : Int) + (c.regs.length : Int)), .pointer (some ⟨tb, 4, none⟩), .int .i64 c.ports.length, .int .i64 ((c.parts.length : Int) + (c.wins.length : Int) + (c.regs.length : Int) + (c.ports.length : Int)), .pointer (some ⟨tb, 5, none⟩), .int .i64 c.chans.length, .int .i64 ((c.parts.length : Int) + (c.wins.length : Int) + (c.regs.length : Int) + (c.ports.length : Int) + (c.chans.length : Int)), .bool b, .bool true, .bool true, .bool true]
      (fun _ => false) (by kernel_rfl) (fun _ _ _ => True) (fun U => St w (U) c A1 A2 A3 A4 A5 c1 c2 c3 c4 c5 ∧ Blk U tb 57 #[.int .i64 0, .int .i64 c.parts.length, .int .i64 c.wins.length, .int .i64 c.regs.length, .int .i64 c.ports.length, .int .i64 c.chans.length, .int .i64 sd] ∧ Blk U fb 35 #[.int .i64 f1, .int .i64 f2, .int .i64 f3])
      (⟨ST8.out.up (Below.refl _ _).drew, HKA8.out.below (Below.refl _ _).drew HKA8.out.lt, HKF.out.below (Below.refl _ _).drew HKF.out.lt⟩) (fun U V ⟨h1, h2, h3⟩ hb => ⟨h1.up hb, h2.below hb h2.lt, h3.below hb h3.lt⟩) (fun _ v U V _ hv hb => trivial) ?hun ?hop ?hend
    case hun =>
      intro i o ho
      match i, ho with
      | 0, ho => cases ho; intro h; first | exact ⟨rfl, rfl⟩ | cases h
      | 1, ho => cases ho; intro h; first | exact ⟨rfl, rfl⟩ | cases h
      | 2, ho => cases ho; intro h; first | exact ⟨rfl, rfl⟩ | cases h
      | 3, ho => cases ho; intro h; first | exact ⟨rfl, rfl⟩ | cases h
      | 4, ho => cases ho; intro h; first | exact ⟨rfl, rfl⟩ | cases h
      | 5, ho => cases ho; intro h; first | exact ⟨rfl, rfl⟩ | cases h
      | 6, ho => cases ho; intro h; first | exact ⟨rfl, rfl⟩ | cases h
      | 7, ho => cases ho; intro h; first | exact ⟨rfl, rfl⟩ | cases h
      | 8, ho => cases ho; intro h; first | exact ⟨rfl, rfl⟩ | cases h
      | 9, ho => cases ho; intro h; first | exact ⟨rfl, rfl⟩ | cases h
      | 10, ho => cases ho; intro h; first | exact ⟨rfl, rfl⟩ | cases h
      | 11, ho => cases ho; intro h; first | exact ⟨rfl, rfl⟩ | cases h
      | 12, ho => cases ho; intro h; first | exact ⟨rfl, rfl⟩ | cases h
      | 13, ho => cases ho; intro h; first | exact ⟨rfl, rfl⟩ | cases h
      | 14, ho => cases ho; intro h; first | exact ⟨rfl, rfl⟩ | cases h
      | 15, ho => cases ho; intro h; first | exact ⟨rfl, rfl⟩ | cases h
      | 16, ho => cases ho; intro h; first | exact ⟨rfl, rfl⟩ | cases h
      | 17, ho => cases ho; intro h; first | exact ⟨rfl, rfl⟩ | cases h
      | 18, ho => cases ho; intro h; first | exact ⟨rfl, rfl⟩ | cases h
      | 19, ho => cases ho; intro h; first | exact ⟨rfl, rfl⟩ | cases h
      | 20, ho => cases ho; intro h; first | exact ⟨rfl, rfl⟩ | cases h
      | 21, ho => cases ho; intro h; first | exact ⟨rfl, rfl⟩ | cases h
      | 22, ho => cases ho; intro h; first | exact ⟨rfl, rfl⟩ | cases h
      | 23, ho => cases ho; intro h; first | exact ⟨rfl, rfl⟩ | cases h
      | 24, ho => cases ho; intro h; first | exact ⟨rfl, rfl⟩ | cases h
      | 25, ho => cases ho; intro h; first | exact ⟨rfl, rfl⟩ | cases h
      | 26, ho => cases ho; intro h; first | exact ⟨rfl, rfl⟩ | cases h
      | 27, ho => cases ho; intro h; first | exact ⟨rfl, rfl⟩ | cases h
      | 28, ho => cases ho; intro h; first | exact ⟨rfl, rfl⟩ | cases h
      | 29, ho => cases ho; intro h; first | exact ⟨rfl, rfl⟩ | cases h
      | 30, ho => cases ho; intro h; first | exact ⟨rfl, rfl⟩ | cases h
      | 31, ho => cases ho; intro h; first | exact ⟨rfl, rfl⟩ | cases h
      | k + 32, ho => exact absurd ho (by simp)
    case hop =>
      intro i o ho hw U hE ρ r0 rf r1 r2
      obtain ⟨hst, hka, hkf⟩ := hE
      obtain ⟨x0, x1, x2, x3, x4, x5, hz⟩ := hst.cells
      have y1 := hka.cell 1
      have y2 := hka.cell 2
      have y3 := hka.cell 3
      have y4 := hka.cell 4
      have y5 := hka.cell 5
      have yz := hka.lt
      have f0c := hkf.cell 0
      have f1c := hkf.cell 1
      have f2c := hkf.cell 2
      have fz := hkf.lt
      simp at y1 y2 y3 y4 y5 f0c f1c f2c
      match i, ho with
      | 0, ho =>
        cases ho
        refine RunsTo.call (V := U) 10 #[] ?_ ?_
        · simp only [execOp]
          go_simp
        · refine (alive11_ok U).mono ?_
          rintro e V ⟨rfl, hb⟩
          exact ⟨_, rfl, hb, SC.ofV rfl⟩
      | 1, ho =>
        cases ho
        have q27 : ρ (.tmp 27) = _ := (r2 { on := 0, ground := .data } (by simp) rfl).val rfl
        refine RunsTo.val _ (V := U) ?_ ⟨Below.refl _ _, SC.ofV rfl⟩
        simp only [execOp]
        go_simp
      | 2, ho =>
        cases ho
        have q1 := r1 1 (by decide) (by decide)
        refine RunsTo.val _ (V := U) ?_ ⟨Below.refl _ _, SC.ofV rfl⟩
        simp only [execOp]
        go_simp
      | 3, ho =>
        cases ho
        have q29 : ρ (.tmp 29) = _ := (r2 { on := 2, ground := .data } (by simp) rfl).val rfl
        refine RunsTo.call (V := U) 21 #[cfgV c.frame A1 A2 A3 A4 A5 c.parts.length c.wins.length c.regs.length c.ports.length c.chans.length c1 c2 c3 c4 c5] ?_ ?_
        · simp only [execOp]
          go_simp
        · refine (pckTwice_ok c _ _ _ _ _ _ _ _ _ _ _ hst.R HTT.out k1 k2 k3 HRR).mono ?_
          rintro e V ⟨rfl, hb⟩
          exact ⟨_, rfl, hb, SC.ofV rfl⟩
      | 4, ho =>
        cases ho
        have q3 := r1 3 (by decide) (by decide)
        refine RunsTo.val _ (V := U) ?_ ⟨Below.refl _ _, SC.ofV rfl⟩
        simp only [execOp]
        go_simp
      | 5, ho =>
        cases ho
        have q4 := r1 4 (by decide) (by decide)
        refine RunsTo.val _ (V := U) ?_ ⟨Below.refl _ _, SC.ofV rfl⟩
        simp only [execOp]
        go_simp
      | 6, ho =>
        cases ho
        have q5 := r1 5 (by decide) (by decide)
        refine RunsTo.val _ (V := U) ?_ ⟨Below.refl _ _, SC.ofV rfl⟩
        simp only [execOp]
        go_simp
      | 7, ho =>
        cases ho
        have q31 : ρ (.tmp 31) = _ := (r2 { on := 4, ground := .data } (by simp) rfl).val rfl
        have q32 : ρ (.tmp 32) = _ := (r2 { on := 5, ground := .data } (by simp) rfl).val rfl
        have q33 : ρ (.tmp 33) = _ := (r2 { on := 6, ground := .data } (by simp) rfl).val rfl
        refine RunsTo.val _ (V := U) ?_ ⟨Below.refl _ _, SC.ofV rfl⟩
        simp only [execOp]
        go_simp
      | 8, ho =>
        cases ho
        have q30 : ρ (.tmp 30) = _ := (r2 { on := 3, ground := .data } (by simp) rfl).val rfl
        have q34 : ρ (.tmp 34) = _ := (r2 { on := 7, ground := .data } (by simp) rfl).val rfl
        refine RunsTo.val _ (V := U) ?_ ⟨Below.refl _ _, SC.ofV rfl⟩
        simp only [execOp]
        go_simp
      | 9, ho =>
        cases ho
        have q28 : ρ (.tmp 28) = _ := (r2 { on := 1, ground := .data } (by simp) rfl).val rfl
        have q35 : ρ (.tmp 35) = _ := (r2 { on := 8, ground := .data } (by simp) rfl).val rfl
        refine RunsTo.val _ (V := U) ?_ ⟨Below.refl _ _, SC.ofV rfl⟩
        simp only [execOp]
        go_simp
      | 10, ho =>
        cases ho
        have q36 : ρ (.tmp 36) = _ := (r2 { on := 9, ground := .data } (by simp) rfl).val rfl
        refine RunsTo.val _ (V := U) ?_ ⟨Below.refl _ _, SC.ofV rfl⟩
        simp only [execOp]
        go_simp
      | 11, ho =>
        cases ho
        have q7 := r1 7 (by decide) (by decide)
        refine RunsTo.val _ (V := U) ?_ ⟨Below.refl _ _, SC.ofV rfl⟩
        simp only [execOp]
        go_simp
      | 12, ho =>
        cases ho
        refine RunsTo.val _ (V := U) ?_ ⟨Below.refl _ _, SC.ofV rfl⟩
        simp only [execOp]
        go_simp
      | 13, ho =>
        cases ho
        have q38 : ρ (.tmp 38) = _ := (r2 { on := 11, ground := .data } (by simp) rfl).val rfl
        have q39 : ρ (.tmp 39) = _ := (r2 { on := 12, ground := .data } (by simp) rfl).val rfl
        refine RunsTo.val (.bool ((f1 == 0) && ((f2 == 0) && (f3 == 0)))) (V := U) ?_ ⟨Below.refl _ _, by rw [HB40.out]; exact SC.ofV rfl⟩
        simp only [execOp]
        go_simp
        by_cases a1 : f1 = 0 <;> by_cases a2 : f2 = 0 <;> by_cases a3 : f3 = 0 <;> simp [a1, a2, a3]
      | 14, ho =>
        cases ho
        have q6 := r1 6 (by decide) (by decide)
        refine RunsTo.val _ (V := U) ?_ ⟨Below.refl _ _, SC.ofV rfl⟩
        simp only [execOp]
        go_simp
      | 15, ho =>
        cases ho
        have q41 : ρ (.tmp 41) = _ := (r2 { on := 14, ground := .data } (by simp) rfl).val rfl
        refine RunsTo.val _ (V := U) ?_ ⟨Below.refl _ _, SC.ofV rfl⟩
        simp only [execOp]
        go_simp
      | 16, ho =>
        cases ho
        have q6 := r1 6 (by decide) (by decide)
        refine RunsTo.val _ (V := U) ?_ ⟨Below.refl _ _, SC.ofV rfl⟩
        simp only [execOp]
        go_simp
      | 17, ho =>
        cases ho
        have q43 : ρ (.tmp 43) = _ := (r2 { on := 16, ground := .data } (by simp) rfl).val rfl
        refine RunsTo.val _ (V := U) ?_ ⟨Below.refl _ _, SC.ofV rfl⟩
        simp only [execOp]
        go_simp
      | 18, ho =>
        cases ho
        have q42 : ρ (.tmp 42) = _ := (r2 { on := 15, ground := .data } (by simp) rfl).val rfl
        have q44 : ρ (.tmp 44) = _ := (r2 { on := 17, ground := .data } (by simp) rfl).val rfl
        refine RunsTo.val _ (V := U) ?_ ⟨Below.refl _ _, SC.ofV rfl⟩
        simp only [execOp]
        go_simp
      | 19, ho =>
        cases ho
        have q6 := r1 6 (by decide) (by decide)
        refine RunsTo.val _ (V := U) ?_ ⟨Below.refl _ _, SC.ofV rfl⟩
        simp only [execOp]
        go_simp
      | 20, ho =>
        cases ho
        have q46 : ρ (.tmp 46) = _ := (r2 { on := 19, ground := .data } (by simp) rfl).val rfl
        refine RunsTo.val _ (V := U) ?_ ⟨Below.refl _ _, SC.ofV rfl⟩
        simp only [execOp]
        go_simp
      | 21, ho =>
        cases ho
        have q45 : ρ (.tmp 45) = _ := (r2 { on := 18, ground := .data } (by simp) rfl).val rfl
        have q47 : ρ (.tmp 47) = _ := (r2 { on := 20, ground := .data } (by simp) rfl).val rfl
        refine RunsTo.val _ (V := U) ?_ ⟨Below.refl _ _, SC.ofV rfl⟩
        simp only [execOp]
        go_simp
      | 22, ho =>
        cases ho
        have q6 := r1 6 (by decide) (by decide)
        refine RunsTo.val _ (V := U) ?_ ⟨Below.refl _ _, SC.ofV rfl⟩
        simp only [execOp]
        go_simp
      | 23, ho =>
        cases ho
        have q49 : ρ (.tmp 49) = _ := (r2 { on := 22, ground := .data } (by simp) rfl).val rfl
        refine RunsTo.val _ (V := U) ?_ ⟨Below.refl _ _, SC.ofV rfl⟩
        simp only [execOp]
        go_simp
      | 24, ho =>
        cases ho
        have q48 : ρ (.tmp 48) = _ := (r2 { on := 21, ground := .data } (by simp) rfl).val rfl
        have q50 : ρ (.tmp 50) = _ := (r2 { on := 23, ground := .data } (by simp) rfl).val rfl
        refine RunsTo.val _ (V := U) ?_ ⟨Below.refl _ _, SC.ofV rfl⟩
        simp only [execOp]
        go_simp
      | 25, ho =>
        cases ho
        have q6 := r1 6 (by decide) (by decide)
        refine RunsTo.val _ (V := U) ?_ ⟨Below.refl _ _, SC.ofV rfl⟩
        simp only [execOp]
        go_simp
      | 26, ho =>
        cases ho
        have q52 : ρ (.tmp 52) = _ := (r2 { on := 25, ground := .data } (by simp) rfl).val rfl
        refine RunsTo.val _ (V := U) ?_ ⟨Below.refl _ _, SC.ofV rfl⟩
        simp only [execOp]
        go_simp
      | 27, ho =>
        cases ho
        have q51 : ρ (.tmp 51) = _ := (r2 { on := 24, ground := .data } (by simp) rfl).val rfl
        have q53 : ρ (.tmp 53) = _ := (r2 { on := 26, ground := .data } (by simp) rfl).val rfl
        refine RunsTo.val _ (V := U) ?_ ⟨Below.refl _ _, SC.ofV rfl⟩
        simp only [execOp]
        go_simp
      | 28, ho =>
        cases ho
        have q54 : ρ (.tmp 54) = _ := (r2 { on := 27, ground := .data } (by simp) rfl).val rfl
        refine RunsTo.val (.bool (decide ((c.parts.length : Int) + (c.wins.length : Int) + (c.regs.length : Int) + (c.ports.length : Int) + (c.chans.length : Int) = 0))) (V := U) ?_ ⟨Below.refl _ _, by rw [HB55.out]; exact SC.ofV rfl⟩
        simp only [execOp]
        go_simp
        rfl
      | 29, ho =>
        cases ho
        have q40 : ρ (.tmp 40) = _ := (r2 { on := 13, ground := .data } (by simp) rfl).val rfl
        have q55 : ρ (.tmp 55) = _ := (r2 { on := 28, ground := .data } (by simp) rfl).val rfl
        refine RunsTo.val _ (V := U) ?_ ⟨Below.refl _ _, SC.ofV rfl⟩
        simp only [execOp]
        go_simp
      | 30, ho =>
        cases ho
        have q37 : ρ (.tmp 37) = _ := (r2 { on := 10, ground := .data } (by simp) rfl).val rfl
        have q56 : ρ (.tmp 56) = _ := (r2 { on := 29, ground := .data } (by simp) rfl).val rfl
        refine RunsTo.val _ (V := U) ?_ ⟨Below.refl _ _, SC.ofV rfl⟩
        simp only [execOp]
        go_simp
      | 31, ho =>
        cases ho
        have q57 : ρ (.tmp 57) = _ := (r2 { on := 30, ground := .data } (by simp) rfl).val rfl
        refine RunsTo.val _ (V := U) ?_ ⟨Below.refl _ _, SC.ofV rfl⟩
        simp only [execOp]
        go_simp
      | k + 32, ho => exact absurd ho (by simp)
    case hend =>
      intro u U hE hS
      have e := (hS 31 (by decide)).val rfl
      clear hS
      simp only [mkL, mkAt, List.take_succ_cons, List.take_zero, List.drop_succ_cons, List.drop_nil, List.range, List.range.loop, List.map_cons, List.map_nil, List.cons_append, List.nil_append, List.append_nil, List.setIfInBounds_toArray, List.set_cons_succ, List.set_cons_zero, e]
      have HZ := Lib.hid hE.1.bel
      clear hE e
      go_wp2
      go_ret
      exact ⟨rfl, HZ.out⟩
end Go.Proofs.YtcfoolooemhbeaaGreat
