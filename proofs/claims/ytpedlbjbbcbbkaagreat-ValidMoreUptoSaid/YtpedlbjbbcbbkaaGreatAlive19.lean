/-
  The example of the chapter of layer 19 holds: 'alive' returns true.
-/
import Derived.Deep.RegionHeld3
import Derived.Deep.CutBlock
import Derived.Deep.DeepCutAuto
import Derived.Test.YtpedlbjbbcbbkaaGreatV19Z
import Derived.Test.YtpedlbjbbcbbkaaGreatInvZ
namespace Go.Proofs.YtpedlbjbbcbbkaaGreat
open Go.RowKit
def zC : Cfg := ⟨0, [], [], [], [], []⟩
def oC : Cfg := ⟨1, [], [], [], [], []⟩
theorem zC_ok : zC.ok := ⟨by unfold wU64; decide, by simp [zC], by simp [zC], by simp [zC], by simp [zC], by simp [zC]⟩
theorem oC_ok : oC.ok := ⟨by unfold wU64; decide, by simp [oC], by simp [oC], by simp [oC], by simp [oC], by simp [oC]⟩
theorem zC_small : zC.small := ⟨by show 0 ≤ BIG; exact Nat.zero_le _, by simp [zC], by simp [zC]⟩
theorem oC_small : oC.small := ⟨by show 0 ≤ BIG; exact Nat.zero_le _, by simp [oC], by simp [oC]⟩
abbrev zV : Value := cfgV 0 none none none none none 0 0 0 0 0 0 0 0 0 0
abbrev oV : Value := cfgV 1 none none none none none 0 0 0 0 0 0 0 0 0 0
theorem zR (w : World) : CfgR w w.heap.size zC none none none none none 0 0 0 0 0 :=
  ⟨Rd.nil, Rd.nil, Rd.nil, Rd.nil, ⟨_, rfl, Rd.nil⟩, ⟨Nat.le_refl _, by unfold maxLen; omega⟩, ⟨Nat.le_refl _, by unfold maxLen; omega⟩, ⟨Nat.le_refl _, by unfold maxLen; omega⟩, ⟨Nat.le_refl _, by unfold maxLen; omega⟩, ⟨Nat.le_refl _, by unfold maxLen; omega⟩⟩
theorem oR (w : World) : CfgR w w.heap.size oC none none none none none 0 0 0 0 0 :=
  ⟨Rd.nil, Rd.nil, Rd.nil, Rd.nil, ⟨_, rfl, Rd.nil⟩, ⟨Nat.le_refl _, by unfold maxLen; omega⟩, ⟨Nat.le_refl _, by unfold maxLen; omega⟩, ⟨Nat.le_refl _, by unfold maxLen; omega⟩, ⟨Nat.le_refl _, by unfold maxLen; omega⟩, ⟨Nat.le_refl _, by unfold maxLen; omega⟩⟩
theorem z_flts : fltsOf zC = [⟨17, 0, 0⟩] := by kernel_rfl
theorem z_vld : vldB zC = false := by kernel_rfl
theorem o_vld : vldB oC = true := by kernel_rfl
theorem z_onlyF : onlyF zC ⟨#[119, 105, 110, 100, 111, 119, 115]⟩ = ⟨17, 0, 0⟩ := by kernel_rfl
theorem z_onlyB : onlyB zC ⟨#[119, 105, 110, 100, 111, 119, 115]⟩ = true := by kernel_rfl
theorem one_newF (w : World) : Rd (w.alloc (.cells #[.int .i64 17, .int .i64 0, .int .i64 0] 37)) (w.alloc (.cells #[.int .i64 17, .int .i64 0, .int .i64 0] 37)).heap.size 3 (some ⟨w.heap.size, 0, none⟩) 1 (FltC ⟨17, 0, 0⟩) := by
  refine ⟨rfl, fun _ => ⟨_, _, rfl, by simp, fun j u hu => ?_⟩⟩
  have := World.news_of_block (heap_alloc_new w (.cells #[.int .i64 17, .int .i64 0, .int .i64 0] 37)) j u (by simpa [FltC] using hu)
  rwa [addr_add] at this
theorem FltBox.up {w w' : World} {g : Nat} {f : Flt} (h : FltBox w g f) (hb : Below w.heap.size w w') : FltBox w' g f :=
  ⟨(hb.cell (p := ⟨g, 0, none⟩) h.lt).trans h.c0, (hb.cell (p := ⟨g, 1, none⟩) h.lt).trans h.c1, (hb.cell (p := ⟨g, 2, none⟩) h.lt).trans h.c2, Nat.lt_of_lt_of_le h.lt hb.size⟩
set_option maxRecDepth 100000 in
set_option maxHeartbeats 4000000 in
theorem alive_ok (w : World) : Calls Tryz.prog 10 #[] w fun e w' => e = .returned (.bool true) ∧ Below w.heap.size w w' := by
  go_enter Tryz.func10, Tryz.ntmps10
  obtain ⟨f, hf⟩ : ∃ f : Flt, f = ⟨17, 0, 0⟩ := ⟨_, rfl⟩
  have HF := Lib.hid hf
  clear hf
  go_wp2_with fail
  refine (vOnly_ok zC none none none none none 0 0 0 0 0 _ (zR _) zC_small zC_ok ⟨#[119, 105, 110, 100, 111, 119, 115]⟩ (by decide) f (Lib.hid (z_onlyF.trans HF.out.symm)) true (Lib.hid z_onlyB)).mono ?_
  rintro e w1 ⟨rfl, hb1⟩
  obtain ⟨W5, hW5, hb5, ka⟩ : ∃ W, w1.alloc (.cells f.cells 37) = W ∧ Below w1.heap.size w1 W ∧ Blk W w1.heap.size 37 f.cells := ⟨_, rfl, below_one _ _, Blk.new _ _ _⟩
  have HKA := Lib.hid ka
  have HB5 := Lib.hid (Below.then_ hb1 hb5)
  go_upto_region 2 with (fail)
  simp only [Flt.cells] at hW5
  clear hW5 ka hb5 hb1
  generalize w1.heap.size = g at HKA ⊢
  go_wp2_with fail
  refine (vAll_ok zC none none none none none 0 0 0 0 0 W5 (zR W5) zC_small zC_ok).mono ?_
  rintro e w6 ⟨v, rfl, ho, hb6⟩
  rw [z_flts] at ho
  obtain ⟨RA, rc, rfl, _, _, hrd⟩ := own_form ho
  have hal := below_one w6 (.cells #[.int .i64 17, .int .i64 0, .int .i64 0] 37)
  have HRD := Lib.hid (Rd.up hrd hal)
  have HB7 := Lib.hid (Below.then_ (Below.then_ HB5.out hb6) hal)
  have HKA6 := Lib.hid ((HKA.out.below hb6 HKA.out.lt))
  have HKA7 := Lib.hid ((HKA6.out.below hal HKA6.out.lt))
  clear ho hrd hal hb6
  go_wp2_with fail
  refine (eqFlt_same [⟨17, 0, 0⟩] _ _ _ _ _ (by simp) HRD.out (one_newF w6)).mono ?_
  rintro e w8 ⟨rfl, hb8⟩
  have HB8 := Lib.hid (Below.then_ HB7.out hb8)
  have hk8 := HKA7.out.below hb8 HKA7.out.lt
  have q0 := hk8.cell 0
  rw [HF.out] at q0
  simp [Flt.cells] at q0
  have ql := hk8.lt
  clear hk8 hb8
  go_wp2_with fail
  refine (vValid_ok zC none none none none none 0 0 0 0 0 _ (zR _) zC_small zC_ok false (Lib.hid z_vld)).mono ?_
  rintro e w9 ⟨rfl, hb9⟩
  have HB9 := Lib.hid (Below.then_ HB8.out hb9)
  clear hb9 q0 ql
  go_wp2_with fail
  refine (vValid_ok oC none none none none none 0 0 0 0 0 _ (oR _) oC_small oC_ok true (Lib.hid o_vld)).mono ?_
  rintro e w10 ⟨rfl, hb10⟩
  have HZ := Lib.hid (Below.then_ HB9.out hb10)
  clear hb10
  go_wp2
  go_ret
  exact ⟨rfl, HZ.out⟩
end Go.Proofs.YtpedlbjbbcbbkaaGreat
