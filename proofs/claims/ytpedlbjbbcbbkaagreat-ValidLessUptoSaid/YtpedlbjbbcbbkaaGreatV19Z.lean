/-
  The reference of layer 19: at, twice, level, needs, known, walked.
-/
import Derived.Test.YtpedlbjbbcbbkaaGreatVldZ
import Derived.BigQuiet
import Derived.Test.YtpedlbjbbcbbkaaGreatMemA
import Derived.Test.YtpedlbjbbcbbkaaGreatWirA
import Derived.BigRegion
import Derived.Deep.RegionHeld3
import Derived.Deep.CutBlock
import Derived.Deep.DeepCutAuto
import Derived.Test.YtpedlbjbbcbbkaaGreatCore
import Derived.Test.YtpedlbjbbcbbkaaGreatWnO
namespace Go.Proofs.YtpedlbjbbcbbkaaGreat
open Go.RowKit
set_option maxRecDepth 100000 in
set_option maxHeartbeats 1000000 in
theorem rAt_ok (w : World) (e s i : Int) (f : Flt) (hf : Hid ((if e = 0 then noFlt else ⟨e, s, i⟩) = f)) : Calls Tryz.prog 69 #[.int .i64 e, .int .i64 s, .int .i64 i] w fun e w' => e = .returned (fltV f) ∧ Below w.heap.size w w' := by
  obtain ⟨W1, hW1, hk1, hb1⟩ := FltBkM w 37
  have HW1 := Lib.hid hW1
  have HB := Lib.hid hb1
  have q0 := hk1.cell 0
  have q1 := hk1.cell 1
  have q2 := hk1.cell 2
  have qf := hk1.frozen
  have ql := hk1.lt
  simp at q0 q1 q2
  have hfo := hf.out
  clear hW1 hk1 hb1 hf
  by_cases he : e = 0
  · have HF := Lib.hid (show noFlt = f by rw [← hfo, if_pos he])
    clear hfo
    subst he
    go_enter Tryz.func69, Tryz.ntmps69
    go_upto_region 1 with (fail)
    rw [HW1.out]
    go_wp2
    have hvv := HF.out
    refine bodyPost_ret (v := fltV f) (by rw [← hvv]; simp [results, Tryz.results69, go_sem, q0, q1, q2, noFlt]) rfl ⟨rfl, ?_⟩
    exact Below.setCell (Below.setCell (Below.setCell HB.out (by simp) _) (by simp) _) (by simp) _
  · have HF := Lib.hid (show Flt.mk e s i = f by rw [← hfo, if_neg he])
    have heb : (e == 0) = false := beq_eq_false_iff_ne.2 he
    clear hfo he
    go_enter Tryz.func69, Tryz.ntmps69
    go_upto_region 1 with (fail)
    rw [HW1.out]
    go_wp2
    have hvv := HF.out
    refine bodyPost_ret (v := fltV f) (by rw [← hvv]; simp [results, Tryz.results69, go_sem, q0, q1, q2]) rfl ⟨rfl, ?_⟩
    exact Below.setCell (Below.setCell (Below.setCell HB.out (by simp) _) (by simp) _) (by simp) _
set_option maxRecDepth 100000 in
set_option maxHeartbeats 1000000 in
theorem rTwice_ok (w : World) (s i : Int) (f : Flt) (hf : Hid (firstOf s [i] = f)) : Calls Tryz.prog 70 #[.int .i64 s, .int .i64 i] w fun e w' => e = .returned (fltV f) ∧ Below w.heap.size w w' := by
  obtain ⟨W1, hW1, hk1, hb1⟩ := FltBkM w 37
  have HW1 := Lib.hid hW1
  have HB := Lib.hid hb1
  have q0 := hk1.cell 0
  have q1 := hk1.cell 1
  have q2 := hk1.cell 2
  have qf := hk1.frozen
  have ql := hk1.lt
  simp at q0 q1 q2
  have hfo := hf.out
  clear hW1 hk1 hb1 hf
  by_cases he : i < 0
  · have HF := Lib.hid (show noFlt = f by rw [← hfo]; unfold firstOf; rw [if_neg (by omega)]; rfl)
    clear hfo
    go_enter Tryz.func70, Tryz.ntmps70
    go_upto_region 1 with (fail)
    rw [HW1.out]
    go_wp2
    have hvv := HF.out
    refine bodyPost_ret (v := fltV f) (by rw [← hvv]; simp [results, Tryz.results70, go_sem, q0, q1, q2, noFlt]) rfl ⟨rfl, ?_⟩
    exact Below.setCell (Below.setCell (Below.setCell HB.out (by simp) _) (by simp) _) (by simp) _
  · have HF := Lib.hid (show Flt.mk 18 s i = f by rw [← hfo]; unfold firstOf; rw [if_pos (by omega)])
    have he2 : 0 ≤ i := by omega
    clear hfo
    go_enter Tryz.func70, Tryz.ntmps70
    go_upto_region 1 with (fail)
    rw [HW1.out]
    go_wp2
    have hvv := HF.out
    refine bodyPost_ret (v := fltV f) (by rw [← hvv]; simp [results, Tryz.results70, go_sem, q0, q1, q2]) rfl ⟨rfl, ?_⟩
    exact Below.setCell (Below.setCell (Below.setCell HB.out (by simp) _) (by simp) _) (by simp) _
theorem rLevel0 (s : ByteArray) (hsv : nmS 0 = s) (w : World) : Calls Tryz.prog 37 #[.string s] w fun e w' => e = .returned (.int .i64 0) ∧ Below w.heap.size w w' := by
  have e0 : (s.toList == ([108, 105, 109, 105, 116, 115] : List UInt8)) = true := by rw [← hsv]; first | rfl | decide | kernel_rfl
  clear hsv
  go_enter Tryz.func37, Tryz.ntmps37
  go_wp2
  go_ret
  exact ⟨rfl, Below.refl _ _⟩
theorem rNeeds0 (s : ByteArray) (hsv : nmS 0 = s) (w : World) : Calls Tryz.prog 67 #[.string s] w fun e w' => (∃ A, e = .returned (.slice A (nds 0).length (nds 0).length) ∧ NmR w' A ((nds 0).map nmS)) ∧ Below w.heap.size w w' := by
  have e0 : (s.toList == ([108, 105, 109, 105, 116, 115] : List UInt8)) = true := by rw [← hsv]; first | rfl | decide | kernel_rfl
  clear hsv
  go_enter Tryz.func67, Tryz.ntmps67
  go_wp2
  go_ret
  exact ⟨⟨none, rfl, ⟨rfl, fun h => absurd h (by simp [nds])⟩⟩, Below.refl _ _⟩
theorem rLevel1 (s : ByteArray) (hsv : nmS 1 = s) (w : World) : Calls Tryz.prog 37 #[.string s] w fun e w' => e = .returned (.int .i64 1) ∧ Below w.heap.size w w' := by
  have e0 : (s.toList == ([108, 105, 109, 105, 116, 115] : List UInt8)) = false := by rw [← hsv]; first | rfl | decide | kernel_rfl
  have e5 : (s.toList == ([100, 101, 109, 97, 110, 100, 115] : List UInt8)) = false := by rw [← hsv]; first | rfl | decide | kernel_rfl
  have e7 : (s.toList == ([101, 110, 100, 115] : List UInt8)) = false := by rw [← hsv]; first | rfl | decide | kernel_rfl
  have e8 : (s.toList == ([119, 105, 114, 101, 115] : List UInt8)) = false := by rw [← hsv]; first | rfl | decide | kernel_rfl
  clear hsv
  go_enter Tryz.func37, Tryz.ntmps37
  go_wp2
  go_ret
  exact ⟨rfl, Below.refl _ _⟩
theorem rNeeds1 (s : ByteArray) (hsv : nmS 1 = s) (w : World) : Calls Tryz.prog 67 #[.string s] w fun e w' => (∃ A, e = .returned (.slice A (nds 1).length (nds 1).length) ∧ NmR w' A ((nds 1).map nmS)) ∧ Below w.heap.size w w' := by
  have h := NmR.new w ((nds 1).map nmS) 9
  have hb := below_one w (.cells (((nds 1).map nmS).map Value.string).toArray 9)
  have e0 : (s.toList == ([108, 105, 109, 105, 116, 115] : List UInt8)) = false := by rw [← hsv]; first | rfl | decide | kernel_rfl
  have e5 : (s.toList == ([100, 101, 109, 97, 110, 100, 115] : List UInt8)) = false := by rw [← hsv]; first | rfl | decide | kernel_rfl
  have e7 : (s.toList == ([101, 110, 100, 115] : List UInt8)) = false := by rw [← hsv]; first | rfl | decide | kernel_rfl
  have e8 : (s.toList == ([119, 105, 114, 101, 115] : List UInt8)) = false := by rw [← hsv]; first | rfl | decide | kernel_rfl
  clear hsv
  go_enter Tryz.func67, Tryz.ntmps67
  go_wp2
  go_ret
  exact ⟨⟨_, rfl, h⟩, hb⟩
theorem rLevel2 (s : ByteArray) (hsv : nmS 2 = s) (w : World) : Calls Tryz.prog 37 #[.string s] w fun e w' => e = .returned (.int .i64 1) ∧ Below w.heap.size w w' := by
  have e0 : (s.toList == ([108, 105, 109, 105, 116, 115] : List UInt8)) = false := by rw [← hsv]; first | rfl | decide | kernel_rfl
  have e5 : (s.toList == ([100, 101, 109, 97, 110, 100, 115] : List UInt8)) = false := by rw [← hsv]; first | rfl | decide | kernel_rfl
  have e7 : (s.toList == ([101, 110, 100, 115] : List UInt8)) = false := by rw [← hsv]; first | rfl | decide | kernel_rfl
  have e8 : (s.toList == ([119, 105, 114, 101, 115] : List UInt8)) = false := by rw [← hsv]; first | rfl | decide | kernel_rfl
  clear hsv
  go_enter Tryz.func37, Tryz.ntmps37
  go_wp2
  go_ret
  exact ⟨rfl, Below.refl _ _⟩
theorem rNeeds2 (s : ByteArray) (hsv : nmS 2 = s) (w : World) : Calls Tryz.prog 67 #[.string s] w fun e w' => (∃ A, e = .returned (.slice A (nds 2).length (nds 2).length) ∧ NmR w' A ((nds 2).map nmS)) ∧ Below w.heap.size w w' := by
  have h := NmR.new w ((nds 2).map nmS) 9
  have hb := below_one w (.cells (((nds 2).map nmS).map Value.string).toArray 9)
  have e0 : (s.toList == ([108, 105, 109, 105, 116, 115] : List UInt8)) = false := by rw [← hsv]; first | rfl | decide | kernel_rfl
  have e5 : (s.toList == ([100, 101, 109, 97, 110, 100, 115] : List UInt8)) = false := by rw [← hsv]; first | rfl | decide | kernel_rfl
  have e7 : (s.toList == ([101, 110, 100, 115] : List UInt8)) = false := by rw [← hsv]; first | rfl | decide | kernel_rfl
  have e8 : (s.toList == ([119, 105, 114, 101, 115] : List UInt8)) = false := by rw [← hsv]; first | rfl | decide | kernel_rfl
  clear hsv
  go_enter Tryz.func67, Tryz.ntmps67
  go_wp2
  go_ret
  exact ⟨⟨_, rfl, h⟩, hb⟩
theorem rLevel3 (s : ByteArray) (hsv : nmS 3 = s) (w : World) : Calls Tryz.prog 37 #[.string s] w fun e w' => e = .returned (.int .i64 1) ∧ Below w.heap.size w w' := by
  have e0 : (s.toList == ([108, 105, 109, 105, 116, 115] : List UInt8)) = false := by rw [← hsv]; first | rfl | decide | kernel_rfl
  have e5 : (s.toList == ([100, 101, 109, 97, 110, 100, 115] : List UInt8)) = false := by rw [← hsv]; first | rfl | decide | kernel_rfl
  have e7 : (s.toList == ([101, 110, 100, 115] : List UInt8)) = false := by rw [← hsv]; first | rfl | decide | kernel_rfl
  have e8 : (s.toList == ([119, 105, 114, 101, 115] : List UInt8)) = false := by rw [← hsv]; first | rfl | decide | kernel_rfl
  clear hsv
  go_enter Tryz.func37, Tryz.ntmps37
  go_wp2
  go_ret
  exact ⟨rfl, Below.refl _ _⟩
theorem rNeeds3 (s : ByteArray) (hsv : nmS 3 = s) (w : World) : Calls Tryz.prog 67 #[.string s] w fun e w' => (∃ A, e = .returned (.slice A (nds 3).length (nds 3).length) ∧ NmR w' A ((nds 3).map nmS)) ∧ Below w.heap.size w w' := by
  have h := NmR.new w ((nds 3).map nmS) 9
  have hb := below_one w (.cells (((nds 3).map nmS).map Value.string).toArray 9)
  have e0 : (s.toList == ([108, 105, 109, 105, 116, 115] : List UInt8)) = false := by rw [← hsv]; first | rfl | decide | kernel_rfl
  have e5 : (s.toList == ([100, 101, 109, 97, 110, 100, 115] : List UInt8)) = false := by rw [← hsv]; first | rfl | decide | kernel_rfl
  have e7 : (s.toList == ([101, 110, 100, 115] : List UInt8)) = false := by rw [← hsv]; first | rfl | decide | kernel_rfl
  have e8 : (s.toList == ([119, 105, 114, 101, 115] : List UInt8)) = false := by rw [← hsv]; first | rfl | decide | kernel_rfl
  clear hsv
  go_enter Tryz.func67, Tryz.ntmps67
  go_wp2
  go_ret
  exact ⟨⟨_, rfl, h⟩, hb⟩
theorem rLevel4 (s : ByteArray) (hsv : nmS 4 = s) (w : World) : Calls Tryz.prog 37 #[.string s] w fun e w' => e = .returned (.int .i64 1) ∧ Below w.heap.size w w' := by
  have e0 : (s.toList == ([108, 105, 109, 105, 116, 115] : List UInt8)) = false := by rw [← hsv]; first | rfl | decide | kernel_rfl
  have e5 : (s.toList == ([100, 101, 109, 97, 110, 100, 115] : List UInt8)) = false := by rw [← hsv]; first | rfl | decide | kernel_rfl
  have e7 : (s.toList == ([101, 110, 100, 115] : List UInt8)) = false := by rw [← hsv]; first | rfl | decide | kernel_rfl
  have e8 : (s.toList == ([119, 105, 114, 101, 115] : List UInt8)) = false := by rw [← hsv]; first | rfl | decide | kernel_rfl
  clear hsv
  go_enter Tryz.func37, Tryz.ntmps37
  go_wp2
  go_ret
  exact ⟨rfl, Below.refl _ _⟩
theorem rNeeds4 (s : ByteArray) (hsv : nmS 4 = s) (w : World) : Calls Tryz.prog 67 #[.string s] w fun e w' => (∃ A, e = .returned (.slice A (nds 4).length (nds 4).length) ∧ NmR w' A ((nds 4).map nmS)) ∧ Below w.heap.size w w' := by
  have h := NmR.new w ((nds 4).map nmS) 9
  have hb := below_one w (.cells (((nds 4).map nmS).map Value.string).toArray 9)
  have e0 : (s.toList == ([108, 105, 109, 105, 116, 115] : List UInt8)) = false := by rw [← hsv]; first | rfl | decide | kernel_rfl
  have e5 : (s.toList == ([100, 101, 109, 97, 110, 100, 115] : List UInt8)) = false := by rw [← hsv]; first | rfl | decide | kernel_rfl
  have e7 : (s.toList == ([101, 110, 100, 115] : List UInt8)) = false := by rw [← hsv]; first | rfl | decide | kernel_rfl
  have e8 : (s.toList == ([119, 105, 114, 101, 115] : List UInt8)) = false := by rw [← hsv]; first | rfl | decide | kernel_rfl
  clear hsv
  go_enter Tryz.func67, Tryz.ntmps67
  go_wp2
  go_ret
  exact ⟨⟨_, rfl, h⟩, hb⟩
theorem rLevel5 (s : ByteArray) (hsv : nmS 5 = s) (w : World) : Calls Tryz.prog 37 #[.string s] w fun e w' => e = .returned (.int .i64 2) ∧ Below w.heap.size w w' := by
  have e0 : (s.toList == ([108, 105, 109, 105, 116, 115] : List UInt8)) = false := by rw [← hsv]; first | rfl | decide | kernel_rfl
  have e5 : (s.toList == ([100, 101, 109, 97, 110, 100, 115] : List UInt8)) = true := by rw [← hsv]; first | rfl | decide | kernel_rfl
  clear hsv
  go_enter Tryz.func37, Tryz.ntmps37
  go_wp2
  go_ret
  exact ⟨rfl, Below.refl _ _⟩
theorem rNeeds5 (s : ByteArray) (hsv : nmS 5 = s) (w : World) : Calls Tryz.prog 67 #[.string s] w fun e w' => (∃ A, e = .returned (.slice A (nds 5).length (nds 5).length) ∧ NmR w' A ((nds 5).map nmS)) ∧ Below w.heap.size w w' := by
  have h := NmR.new w ((nds 5).map nmS) 9
  have hb := below_one w (.cells (((nds 5).map nmS).map Value.string).toArray 9)
  have e0 : (s.toList == ([108, 105, 109, 105, 116, 115] : List UInt8)) = false := by rw [← hsv]; first | rfl | decide | kernel_rfl
  have e5 : (s.toList == ([100, 101, 109, 97, 110, 100, 115] : List UInt8)) = true := by rw [← hsv]; first | rfl | decide | kernel_rfl
  clear hsv
  go_enter Tryz.func67, Tryz.ntmps67
  go_wp2
  go_ret
  exact ⟨⟨_, rfl, h⟩, hb⟩
theorem rLevel6 (s : ByteArray) (hsv : nmS 6 = s) (w : World) : Calls Tryz.prog 37 #[.string s] w fun e w' => e = .returned (.int .i64 1) ∧ Below w.heap.size w w' := by
  have e0 : (s.toList == ([108, 105, 109, 105, 116, 115] : List UInt8)) = false := by rw [← hsv]; first | rfl | decide | kernel_rfl
  have e5 : (s.toList == ([100, 101, 109, 97, 110, 100, 115] : List UInt8)) = false := by rw [← hsv]; first | rfl | decide | kernel_rfl
  have e7 : (s.toList == ([101, 110, 100, 115] : List UInt8)) = false := by rw [← hsv]; first | rfl | decide | kernel_rfl
  have e8 : (s.toList == ([119, 105, 114, 101, 115] : List UInt8)) = false := by rw [← hsv]; first | rfl | decide | kernel_rfl
  clear hsv
  go_enter Tryz.func37, Tryz.ntmps37
  go_wp2
  go_ret
  exact ⟨rfl, Below.refl _ _⟩
theorem rNeeds6 (s : ByteArray) (hsv : nmS 6 = s) (w : World) : Calls Tryz.prog 67 #[.string s] w fun e w' => (∃ A, e = .returned (.slice A (nds 6).length (nds 6).length) ∧ NmR w' A ((nds 6).map nmS)) ∧ Below w.heap.size w w' := by
  have h := NmR.new w ((nds 6).map nmS) 9
  have hb := below_one w (.cells (((nds 6).map nmS).map Value.string).toArray 9)
  have e0 : (s.toList == ([108, 105, 109, 105, 116, 115] : List UInt8)) = false := by rw [← hsv]; first | rfl | decide | kernel_rfl
  have e5 : (s.toList == ([100, 101, 109, 97, 110, 100, 115] : List UInt8)) = false := by rw [← hsv]; first | rfl | decide | kernel_rfl
  have e7 : (s.toList == ([101, 110, 100, 115] : List UInt8)) = false := by rw [← hsv]; first | rfl | decide | kernel_rfl
  have e8 : (s.toList == ([119, 105, 114, 101, 115] : List UInt8)) = false := by rw [← hsv]; first | rfl | decide | kernel_rfl
  clear hsv
  go_enter Tryz.func67, Tryz.ntmps67
  go_wp2
  go_ret
  exact ⟨⟨_, rfl, h⟩, hb⟩
theorem rLevel7 (s : ByteArray) (hsv : nmS 7 = s) (w : World) : Calls Tryz.prog 37 #[.string s] w fun e w' => e = .returned (.int .i64 2) ∧ Below w.heap.size w w' := by
  have e0 : (s.toList == ([108, 105, 109, 105, 116, 115] : List UInt8)) = false := by rw [← hsv]; first | rfl | decide | kernel_rfl
  have e5 : (s.toList == ([100, 101, 109, 97, 110, 100, 115] : List UInt8)) = false := by rw [← hsv]; first | rfl | decide | kernel_rfl
  have e7 : (s.toList == ([101, 110, 100, 115] : List UInt8)) = true := by rw [← hsv]; first | rfl | decide | kernel_rfl
  clear hsv
  go_enter Tryz.func37, Tryz.ntmps37
  go_wp2
  go_ret
  exact ⟨rfl, Below.refl _ _⟩
theorem rNeeds7 (s : ByteArray) (hsv : nmS 7 = s) (w : World) : Calls Tryz.prog 67 #[.string s] w fun e w' => (∃ A, e = .returned (.slice A (nds 7).length (nds 7).length) ∧ NmR w' A ((nds 7).map nmS)) ∧ Below w.heap.size w w' := by
  have h := NmR.new w ((nds 7).map nmS) 9
  have hb := below_one w (.cells (((nds 7).map nmS).map Value.string).toArray 9)
  have e0 : (s.toList == ([108, 105, 109, 105, 116, 115] : List UInt8)) = false := by rw [← hsv]; first | rfl | decide | kernel_rfl
  have e5 : (s.toList == ([100, 101, 109, 97, 110, 100, 115] : List UInt8)) = false := by rw [← hsv]; first | rfl | decide | kernel_rfl
  have e7 : (s.toList == ([101, 110, 100, 115] : List UInt8)) = true := by rw [← hsv]; first | rfl | decide | kernel_rfl
  clear hsv
  go_enter Tryz.func67, Tryz.ntmps67
  go_wp2
  go_ret
  exact ⟨⟨_, rfl, h⟩, hb⟩
theorem rLevel8 (s : ByteArray) (hsv : nmS 8 = s) (w : World) : Calls Tryz.prog 37 #[.string s] w fun e w' => e = .returned (.int .i64 3) ∧ Below w.heap.size w w' := by
  have e0 : (s.toList == ([108, 105, 109, 105, 116, 115] : List UInt8)) = false := by rw [← hsv]; first | rfl | decide | kernel_rfl
  have e5 : (s.toList == ([100, 101, 109, 97, 110, 100, 115] : List UInt8)) = false := by rw [← hsv]; first | rfl | decide | kernel_rfl
  have e7 : (s.toList == ([101, 110, 100, 115] : List UInt8)) = false := by rw [← hsv]; first | rfl | decide | kernel_rfl
  have e8 : (s.toList == ([119, 105, 114, 101, 115] : List UInt8)) = true := by rw [← hsv]; first | rfl | decide | kernel_rfl
  clear hsv
  go_enter Tryz.func37, Tryz.ntmps37
  go_wp2
  go_ret
  exact ⟨rfl, Below.refl _ _⟩
theorem rNeeds8 (s : ByteArray) (hsv : nmS 8 = s) (w : World) : Calls Tryz.prog 67 #[.string s] w fun e w' => (∃ A, e = .returned (.slice A (nds 8).length (nds 8).length) ∧ NmR w' A ((nds 8).map nmS)) ∧ Below w.heap.size w w' := by
  have h := NmR.new w ((nds 8).map nmS) 9
  have hb := below_one w (.cells (((nds 8).map nmS).map Value.string).toArray 9)
  have e0 : (s.toList == ([108, 105, 109, 105, 116, 115] : List UInt8)) = false := by rw [← hsv]; first | rfl | decide | kernel_rfl
  have e5 : (s.toList == ([100, 101, 109, 97, 110, 100, 115] : List UInt8)) = false := by rw [← hsv]; first | rfl | decide | kernel_rfl
  have e7 : (s.toList == ([101, 110, 100, 115] : List UInt8)) = false := by rw [← hsv]; first | rfl | decide | kernel_rfl
  have e8 : (s.toList == ([119, 105, 114, 101, 115] : List UInt8)) = true := by rw [← hsv]; first | rfl | decide | kernel_rfl
  clear hsv
  go_enter Tryz.func67, Tryz.ntmps67
  go_wp2
  go_ret
  exact ⟨⟨_, rfl, h⟩, hb⟩
theorem rLevel_ok (i : Nat) (hi : i < 9) (w : World) (v : Nat) (hv : Hid (lvl i = v)) : Calls Tryz.prog 37 #[.string (nmS i)] w fun e w' => e = .returned (.int .i64 v) ∧ Below w.heap.size w w' := by
  have hv := hv.out
  have : i = 0 ∨ i = 1 ∨ i = 2 ∨ i = 3 ∨ i = 4 ∨ i = 5 ∨ i = 6 ∨ i = 7 ∨ i = 8 := by omega
  rcases this with rfl | rfl | rfl | rfl | rfl | rfl | rfl | rfl | rfl
  · subst hv; exact rLevel0 _ rfl w
  · subst hv; exact rLevel1 _ rfl w
  · subst hv; exact rLevel2 _ rfl w
  · subst hv; exact rLevel3 _ rfl w
  · subst hv; exact rLevel4 _ rfl w
  · subst hv; exact rLevel5 _ rfl w
  · subst hv; exact rLevel6 _ rfl w
  · subst hv; exact rLevel7 _ rfl w
  · subst hv; exact rLevel8 _ rfl w
theorem rNeeds_ok (i : Nat) (hi : i < 9) (w : World) : Calls Tryz.prog 67 #[.string (nmS i)] w fun e w' => (∃ A, e = .returned (.slice A (nds i).length (nds i).length) ∧ NmR w' A ((nds i).map nmS)) ∧ Below w.heap.size w w' := by
  have : i = 0 ∨ i = 1 ∨ i = 2 ∨ i = 3 ∨ i = 4 ∨ i = 5 ∨ i = 6 ∨ i = 7 ∨ i = 8 := by omega
  rcases this with rfl | rfl | rfl | rfl | rfl | rfl | rfl | rfl | rfl
  · exact rNeeds0 _ rfl w
  · exact rNeeds1 _ rfl w
  · exact rNeeds2 _ rfl w
  · exact rNeeds3 _ rfl w
  · exact rNeeds4 _ rfl w
  · exact rNeeds5 _ rfl w
  · exact rNeeds6 _ rfl w
  · exact rNeeds7 _ rfl w
  · exact rNeeds8 _ rfl w
/-- whether a name is known -/
def knB (s : ByteArray) : Bool := (idxS s).isSome
set_option maxRecDepth 100000 in
set_option maxHeartbeats 1000000 in
theorem rKnown_ok (s : ByteArray) (w : World) (v : Bool) (hv : Hid (knB s = v)) : Calls Tryz.prog 36 #[.string s] w fun e w' => e = .returned (.bool v) ∧ Below w.heap.size w w' := by
  go_enter Tryz.func36, Tryz.ntmps36
  go_wp2_with fail
  refine (rNames_ok w).mono ?_
  rintro e w1 ⟨⟨A, rfl, hN⟩, hb1⟩
  have HN := Lib.hid hN
  have HB := Lib.hid hb1
  clear hN hb1
  go_wp2
  go_loopw [4] (fun i wr => ∃ k : Nat, k ≤ 9 ∧ i = .int .i64 k ∧ wr = w1 ∧ Hid (∀ j, j < k → (nmS j == s) = false)) (fun i _ => 9 - (intOf i).toNat)
  case atStart => exact ⟨0, Nat.zero_le _, rfl, rfl, Lib.hid (fun j hj => absurd hj (by omega))⟩
  case round =>
    obtain ⟨k, hk, rfl, rfl, HK⟩ := hrel
    by_cases hlt : k < 9
    · obtain ⟨bb, o, rfl, hbb, g0⟩ := nm_at HN.out (k := k) (s := nmS k) (by unfold nms; simp [hlt])
      have n0 : (0 : Int) ≤ (k : Int) := by omega
      have n1 : (k : Int) < 9 := by omega
      obtain ⟨x, hx⟩ : ∃ x, nmS k = x := ⟨_, rfl⟩
      have HX := Lib.hid hx
      rw [hx] at g0
      rcases beqb_cases x s with he | he
      · have he2 : (x.toList == s.toList) = true := by rw [← beq_toListBytes]; exact he
        have HV := Lib.hid (show true = v by
          rw [← hv.out]
          unfold knB idxS
          rw [eq_comm, List.find?_isSome]
          exact ⟨k, List.mem_range.2 hlt, by rw [HX.out]; exact he⟩)
        clear hx
        go_wp2
        go_ret
        exact ⟨ret_bool HV.out, HB.out⟩
      · have HKN := Lib.hid (show ∀ j, j < k + 1 → (nmS j == s) = false by
          intro j hj
          rcases Nat.lt_or_ge j k with h | h
          · exact HK.out j h
          · obtain rfl : j = k := by omega
            rw [HX.out]; exact he)
        have he2 : (x.toList == s.toList) = false := by rw [← beq_toListBytes]; exact he
        clear hx
        go_wp2
        go_roundw
        case rel => exact ⟨k + 1, by omega, by go_num, by trivial, HKN⟩
        case measure => simp [intOf]; omega
    · obtain rfl : k = 9 := by omega
      have HV := Lib.hid (show false = v by
        rw [← hv.out]
        unfold knB idxS
        rw [eq_comm, Option.isSome_eq_false_iff, Option.isNone_iff_eq_none, List.find?_eq_none]
        intro j hj
        rw [HK.out j (List.mem_range.1 hj)]; simp)
      go_wp2
      go_ret
      exact ⟨ret_bool HV.out, HB.out⟩
end Go.Proofs.YtpedlbjbbcbbkaaGreat
namespace Go.Proofs.YtpedlbjbbcbbkaaGreat
open Go.RowKit
theorem nmS_beq {i j : Nat} (hi : i < 9) (hj : j < 9) : (nmS i == nmS j) = (i == j) := by
  rcases beqb_cases (nmS i) (nmS j) with h | h
  · rw [h, nmS_inj hi hj (beqb_true h)]; simp
  · rw [h]; symm; rw [beq_eq_false_iff_ne]; rintro rfl; rw [ba_refl] at h; cases h
/-- the checks of lower levels, and those of level k below i -/
def prc (k i : Nat) : List Nat := ((List.range k).flatMap fun q => (List.range 9).filter fun n => lvl n == q) ++ (List.range i).filter fun n => lvl n == k
def bdL (c : Cfg) (k i : Nat) : List Nat := (prc k i).filter fun n => !okN c n
theorem prc_zero : prc 0 0 = [] := rfl
theorem prc_lift (k : Nat) : prc k 9 = prc (k + 1) 0 := by
  unfold prc
  rw [List.range_succ (n := k), List.flatMap_append]
  simp
theorem prc_next (k i : Nat) : prc k (i + 1) = if lvl i = k then prc k i ++ [i] else prc k i := by
  unfold prc
  rw [List.range_succ (n := i), List.filter_append]
  by_cases h : lvl i = k
  · rw [if_pos h]; simp [h]
  · rw [if_neg h]; simp [h]
theorem prc_all : ∀ j : Fin 9, j.val ∈ prc 4 0 := by decide
theorem prc_lt9 : ∀ k : Fin 5, ∀ i : Fin 10, ∀ n ∈ prc k.val i.val, n < 9 := by decide
theorem prc_len9 : ∀ k : Fin 5, ∀ i : Fin 10, (prc k.val i.val).length ≤ 18 := by decide
theorem prc_nds : ∀ i : Fin 9, ∀ n ∈ nds i.val, n ∈ prc (lvl i.val) i.val := by decide
theorem bdL_lt {c : Cfg} {k i : Nat} (hk : k ≤ 4) (hi : i ≤ 9) : ∀ n ∈ bdL c k i, n < 9 := fun n hn => prc_lt9 ⟨k, by omega⟩ ⟨i, by omega⟩ n (List.mem_filter.1 hn).1
theorem bdL_len {c : Cfg} {k i : Nat} (hk : k ≤ 4) (hi : i ≤ 9) : (bdL c k i).length ≤ 18 := Nat.le_trans (List.length_filter_le _ _) (prc_len9 ⟨k, by omega⟩ ⟨i, by omega⟩)
theorem bdL_lift (c : Cfg) (k : Nat) : bdL c k 9 = bdL c (k + 1) 0 := by unfold bdL; rw [prc_lift]
theorem bdL_skip {c : Cfg} {k i : Nat} (h : lvl i ≠ k) : bdL c k (i + 1) = bdL c k i := by unfold bdL; rw [prc_next, if_neg h]
theorem bdL_good {c : Cfg} {k i : Nat} (h : lvl i = k) (ho : okN c i = true) : bdL c k (i + 1) = bdL c k i := by
  unfold bdL; rw [prc_next, if_pos h, List.filter_append]; simp [ho]
theorem bdL_bad {c : Cfg} {k i : Nat} (h : lvl i = k) (ho : okN c i = false) : bdL c k (i + 1) = bdL c k i ++ [i] := by
  unfold bdL; rw [prc_next, if_pos h, List.filter_append]; simp [ho]
theorem blk_perf (c : Cfg) {i : Nat} (hi : i < 9) : blk i (bdL c (lvl i) i) = !perfC c i := by
  rw [perf_step c hi]
  unfold blk
  rw [Bool.eq_iff_iff]
  constructor
  · intro h
    obtain ⟨n, hn, h2⟩ := List.any_eq_true.1 h
    obtain ⟨b, hb, h3⟩ := List.any_eq_true.1 h2
    have e : b = n := eq_of_beq h3
    subst e
    have hb2 := (List.mem_filter.1 hb).2
    simp only [Bool.not_eq_true', List.all_eq_false]
    refine ⟨b, hn, ?_⟩
    simpa using hb2
  · intro h
    simp only [Bool.not_eq_true', List.all_eq_false] at h
    obtain ⟨n, hn, h2⟩ := h
    refine List.any_eq_true.2 ⟨n, hn, List.any_eq_true.2 ⟨n, ?_, by simp⟩⟩
    exact List.mem_filter.2 ⟨prc_nds ⟨i, hi⟩ n hn, by simpa using h2⟩
set_option maxRecDepth 100000 in
set_option maxHeartbeats 2000000 in
theorem rBlocked_ok (i : Nat) (hi : i < 9) (bs : List Nat) (hbs : ∀ b ∈ bs, b < 9) (hbl : bs.length ≤ 18) (A : Option Addr) (cp : Nat) (w : World) (hA : NmR w A (bs.map nmS)) (v : Bool) (hv : Hid (blk i bs = v)) : Calls Tryz.prog 38 #[.string (nmS i), .slice A bs.length cp] w fun e w' => e = .returned (.bool v) ∧ Below w.heap.size w w' := by
  have HA0 := Lib.hid hA
  have HBS := Lib.hid hbs
  have HI := Lib.hid hi
  have hndl : (nds i).length ≤ 3 := by
    have : i = 0 ∨ i = 1 ∨ i = 2 ∨ i = 3 ∨ i = 4 ∨ i = 5 ∨ i = 6 ∨ i = 7 ∨ i = 8 := by omega
    rcases this with rfl | rfl | rfl | rfl | rfl | rfl | rfl | rfl | rfl <;> decide
  have HND := Lib.hid hndl
  clear hA hbs hndl
  go_enter Tryz.func38, Tryz.ntmps38
  go_wp2_with fail
  refine (rNeeds_ok i hi w).mono ?_
  rintro e w1 ⟨⟨An, rfl, hN⟩, hb1⟩
  have HA := Lib.hid (HA0.out.up hb1)
  have HN := Lib.hid hN
  have HB := Lib.hid hb1
  obtain ⟨ns, hns⟩ : ∃ ns, nds i = ns := ⟨_, rfl⟩
  have HV := Lib.hid (show (ns.any fun n => bs.any fun b => b == n) = v by rw [← hns]; exact hv.out)
  have HNL := Lib.hid (show ∀ n ∈ ns, n < 9 by intro n hn; rw [← hns] at hn; exact Nat.lt_trans (nds_lt hi hn) hi)
  rw [hns] at HN HND ⊢
  have h3 := HND.out
  clear hN hb1 hns hv hi
  go_wp2
  go_loopw [6, 7] (fun i _ wr => ∃ k : Nat, k ≤ ns.length ∧ i = .int .i64 k ∧ Hid (Below w1.heap.size w1 wr) ∧ Hid (((ns.take k).any fun n => bs.any fun b => b == n) = false)) (fun i _ _ => ns.length - (intOf i).toNat)
  case atStart => exact ⟨0, Nat.zero_le _, rfl, Lib.hid (Below.refl _ _), Lib.hid rfl⟩
  case round =>
    obtain ⟨k, hk, rfl, HW, HK⟩ := hrel
    by_cases hlt : k < ns.length
    · obtain ⟨n, hn⟩ := get_lt hlt
      have HNN := Lib.hid hn
      have n0 : (0 : Int) ≤ (k : Int) := by omega
      have n1 : (k : Int) < (ns.length : Int) := by omega
      clear hn
      go_wp2
      go_loopw [7] (fun j ws => ∃ q : Nat, q ≤ bs.length ∧ j = .int .i64 q ∧ Hid (Below w1.heap.size w1 ws) ∧ Hid (((bs.take q).any fun b => b == n) = false)) (fun j _ => bs.length - (intOf j).toNat)
      case atStart => exact ⟨0, Nat.zero_le _, rfl, HW, Lib.hid rfl⟩
      case round =>
        obtain ⟨q, hq, rfl, HX, HQ⟩ := hrel
        by_cases hql : q < bs.length
        · obtain ⟨b, hb⟩ := get_lt hql
          obtain ⟨bb, o, rfl, hbb, g0⟩ := nm_at (HA.out.up HX.out) (k := q) (s := nmS b) (by rw [List.getElem?_map, hb]; rfl)
          obtain ⟨bb2, o2, rfl, hbb2, g2⟩ := nm_at (HN.out.up HX.out) (k := k) (s := nmS n) (by rw [List.getElem?_map, HNN.out]; rfl)
          have m0 : (0 : Int) ≤ (q : Int) := by omega
          have m1 : (q : Int) < (bs.length : Int) := by omega
          have heq := nmS_beq (HBS.out b (List.mem_of_getElem? hb)) (HNL.out n (List.mem_of_getElem? HNN.out))
          have HTQ := Lib.hid (take_next hb)
          have HIN := Lib.hid (List.mem_of_getElem? hb)
          clear hb
          by_cases e : b = n
          · have e2 : (b == n) = true := by rw [e]; simp
            have HV2 := Lib.hid (show true = v by
              rw [← HV.out, eq_comm]
              exact List.any_eq_true.2 ⟨n, List.mem_of_getElem? HNN.out, List.any_eq_true.2 ⟨b, HIN.out, e2⟩⟩)
            rw [e2, beq_toListBytes] at heq
            clear e e2
            generalize nmS b = sb at g0 heq
            generalize nmS n = sn at g2 heq
            go_wp2
            go_quiet (fail)
            go_wp2
            go_ret
            exact ⟨ret_bool HV2.out, below_drewN (Below.then_ HB.out HX.out) _⟩
          · have e2 : (b == n) = false := by simpa using e
            have HQ2 := Lib.hid (show ((bs.take (q + 1)).any fun b => b == n) = false by rw [HTQ.out, List.any_append, HQ.out]; simp [e2])
            rw [e2, beq_toListBytes] at heq
            clear e e2
            generalize nmS b = sb at g0 heq
            generalize nmS n = sn at g2 heq
            go_wp2
            go_quiet (fail)
            go_wp2
            go_roundw
            case rel => exact ⟨q + 1, by omega, by go_num, Lib.hid (below_drewN HX.out _), HQ2⟩
            case measure => simp [intOf]; omega
        · obtain rfl : q = bs.length := by omega
          have HK2 := Lib.hid (show ((ns.take (k + 1)).any fun n => bs.any fun b => b == n) = false by
            have := HQ.out
            rw [List.take_length] at this
            rw [take_next HNN.out, List.any_append, HK.out]
            simp [this])
          go_wp2
          go_roundw
          case rel => exact ⟨k + 1, by omega, by go_num, HX, HK2⟩
          case measure => simp [intOf]; omega
    · obtain rfl : k = ns.length := by omega
      have HV2 := Lib.hid (show false = v by rw [← HV.out]; have := HK.out; rw [List.take_length] at this; exact this.symm)
      go_wp2
      go_ret
      exact ⟨ret_bool HV2.out, Below.then_ HB.out HW.out⟩
end Go.Proofs.YtpedlbjbbcbbkaaGreat
namespace Go.Proofs.YtpedlbjbbcbbkaaGreat
open Go.RowKit
theorem at_flt {p : Int × Int × Int} {ec sc ic : Int} (hp : p = (ec, sc, ic)) (hz : p.1 = 0 → p = (0, 0, 0)) : (if ec = 0 then noFlt else (⟨ec, sc, ic⟩ : Flt)) = ⟨p.1, p.2.1, p.2.2⟩ := by
  subst hp
  by_cases h : ec = 0
  · have := hz h; simp only [Prod.mk.injEq] at this; obtain ⟨rfl, rfl, rfl⟩ := this; rfl
  · rw [if_neg h]
set_option maxRecDepth 100000 in
set_option maxHeartbeats 4000000 in
theorem rChk0 (c : Cfg) (A1 A2 A3 A4 A5 : Option Addr) (c1 c2 c3 c4 c5 : Nat) (w : World) (hR : CfgR w w.heap.size c A1 A2 A3 A4 A5 c1 c2 c3 c4 c5) (hs : c.small) (hok : c.ok) (s : ByteArray) (hsv : nmS 0 = s) : Calls Tryz.prog 39 #[cfgV c.frame A1 A2 A3 A4 A5 c.parts.length c.wins.length c.regs.length c.ports.length c.chans.length c1 c2 c3 c4 c5, .string s] w fun e w' => e = .returned (fltV (valF c 0)) ∧ Below w.heap.size w w' := by
  have e0 : (s.toList == ([108, 105, 109, 105, 116, 115] : List UInt8)) = true := by rw [← hsv]; first | rfl | decide | kernel_rfl
  clear hsv
  obtain ⟨f, hf⟩ : ∃ f, valF c 0 = f := ⟨_, rfl⟩
  rw [hf]
  obtain ⟨ec, sc, ic, hp⟩ : ∃ ec sc ic, chkBad c = (ec, sc, ic) := ⟨_, _, _, rfl⟩
  have HP := Lib.hid hp
  have HF := Lib.hid (show (if ec = 0 then noFlt else (⟨ec, sc, ic⟩ : Flt)) = f from (at_flt hp chkBad_zero).trans hf)
  clear hp hf
  obtain ⟨W0, hW, st⟩ := St.start_any hR 29
  have HW := Lib.hid hW
  obtain ⟨W1, hW1, hk1, hb1⟩ := FltBkM W0 37
  have HW1 := Lib.hid hW1
  have e0x : W0.heap.size = w.heap.size + 1 := by rw [← hW]; simp
  rw [e0x] at hk1
  have HK1 := Lib.hid hk1
  have HST := Lib.hid (st.up hb1)
  have HOK := Lib.hid hok
  obtain ⟨x0, x1, x2, x3, x4, x5, hz⟩ := HST.out.cells
  clear hR hW hW1 st hk1 hb1 e0x hok
  go_enter Tryz.func39, Tryz.ntmps39
  go_upto_region 1 with (fail)
  rw [HW.out, HW1.out]
  go_wp2_with fail
  refine (rConfCheck_ok c _ _ _ _ _ _ _ _ _ _ _ HST.out.R hs _ _ _ HP).mono ?_
  rintro e w3 ⟨rfl, hb3⟩
  have HB3 := Lib.hid (HST.out.bel.trans (hb3.mono HST.out.bel.size))
  have HK3 := Lib.hid (HK1.out.below hb3 HK1.out.lt)
  clear hb3 x0 x1 x2 x3 x4 x5 hz
  go_wp2_with fail
  refine (rAt_ok _ _ _ _ f HF).mono ?_
  rintro e w4 ⟨rfl, hb4⟩
  have HB4 := Lib.hid (HB3.out.trans (hb4.mono HB3.out.size))
  have hk5 := HK3.out.below hb4 HK3.out.lt
  have q0 := hk5.cell 0
  have q1 := hk5.cell 1
  have q2 := hk5.cell 2
  have qf := hk5.frozen
  simp at q0 q1 q2
  have hkl := hk5.lt
  clear hk5 hb4
  go_wp2
  refine bodyPost_ret (v := fltV f) (by simp [results, Tryz.results39, go_sem, q0, q1, q2]) rfl ⟨rfl, ?_⟩
  exact Below.setCell (Below.setCell (Below.setCell HB4.out (by simp) _) (by simp) _) (by simp) _
set_option maxRecDepth 100000 in
set_option maxHeartbeats 4000000 in
theorem rChk1 (c : Cfg) (A1 A2 A3 A4 A5 : Option Addr) (c1 c2 c3 c4 c5 : Nat) (w : World) (hR : CfgR w w.heap.size c A1 A2 A3 A4 A5 c1 c2 c3 c4 c5) (hs : c.small) (hok : c.ok) (s : ByteArray) (hsv : nmS 1 = s) : Calls Tryz.prog 39 #[cfgV c.frame A1 A2 A3 A4 A5 c.parts.length c.wins.length c.regs.length c.ports.length c.chans.length c1 c2 c3 c4 c5, .string s] w fun e w' => e = .returned (fltV (valF c 1)) ∧ Below w.heap.size w w' := by
  have e0 : (s.toList == ([108, 105, 109, 105, 116, 115] : List UInt8)) = false := by rw [← hsv]; first | rfl | decide | kernel_rfl
  have e1 : (s.toList == ([112, 97, 114, 116, 105, 116, 105, 111, 110, 115] : List UInt8)) = true := by rw [← hsv]; first | rfl | decide | kernel_rfl
  clear hsv
  obtain ⟨f, hf⟩ : ∃ f, valF c 1 = f := ⟨_, rfl⟩
  rw [hf]
  obtain ⟨x, hp⟩ : ∃ x, refParts c = x := ⟨_, rfl⟩
  have HP := Lib.hid hp
  have HF := Lib.hid (show firstOf 1 [x] = f from by rw [← hp]; exact hf)
  clear hp hf
  obtain ⟨W0, hW, st⟩ := St.start_any hR 29
  have HW := Lib.hid hW
  obtain ⟨W1, hW1, hk1, hb1⟩ := FltBkM W0 37
  have HW1 := Lib.hid hW1
  have e0x : W0.heap.size = w.heap.size + 1 := by rw [← hW]; simp
  rw [e0x] at hk1
  have HK1 := Lib.hid hk1
  have HST := Lib.hid (st.up hb1)
  have HOK := Lib.hid hok
  obtain ⟨x0, x1, x2, x3, x4, x5, hz⟩ := HST.out.cells
  clear hR hW hW1 st hk1 hb1 e0x hok
  go_enter Tryz.func39, Tryz.ntmps39
  go_upto_region 1 with (fail)
  rw [HW.out, HW1.out]
  go_wp2_with fail
  have hcl := rPartitions_ok c _ _ _ _ _ _ _ _ _ _ _ HST.out.R hs
  rw [HP.out] at hcl
  refine hcl.mono ?_
  clear hcl
  rintro e w3 ⟨rfl, hb3⟩
  have HB3 := Lib.hid (HST.out.bel.trans (hb3.mono HST.out.bel.size))
  have HK3 := Lib.hid (HK1.out.below hb3 HK1.out.lt)
  clear hb3 x0 x1 x2 x3 x4 x5 hz
  go_wp2_with fail
  refine (rTwice_ok _ _ _ f HF).mono ?_
  rintro e w4 ⟨rfl, hb4⟩
  have HB4 := Lib.hid (HB3.out.trans (hb4.mono HB3.out.size))
  have hk5 := HK3.out.below hb4 HK3.out.lt
  have q0 := hk5.cell 0
  have q1 := hk5.cell 1
  have q2 := hk5.cell 2
  have qf := hk5.frozen
  simp at q0 q1 q2
  have hkl := hk5.lt
  clear hk5 hb4
  go_wp2
  refine bodyPost_ret (v := fltV f) (by simp [results, Tryz.results39, go_sem, q0, q1, q2]) rfl ⟨rfl, ?_⟩
  exact Below.setCell (Below.setCell (Below.setCell HB4.out (by simp) _) (by simp) _) (by simp) _
set_option maxRecDepth 100000 in
set_option maxHeartbeats 4000000 in
theorem rChk2 (c : Cfg) (A1 A2 A3 A4 A5 : Option Addr) (c1 c2 c3 c4 c5 : Nat) (w : World) (hR : CfgR w w.heap.size c A1 A2 A3 A4 A5 c1 c2 c3 c4 c5) (hs : c.small) (hok : c.ok) (s : ByteArray) (hsv : nmS 2 = s) : Calls Tryz.prog 39 #[cfgV c.frame A1 A2 A3 A4 A5 c.parts.length c.wins.length c.regs.length c.ports.length c.chans.length c1 c2 c3 c4 c5, .string s] w fun e w' => e = .returned (fltV (valF c 2)) ∧ Below w.heap.size w w' := by
  have e0 : (s.toList == ([108, 105, 109, 105, 116, 115] : List UInt8)) = false := by rw [← hsv]; first | rfl | decide | kernel_rfl
  have e1 : (s.toList == ([112, 97, 114, 116, 105, 116, 105, 111, 110, 115] : List UInt8)) = false := by rw [← hsv]; first | rfl | decide | kernel_rfl
  have e2 : (s.toList == ([112, 111, 114, 116, 115] : List UInt8)) = true := by rw [← hsv]; first | rfl | decide | kernel_rfl
  clear hsv
  obtain ⟨f, hf⟩ : ∃ f, valF c 2 = f := ⟨_, rfl⟩
  rw [hf]
  obtain ⟨x, hp⟩ : ∃ x, refPorts c = x := ⟨_, rfl⟩
  have HP := Lib.hid hp
  have HF := Lib.hid (show firstOf 4 [x] = f from by rw [← hp]; exact hf)
  clear hp hf
  obtain ⟨W0, hW, st⟩ := St.start_any hR 29
  have HW := Lib.hid hW
  obtain ⟨W1, hW1, hk1, hb1⟩ := FltBkM W0 37
  have HW1 := Lib.hid hW1
  have e0x : W0.heap.size = w.heap.size + 1 := by rw [← hW]; simp
  rw [e0x] at hk1
  have HK1 := Lib.hid hk1
  have HST := Lib.hid (st.up hb1)
  have HOK := Lib.hid hok
  obtain ⟨x0, x1, x2, x3, x4, x5, hz⟩ := HST.out.cells
  clear hR hW hW1 st hk1 hb1 e0x hok
  go_enter Tryz.func39, Tryz.ntmps39
  go_upto_region 1 with (fail)
  rw [HW.out, HW1.out]
  go_wp2_with fail
  have hcl := rPorts_ok c _ _ _ _ _ _ _ _ _ _ _ HST.out.R hs
  rw [HP.out] at hcl
  refine hcl.mono ?_
  clear hcl
  rintro e w3 ⟨rfl, hb3⟩
  have HB3 := Lib.hid (HST.out.bel.trans (hb3.mono HST.out.bel.size))
  have HK3 := Lib.hid (HK1.out.below hb3 HK1.out.lt)
  clear hb3 x0 x1 x2 x3 x4 x5 hz
  go_wp2_with fail
  refine (rTwice_ok _ _ _ f HF).mono ?_
  rintro e w4 ⟨rfl, hb4⟩
  have HB4 := Lib.hid (HB3.out.trans (hb4.mono HB3.out.size))
  have hk5 := HK3.out.below hb4 HK3.out.lt
  have q0 := hk5.cell 0
  have q1 := hk5.cell 1
  have q2 := hk5.cell 2
  have qf := hk5.frozen
  simp at q0 q1 q2
  have hkl := hk5.lt
  clear hk5 hb4
  go_wp2
  refine bodyPost_ret (v := fltV f) (by simp [results, Tryz.results39, go_sem, q0, q1, q2]) rfl ⟨rfl, ?_⟩
  exact Below.setCell (Below.setCell (Below.setCell HB4.out (by simp) _) (by simp) _) (by simp) _
set_option maxRecDepth 100000 in
set_option maxHeartbeats 4000000 in
theorem rChk3 (c : Cfg) (A1 A2 A3 A4 A5 : Option Addr) (c1 c2 c3 c4 c5 : Nat) (w : World) (hR : CfgR w w.heap.size c A1 A2 A3 A4 A5 c1 c2 c3 c4 c5) (hs : c.small) (hok : c.ok) (s : ByteArray) (hsv : nmS 3 = s) : Calls Tryz.prog 39 #[cfgV c.frame A1 A2 A3 A4 A5 c.parts.length c.wins.length c.regs.length c.ports.length c.chans.length c1 c2 c3 c4 c5, .string s] w fun e w' => e = .returned (fltV (valF c 3)) ∧ Below w.heap.size w w' := by
  have e0 : (s.toList == ([108, 105, 109, 105, 116, 115] : List UInt8)) = false := by rw [← hsv]; first | rfl | decide | kernel_rfl
  have e1 : (s.toList == ([112, 97, 114, 116, 105, 116, 105, 111, 110, 115] : List UInt8)) = false := by rw [← hsv]; first | rfl | decide | kernel_rfl
  have e2 : (s.toList == ([112, 111, 114, 116, 115] : List UInt8)) = false := by rw [← hsv]; first | rfl | decide | kernel_rfl
  have e3 : (s.toList == ([99, 104, 97, 110, 110, 101, 108, 115] : List UInt8)) = true := by rw [← hsv]; first | rfl | decide | kernel_rfl
  clear hsv
  obtain ⟨f, hf⟩ : ∃ f, valF c 3 = f := ⟨_, rfl⟩
  rw [hf]
  obtain ⟨x, hp⟩ : ∃ x, rep (c.chans.map (·.id)) = x := ⟨_, rfl⟩
  have HP := Lib.hid hp
  have HF := Lib.hid (show firstOf 5 [x] = f from by rw [← hp]; exact hf)
  clear hp hf
  obtain ⟨W0, hW, st⟩ := St.start_any hR 29
  have HW := Lib.hid hW
  obtain ⟨W1, hW1, hk1, hb1⟩ := FltBkM W0 37
  have HW1 := Lib.hid hW1
  have e0x : W0.heap.size = w.heap.size + 1 := by rw [← hW]; simp
  rw [e0x] at hk1
  have HK1 := Lib.hid hk1
  have HST := Lib.hid (st.up hb1)
  have HOK := Lib.hid hok
  obtain ⟨x0, x1, x2, x3, x4, x5, hz⟩ := HST.out.cells
  clear hR hW hW1 st hk1 hb1 e0x hok
  go_enter Tryz.func39, Tryz.ntmps39
  go_upto_region 1 with (fail)
  rw [HW.out, HW1.out]
  go_wp2_with fail
  have hcl := rChannels_ok c _ _ _ _ _ _ _ _ _ _ _ HST.out.R hs
  rw [HP.out] at hcl
  refine hcl.mono ?_
  clear hcl
  rintro e w3 ⟨rfl, hb3⟩
  have HB3 := Lib.hid (HST.out.bel.trans (hb3.mono HST.out.bel.size))
  have HK3 := Lib.hid (HK1.out.below hb3 HK1.out.lt)
  clear hb3 x0 x1 x2 x3 x4 x5 hz
  go_wp2_with fail
  refine (rTwice_ok _ _ _ f HF).mono ?_
  rintro e w4 ⟨rfl, hb4⟩
  have HB4 := Lib.hid (HB3.out.trans (hb4.mono HB3.out.size))
  have hk5 := HK3.out.below hb4 HK3.out.lt
  have q0 := hk5.cell 0
  have q1 := hk5.cell 1
  have q2 := hk5.cell 2
  have qf := hk5.frozen
  simp at q0 q1 q2
  have hkl := hk5.lt
  clear hk5 hb4
  go_wp2
  refine bodyPost_ret (v := fltV f) (by simp [results, Tryz.results39, go_sem, q0, q1, q2]) rfl ⟨rfl, ?_⟩
  exact Below.setCell (Below.setCell (Below.setCell HB4.out (by simp) _) (by simp) _) (by simp) _
set_option maxRecDepth 100000 in
set_option maxHeartbeats 4000000 in
theorem rChk4 (c : Cfg) (A1 A2 A3 A4 A5 : Option Addr) (c1 c2 c3 c4 c5 : Nat) (w : World) (hR : CfgR w w.heap.size c A1 A2 A3 A4 A5 c1 c2 c3 c4 c5) (hs : c.small) (hok : c.ok) (s : ByteArray) (hsv : nmS 4 = s) : Calls Tryz.prog 39 #[cfgV c.frame A1 A2 A3 A4 A5 c.parts.length c.wins.length c.regs.length c.ports.length c.chans.length c1 c2 c3 c4 c5, .string s] w fun e w' => e = .returned (fltV (valF c 4)) ∧ Below w.heap.size w w' := by
  have e0 : (s.toList == ([108, 105, 109, 105, 116, 115] : List UInt8)) = false := by rw [← hsv]; first | rfl | decide | kernel_rfl
  have e1 : (s.toList == ([112, 97, 114, 116, 105, 116, 105, 111, 110, 115] : List UInt8)) = false := by rw [← hsv]; first | rfl | decide | kernel_rfl
  have e2 : (s.toList == ([112, 111, 114, 116, 115] : List UInt8)) = false := by rw [← hsv]; first | rfl | decide | kernel_rfl
  have e3 : (s.toList == ([99, 104, 97, 110, 110, 101, 108, 115] : List UInt8)) = false := by rw [← hsv]; first | rfl | decide | kernel_rfl
  have e4 : (s.toList == ([119, 105, 110, 100, 111, 119, 115] : List UInt8)) = true := by rw [← hsv]; first | rfl | decide | kernel_rfl
  clear hsv
  obtain ⟨f, hf⟩ : ∃ f, valF c 4 = f := ⟨_, rfl⟩
  rw [hf]
  obtain ⟨ec, sc, ic, hp⟩ : ∃ ec sc ic, winBad c = (ec, sc, ic) := ⟨_, _, _, rfl⟩
  have HP := Lib.hid hp
  have HF := Lib.hid (show (if ec = 0 then noFlt else (⟨ec, sc, ic⟩ : Flt)) = f from (at_flt hp winBad_zero).trans hf)
  clear hp hf
  obtain ⟨W0, hW, st⟩ := St.start_any hR 29
  have HW := Lib.hid hW
  obtain ⟨W1, hW1, hk1, hb1⟩ := FltBkM W0 37
  have HW1 := Lib.hid hW1
  have e0x : W0.heap.size = w.heap.size + 1 := by rw [← hW]; simp
  rw [e0x] at hk1
  have HK1 := Lib.hid hk1
  have HST := Lib.hid (st.up hb1)
  have HOK := Lib.hid hok
  obtain ⟨x0, x1, x2, x3, x4, x5, hz⟩ := HST.out.cells
  clear hR hW hW1 st hk1 hb1 e0x hok
  go_enter Tryz.func39, Tryz.ntmps39
  go_upto_region 1 with (fail)
  rw [HW.out, HW1.out]
  go_wp2_with fail
  refine (rFrCheck_ok c _ _ _ _ _ _ _ _ _ _ _ HST.out.R hs HOK.out _ _ _ HP).mono ?_
  rintro e w3 ⟨rfl, hb3⟩
  have HB3 := Lib.hid (HST.out.bel.trans (hb3.mono HST.out.bel.size))
  have HK3 := Lib.hid (HK1.out.below hb3 HK1.out.lt)
  clear hb3 x0 x1 x2 x3 x4 x5 hz
  go_wp2_with fail
  refine (rAt_ok _ _ _ _ f HF).mono ?_
  rintro e w4 ⟨rfl, hb4⟩
  have HB4 := Lib.hid (HB3.out.trans (hb4.mono HB3.out.size))
  have hk5 := HK3.out.below hb4 HK3.out.lt
  have q0 := hk5.cell 0
  have q1 := hk5.cell 1
  have q2 := hk5.cell 2
  have qf := hk5.frozen
  simp at q0 q1 q2
  have hkl := hk5.lt
  clear hk5 hb4
  go_wp2
  refine bodyPost_ret (v := fltV f) (by simp [results, Tryz.results39, go_sem, q0, q1, q2]) rfl ⟨rfl, ?_⟩
  exact Below.setCell (Below.setCell (Below.setCell HB4.out (by simp) _) (by simp) _) (by simp) _
set_option maxRecDepth 100000 in
set_option maxHeartbeats 4000000 in
theorem rChk5 (c : Cfg) (A1 A2 A3 A4 A5 : Option Addr) (c1 c2 c3 c4 c5 : Nat) (w : World) (hR : CfgR w w.heap.size c A1 A2 A3 A4 A5 c1 c2 c3 c4 c5) (hs : c.small) (hok : c.ok) (hwb : winBad c = (0, 0, 0)) (s : ByteArray) (hsv : nmS 5 = s) : Calls Tryz.prog 39 #[cfgV c.frame A1 A2 A3 A4 A5 c.parts.length c.wins.length c.regs.length c.ports.length c.chans.length c1 c2 c3 c4 c5, .string s] w fun e w' => e = .returned (fltV (valF c 5)) ∧ Below w.heap.size w w' := by
  have e0 : (s.toList == ([108, 105, 109, 105, 116, 115] : List UInt8)) = false := by rw [← hsv]; first | rfl | decide | kernel_rfl
  have e1 : (s.toList == ([112, 97, 114, 116, 105, 116, 105, 111, 110, 115] : List UInt8)) = false := by rw [← hsv]; first | rfl | decide | kernel_rfl
  have e2 : (s.toList == ([112, 111, 114, 116, 115] : List UInt8)) = false := by rw [← hsv]; first | rfl | decide | kernel_rfl
  have e3 : (s.toList == ([99, 104, 97, 110, 110, 101, 108, 115] : List UInt8)) = false := by rw [← hsv]; first | rfl | decide | kernel_rfl
  have e4 : (s.toList == ([119, 105, 110, 100, 111, 119, 115] : List UInt8)) = false := by rw [← hsv]; first | rfl | decide | kernel_rfl
  have e5 : (s.toList == ([100, 101, 109, 97, 110, 100, 115] : List UInt8)) = true := by rw [← hsv]; first | rfl | decide | kernel_rfl
  clear hsv
  obtain ⟨f, hf⟩ : ∃ f, valF c 5 = f := ⟨_, rfl⟩
  rw [hf]
  have HWB := Lib.hid hwb
  clear hwb
  obtain ⟨ec, sc, ic, hp⟩ : ∃ ec sc ic, demBad c = (ec, sc, ic) := ⟨_, _, _, rfl⟩
  have HP := Lib.hid hp
  have HF := Lib.hid (show (if ec = 0 then noFlt else (⟨ec, sc, ic⟩ : Flt)) = f from (at_flt hp demBad_zero).trans hf)
  clear hp hf
  obtain ⟨W0, hW, st⟩ := St.start_any hR 29
  have HW := Lib.hid hW
  obtain ⟨W1, hW1, hk1, hb1⟩ := FltBkM W0 37
  have HW1 := Lib.hid hW1
  have e0x : W0.heap.size = w.heap.size + 1 := by rw [← hW]; simp
  rw [e0x] at hk1
  have HK1 := Lib.hid hk1
  have HST := Lib.hid (st.up hb1)
  have HOK := Lib.hid hok
  obtain ⟨x0, x1, x2, x3, x4, x5, hz⟩ := HST.out.cells
  clear hR hW hW1 st hk1 hb1 e0x hok
  go_enter Tryz.func39, Tryz.ntmps39
  go_upto_region 1 with (fail)
  rw [HW.out, HW1.out]
  go_wp2_with fail
  refine (rDemCheck_ok c _ _ _ _ _ _ _ _ _ _ _ HST.out.R hs HOK.out HWB.out _ _ _ HP).mono ?_
  rintro e w3 ⟨rfl, hb3⟩
  have HB3 := Lib.hid (HST.out.bel.trans (hb3.mono HST.out.bel.size))
  have HK3 := Lib.hid (HK1.out.below hb3 HK1.out.lt)
  clear hb3 x0 x1 x2 x3 x4 x5 hz
  go_wp2_with fail
  refine (rAt_ok _ _ _ _ f HF).mono ?_
  rintro e w4 ⟨rfl, hb4⟩
  have HB4 := Lib.hid (HB3.out.trans (hb4.mono HB3.out.size))
  have hk5 := HK3.out.below hb4 HK3.out.lt
  have q0 := hk5.cell 0
  have q1 := hk5.cell 1
  have q2 := hk5.cell 2
  have qf := hk5.frozen
  simp at q0 q1 q2
  have hkl := hk5.lt
  clear hk5 hb4
  go_wp2
  refine bodyPost_ret (v := fltV f) (by simp [results, Tryz.results39, go_sem, q0, q1, q2]) rfl ⟨rfl, ?_⟩
  exact Below.setCell (Below.setCell (Below.setCell HB4.out (by simp) _) (by simp) _) (by simp) _
set_option maxRecDepth 100000 in
set_option maxHeartbeats 4000000 in
theorem rChk6 (c : Cfg) (A1 A2 A3 A4 A5 : Option Addr) (c1 c2 c3 c4 c5 : Nat) (w : World) (hR : CfgR w w.heap.size c A1 A2 A3 A4 A5 c1 c2 c3 c4 c5) (hs : c.small) (hok : c.ok) (s : ByteArray) (hsv : nmS 6 = s) : Calls Tryz.prog 39 #[cfgV c.frame A1 A2 A3 A4 A5 c.parts.length c.wins.length c.regs.length c.ports.length c.chans.length c1 c2 c3 c4 c5, .string s] w fun e w' => e = .returned (fltV (valF c 6)) ∧ Below w.heap.size w w' := by
  have e0 : (s.toList == ([108, 105, 109, 105, 116, 115] : List UInt8)) = false := by rw [← hsv]; first | rfl | decide | kernel_rfl
  have e1 : (s.toList == ([112, 97, 114, 116, 105, 116, 105, 111, 110, 115] : List UInt8)) = false := by rw [← hsv]; first | rfl | decide | kernel_rfl
  have e2 : (s.toList == ([112, 111, 114, 116, 115] : List UInt8)) = false := by rw [← hsv]; first | rfl | decide | kernel_rfl
  have e3 : (s.toList == ([99, 104, 97, 110, 110, 101, 108, 115] : List UInt8)) = false := by rw [← hsv]; first | rfl | decide | kernel_rfl
  have e4 : (s.toList == ([119, 105, 110, 100, 111, 119, 115] : List UInt8)) = false := by rw [← hsv]; first | rfl | decide | kernel_rfl
  have e5 : (s.toList == ([100, 101, 109, 97, 110, 100, 115] : List UInt8)) = false := by rw [← hsv]; first | rfl | decide | kernel_rfl
  have e6 : (s.toList == ([114, 101, 103, 105, 111, 110, 115] : List UInt8)) = true := by rw [← hsv]; first | rfl | decide | kernel_rfl
  clear hsv
  obtain ⟨f, hf⟩ : ∃ f, valF c 6 = f := ⟨_, rfl⟩
  rw [hf]
  obtain ⟨ec, ic, hp⟩ : ∃ ec ic, memBad c = (ec, ic) := ⟨_, _, rfl⟩
  have HP := Lib.hid hp
  have HF := Lib.hid (show (if ec = 0 then noFlt else (⟨ec, 3, ic⟩ : Flt)) = f from (show _ = valF c 6 from by show _ = memFlt c; unfold memFlt; rw [hp]).trans hf)
  clear hp hf
  obtain ⟨W0, hW, st⟩ := St.start_any hR 29
  have HW := Lib.hid hW
  obtain ⟨W1, hW1, hk1, hb1⟩ := FltBkM W0 37
  have HW1 := Lib.hid hW1
  have e0x : W0.heap.size = w.heap.size + 1 := by rw [← hW]; simp
  rw [e0x] at hk1
  have HK1 := Lib.hid hk1
  have HST := Lib.hid (st.up hb1)
  have HOK := Lib.hid hok
  obtain ⟨x0, x1, x2, x3, x4, x5, hz⟩ := HST.out.cells
  clear hR hW hW1 st hk1 hb1 e0x hok
  go_enter Tryz.func39, Tryz.ntmps39
  go_upto_region 1 with (fail)
  rw [HW.out, HW1.out]
  go_wp2_with fail
  have hcl := rMemCheck_ok c _ _ _ _ _ _ _ _ _ _ _ HST.out.R hs HOK.out
  rw [HP.out] at hcl
  refine hcl.mono ?_
  clear hcl
  rintro e w3 ⟨rfl, hb3⟩
  have HB3 := Lib.hid (HST.out.bel.trans (hb3.mono HST.out.bel.size))
  have HK3 := Lib.hid (HK1.out.below hb3 HK1.out.lt)
  clear hb3 x0 x1 x2 x3 x4 x5 hz
  go_wp2_with fail
  refine (rAt_ok _ _ _ _ f HF).mono ?_
  rintro e w4 ⟨rfl, hb4⟩
  have HB4 := Lib.hid (HB3.out.trans (hb4.mono HB3.out.size))
  have hk5 := HK3.out.below hb4 HK3.out.lt
  have q0 := hk5.cell 0
  have q1 := hk5.cell 1
  have q2 := hk5.cell 2
  have qf := hk5.frozen
  simp at q0 q1 q2
  have hkl := hk5.lt
  clear hk5 hb4
  go_wp2
  refine bodyPost_ret (v := fltV f) (by simp [results, Tryz.results39, go_sem, q0, q1, q2]) rfl ⟨rfl, ?_⟩
  exact Below.setCell (Below.setCell (Below.setCell HB4.out (by simp) _) (by simp) _) (by simp) _
set_option maxRecDepth 100000 in
set_option maxHeartbeats 4000000 in
theorem rChk7 (c : Cfg) (A1 A2 A3 A4 A5 : Option Addr) (c1 c2 c3 c4 c5 : Nat) (w : World) (hR : CfgR w w.heap.size c A1 A2 A3 A4 A5 c1 c2 c3 c4 c5) (hs : c.small) (hok : c.ok) (s : ByteArray) (hsv : nmS 7 = s) : Calls Tryz.prog 39 #[cfgV c.frame A1 A2 A3 A4 A5 c.parts.length c.wins.length c.regs.length c.ports.length c.chans.length c1 c2 c3 c4 c5, .string s] w fun e w' => e = .returned (fltV (valF c 7)) ∧ Below w.heap.size w w' := by
  have e0 : (s.toList == ([108, 105, 109, 105, 116, 115] : List UInt8)) = false := by rw [← hsv]; first | rfl | decide | kernel_rfl
  have e1 : (s.toList == ([112, 97, 114, 116, 105, 116, 105, 111, 110, 115] : List UInt8)) = false := by rw [← hsv]; first | rfl | decide | kernel_rfl
  have e2 : (s.toList == ([112, 111, 114, 116, 115] : List UInt8)) = false := by rw [← hsv]; first | rfl | decide | kernel_rfl
  have e3 : (s.toList == ([99, 104, 97, 110, 110, 101, 108, 115] : List UInt8)) = false := by rw [← hsv]; first | rfl | decide | kernel_rfl
  have e4 : (s.toList == ([119, 105, 110, 100, 111, 119, 115] : List UInt8)) = false := by rw [← hsv]; first | rfl | decide | kernel_rfl
  have e5 : (s.toList == ([100, 101, 109, 97, 110, 100, 115] : List UInt8)) = false := by rw [← hsv]; first | rfl | decide | kernel_rfl
  have e6 : (s.toList == ([114, 101, 103, 105, 111, 110, 115] : List UInt8)) = false := by rw [← hsv]; first | rfl | decide | kernel_rfl
  have e7 : (s.toList == ([101, 110, 100, 115] : List UInt8)) = true := by rw [← hsv]; first | rfl | decide | kernel_rfl
  clear hsv
  obtain ⟨f, hf⟩ : ∃ f, valF c 7 = f := ⟨_, rfl⟩
  rw [hf]
  obtain ⟨ec, ic, hp⟩ : ∃ ec ic, portBad c = (ec, ic) := ⟨_, _, rfl⟩
  have HP := Lib.hid hp
  have HF := Lib.hid (show (if ec = 0 then noFlt else (⟨ec, 4, ic⟩ : Flt)) = f from (show _ = valF c 7 from by show _ = pFlt c; unfold pFlt badFlt; rw [hp]).trans hf)
  clear hp hf
  obtain ⟨W0, hW, st⟩ := St.start_any hR 29
  have HW := Lib.hid hW
  obtain ⟨W1, hW1, hk1, hb1⟩ := FltBkM W0 37
  have HW1 := Lib.hid hW1
  have e0x : W0.heap.size = w.heap.size + 1 := by rw [← hW]; simp
  rw [e0x] at hk1
  have HK1 := Lib.hid hk1
  have HST := Lib.hid (st.up hb1)
  have HOK := Lib.hid hok
  obtain ⟨x0, x1, x2, x3, x4, x5, hz⟩ := HST.out.cells
  clear hR hW hW1 st hk1 hb1 e0x hok
  go_enter Tryz.func39, Tryz.ntmps39
  go_upto_region 1 with (fail)
  rw [HW.out, HW1.out]
  go_wp2_with fail
  have hcl := rPorts18_ok c _ _ _ _ _ _ _ _ _ _ _ HST.out.R hs
  rw [HP.out] at hcl
  refine hcl.mono ?_
  clear hcl
  rintro e w3 ⟨rfl, hb3⟩
  have HB3 := Lib.hid (HST.out.bel.trans (hb3.mono HST.out.bel.size))
  have HK3 := Lib.hid (HK1.out.below hb3 HK1.out.lt)
  clear hb3 x0 x1 x2 x3 x4 x5 hz
  go_wp2_with fail
  refine (rAt_ok _ _ _ _ f HF).mono ?_
  rintro e w4 ⟨rfl, hb4⟩
  have HB4 := Lib.hid (HB3.out.trans (hb4.mono HB3.out.size))
  have hk5 := HK3.out.below hb4 HK3.out.lt
  have q0 := hk5.cell 0
  have q1 := hk5.cell 1
  have q2 := hk5.cell 2
  have qf := hk5.frozen
  simp at q0 q1 q2
  have hkl := hk5.lt
  clear hk5 hb4
  go_wp2
  refine bodyPost_ret (v := fltV f) (by simp [results, Tryz.results39, go_sem, q0, q1, q2]) rfl ⟨rfl, ?_⟩
  exact Below.setCell (Below.setCell (Below.setCell HB4.out (by simp) _) (by simp) _) (by simp) _
set_option maxRecDepth 100000 in
set_option maxHeartbeats 4000000 in
theorem rChk8 (c : Cfg) (A1 A2 A3 A4 A5 : Option Addr) (c1 c2 c3 c4 c5 : Nat) (w : World) (hR : CfgR w w.heap.size c A1 A2 A3 A4 A5 c1 c2 c3 c4 c5) (hs : c.small) (hok : c.ok) (s : ByteArray) (hsv : nmS 8 = s) : Calls Tryz.prog 39 #[cfgV c.frame A1 A2 A3 A4 A5 c.parts.length c.wins.length c.regs.length c.ports.length c.chans.length c1 c2 c3 c4 c5, .string s] w fun e w' => e = .returned (fltV (valF c 8)) ∧ Below w.heap.size w w' := by
  have e0 : (s.toList == ([108, 105, 109, 105, 116, 115] : List UInt8)) = false := by rw [← hsv]; first | rfl | decide | kernel_rfl
  have e1 : (s.toList == ([112, 97, 114, 116, 105, 116, 105, 111, 110, 115] : List UInt8)) = false := by rw [← hsv]; first | rfl | decide | kernel_rfl
  have e2 : (s.toList == ([112, 111, 114, 116, 115] : List UInt8)) = false := by rw [← hsv]; first | rfl | decide | kernel_rfl
  have e3 : (s.toList == ([99, 104, 97, 110, 110, 101, 108, 115] : List UInt8)) = false := by rw [← hsv]; first | rfl | decide | kernel_rfl
  have e4 : (s.toList == ([119, 105, 110, 100, 111, 119, 115] : List UInt8)) = false := by rw [← hsv]; first | rfl | decide | kernel_rfl
  have e5 : (s.toList == ([100, 101, 109, 97, 110, 100, 115] : List UInt8)) = false := by rw [← hsv]; first | rfl | decide | kernel_rfl
  have e6 : (s.toList == ([114, 101, 103, 105, 111, 110, 115] : List UInt8)) = false := by rw [← hsv]; first | rfl | decide | kernel_rfl
  have e7 : (s.toList == ([101, 110, 100, 115] : List UInt8)) = false := by rw [← hsv]; first | rfl | decide | kernel_rfl
  clear hsv
  obtain ⟨f, hf⟩ : ∃ f, valF c 8 = f := ⟨_, rfl⟩
  rw [hf]
  obtain ⟨ec, ic, hp⟩ : ∃ ec ic, rChanBad c = (ec, ic) := ⟨_, _, rfl⟩
  have HP := Lib.hid hp
  have HF := Lib.hid (show (if ec = 0 then noFlt else (⟨ec, 5, ic⟩ : Flt)) = f from (show _ = valF c 8 from by show _ = xFlt c; unfold xFlt; rw [chanBad_eq, hp]; first | done | rfl).trans hf)
  clear hp hf
  obtain ⟨W0, hW, st⟩ := St.start_any hR 29
  have HW := Lib.hid hW
  obtain ⟨W1, hW1, hk1, hb1⟩ := FltBkM W0 37
  have HW1 := Lib.hid hW1
  have e0x : W0.heap.size = w.heap.size + 1 := by rw [← hW]; simp
  rw [e0x] at hk1
  have HK1 := Lib.hid hk1
  have HST := Lib.hid (st.up hb1)
  have HOK := Lib.hid hok
  obtain ⟨x0, x1, x2, x3, x4, x5, hz⟩ := HST.out.cells
  clear hR hW hW1 st hk1 hb1 e0x hok
  go_enter Tryz.func39, Tryz.ntmps39
  go_upto_region 1 with (fail)
  rw [HW.out, HW1.out]
  go_wp2_with fail
  have hcl := rChannels18_ok c _ _ _ _ _ _ _ _ _ _ _ HST.out.R hs
  rw [HP.out] at hcl
  refine hcl.mono ?_
  clear hcl
  rintro e w3 ⟨rfl, hb3⟩
  have HB3 := Lib.hid (HST.out.bel.trans (hb3.mono HST.out.bel.size))
  have HK3 := Lib.hid (HK1.out.below hb3 HK1.out.lt)
  clear hb3 x0 x1 x2 x3 x4 x5 hz
  go_wp2_with fail
  refine (rAt_ok _ _ _ _ f HF).mono ?_
  rintro e w4 ⟨rfl, hb4⟩
  have HB4 := Lib.hid (HB3.out.trans (hb4.mono HB3.out.size))
  have hk5 := HK3.out.below hb4 HK3.out.lt
  have q0 := hk5.cell 0
  have q1 := hk5.cell 1
  have q2 := hk5.cell 2
  have qf := hk5.frozen
  simp at q0 q1 q2
  have hkl := hk5.lt
  clear hk5 hb4
  go_wp2
  refine bodyPost_ret (v := fltV f) (by simp [results, Tryz.results39, go_sem, q0, q1, q2]) rfl ⟨rfl, ?_⟩
  exact Below.setCell (Below.setCell (Below.setCell HB4.out (by simp) _) (by simp) _) (by simp) _
theorem rChk_ok (c : Cfg) (A1 A2 A3 A4 A5 : Option Addr) (c1 c2 c3 c4 c5 : Nat) (w : World) (hR : CfgR w w.heap.size c A1 A2 A3 A4 A5 c1 c2 c3 c4 c5) (hs : c.small) (hok : c.ok) (i : Nat) (hi : i < 9) (h5 : i = 5 → winBad c = (0, 0, 0)) : Calls Tryz.prog 39 #[cfgV c.frame A1 A2 A3 A4 A5 c.parts.length c.wins.length c.regs.length c.ports.length c.chans.length c1 c2 c3 c4 c5, .string (nmS i)] w fun e w' => e = .returned (fltV (valF c i)) ∧ Below w.heap.size w w' := by
  have : i = 0 ∨ i = 1 ∨ i = 2 ∨ i = 3 ∨ i = 4 ∨ i = 5 ∨ i = 6 ∨ i = 7 ∨ i = 8 := by omega
  rcases this with rfl | rfl | rfl | rfl | rfl | rfl | rfl | rfl | rfl
  · exact rChk0 c A1 A2 A3 A4 A5 c1 c2 c3 c4 c5 w hR hs hok _ rfl
  · exact rChk1 c A1 A2 A3 A4 A5 c1 c2 c3 c4 c5 w hR hs hok _ rfl
  · exact rChk2 c A1 A2 A3 A4 A5 c1 c2 c3 c4 c5 w hR hs hok _ rfl
  · exact rChk3 c A1 A2 A3 A4 A5 c1 c2 c3 c4 c5 w hR hs hok _ rfl
  · exact rChk4 c A1 A2 A3 A4 A5 c1 c2 c3 c4 c5 w hR hs hok _ rfl
  · exact rChk5 c A1 A2 A3 A4 A5 c1 c2 c3 c4 c5 w hR hs hok (h5 rfl) _ rfl
  · exact rChk6 c A1 A2 A3 A4 A5 c1 c2 c3 c4 c5 w hR hs hok _ rfl
  · exact rChk7 c A1 A2 A3 A4 A5 c1 c2 c3 c4 c5 w hR hs hok _ rfl
  · exact rChk8 c A1 A2 A3 A4 A5 c1 c2 c3 c4 c5 w hR hs hok _ rfl
end Go.Proofs.YtpedlbjbbcbbkaaGreat
namespace Go.Proofs.YtpedlbjbbcbbkaaGreat
open Go.RowKit
theorem infoStr : (Tryz.prog.info? 9).map (fun i => (i.zero, i.size, i.bytes)) = some (some (.string ⟨#[]⟩), 1, 16) := by kernel_rfl
/-- the box of a fault -/
structure FltBox (w : World) (g : Nat) (f : Flt) : Prop where
  c0 : w.cell? ⟨g, 0, none⟩ = some (.int .i64 f.code)
  c1 : w.cell? ⟨g, 1, none⟩ = some (.int .i64 f.part)
  c2 : w.cell? ⟨g, 2, none⟩ = some (.int .i64 f.at_)
  lt : g < w.heap.size
theorem rChk_val (c : Cfg) (A1 A2 A3 A4 A5 : Option Addr) (c1 c2 c3 c4 c5 : Nat) (w : World) (hR : CfgR w w.heap.size c A1 A2 A3 A4 A5 c1 c2 c3 c4 c5) (hs : c.small) (hok : c.ok) (i : Nat) (hi : i < 9) (h5 : i = 5 → winBad c = (0, 0, 0)) (f : Flt) (hf : Hid (valF c i = f)) : Calls Tryz.prog 39 #[cfgV c.frame A1 A2 A3 A4 A5 c.parts.length c.wins.length c.regs.length c.ports.length c.chans.length c1 c2 c3 c4 c5, .string (nmS i)] w fun e w' => e = .returned (fltV f) ∧ Below w.heap.size w w' := by
  have h := rChk_ok c A1 A2 A3 A4 A5 c1 c2 c3 c4 c5 w hR hs hok i hi h5
  rwa [hf.out] at h
theorem rLevel_val (i : Nat) (hi : i < 9) (w : World) (v : Int) (hv : Hid ((lvl i : Int) = v)) : Calls Tryz.prog 37 #[.string (nmS i)] w fun e w' => e = .returned (.int .i64 v) ∧ Below w.heap.size w w' := by
  have h := rLevel_ok i hi w _ (Lib.hid rfl)
  rwa [hv.out] at h
theorem lvl_le {i : Nat} (hi : i < 9) : lvl i ≤ 3 := by
  have : i = 0 ∨ i = 1 ∨ i = 2 ∨ i = 3 ∨ i = 4 ∨ i = 5 ∨ i = 6 ∨ i = 7 ∨ i = 8 := by omega
  rcases this with rfl | rfl | rfl | rfl | rfl | rfl | rfl | rfl | rfl <;> decide
theorem idxS_some {s : ByteArray} {k : Nat} (h : idxS s = some k) : k < 9 ∧ nmS k = s := by
  unfold idxS at h
  have h1 := List.find?_some h
  have h3 : nmS k = s := beqb_true h1
  exact ⟨List.mem_range.1 (List.mem_of_find?_eq_some h), h3⟩
def NmV (l : List Nat) : List Value := (l.map nmS).map Value.string
theorem NmV_one (l : List Nat) : ∀ u ∈ NmV l, u.oneCell' = true := by
  intro u hu
  unfold NmV at hu
  obtain ⟨x, _, rfl⟩ := List.mem_map.1 hu
  rfl
set_option maxRecDepth 100000 in
set_option maxHeartbeats 8000000 in
theorem rOnly_ok (c : Cfg) (A1 A2 A3 A4 A5 : Option Addr) (c1 c2 c3 c4 c5 : Nat) (w : World) (hR : CfgR w w.heap.size c A1 A2 A3 A4 A5 c1 c2 c3 c4 c5) (hs : c.small) (hok : c.ok) (s : ByteArray) (f : Flt) (hf : Hid (onlyF c s = f)) (q : Bool) (hq : Hid (onlyB c s = q)) : Calls Tryz.prog 19 #[cfgV c.frame A1 A2 A3 A4 A5 c.parts.length c.wins.length c.regs.length c.ports.length c.chans.length c1 c2 c3 c4 c5, .string s] w fun e w' => e = .returned (.tuple #[fltV f, .bool q]) ∧ Below w.heap.size w w' := by
  obtain ⟨i0, hi, hz0, hz1, hz2⟩ := info_parts infoStr
  obtain ⟨W0, hW, st⟩ := St.start_any hR 29
  have HW := Lib.hid hW
  obtain ⟨W1, hW1, hk1, hb1⟩ := FltBkM W0 37
  have HW1 := Lib.hid hW1
  have e0x : W0.heap.size = w.heap.size + 1 := by rw [← hW]; simp
  rw [e0x] at hk1
  have HK1 := Lib.hid hk1
  have HST := Lib.hid (st.up hb1)
  have HOK := Lib.hid hok
  have HKN := Lib.hid (rfl : knB s = knB s)
  rcases hx : idxS s with _ | j
  · have HKV := Lib.hid (show knB s = false by unfold knB; rw [hx]; rfl)
    have HF := Lib.hid (show noFlt = f by rw [← hf.out]; unfold onlyF; rw [hx])
    have HQ := Lib.hid (show false = q by rw [← hq.out]; unfold onlyB; rw [hx])
    clear hR hW hW1 st hk1 hb1 e0x hok hx
    go_enter Tryz.func19, Tryz.ntmps19
    go_upto_region 1 with (fail)
    rw [HW.out, HW1.out]
    go_wp2_with fail
    refine (rKnown_ok s _ false HKV).mono ?_
    rintro e w3 ⟨rfl, hb3⟩
    have HB3 := Lib.hid (HST.out.bel.trans (hb3.mono HST.out.bel.size))
    have hk5 := HK1.out.below hb3 HK1.out.lt
    have q0 := hk5.cell 0
    have q1 := hk5.cell 1
    have q2 := hk5.cell 2
    have qf := hk5.frozen
    simp at q0 q1 q2
    have hkl := hk5.lt
    clear hk5 hb3
    go_wp2
    have hvv := HF.out
    have hqq := HQ.out
    refine bodyPost_ret (v := .tuple #[fltV f, .bool q]) (by rw [← hvv, ← hqq]; simp [results, Tryz.results19, go_sem, q0, q1, q2, noFlt]) rfl ⟨rfl, ?_⟩
    exact Below.setCell (Below.setCell (Below.setCell HB3.out (by simp) _) (by simp) _) (by simp) _
  · have HKV := Lib.hid (show knB s = true by unfold knB; rw [hx]; rfl)
    obtain ⟨hj, rfl⟩ := idxS_some hx
    have HF := Lib.hid (show resF c j = f by rw [← hf.out]; unfold onlyF; rw [hx])
    have HQ := Lib.hid (show perfC c j = q by rw [← hq.out]; unfold onlyB; rw [hx])
    have HJ := Lib.hid hj
    clear hR hW hW1 st hk1 hb1 e0x hok hx hf hq hj
    go_enter Tryz.func19, Tryz.ntmps19
    go_upto_region 1 with (fail)
    rw [HW.out, HW1.out]
    go_wp2_with fail
    refine (rKnown_ok _ _ true HKV).mono ?_
    rintro e w3 ⟨rfl, hb3⟩
    have HST3 := Lib.hid (HST.out.up hb3)
    have HK3 := Lib.hid (HK1.out.below hb3 HK1.out.lt)
    clear hb3
    go_wp2_with fail
    refine (rNames_ok w3).mono ?_
    rintro e w4 ⟨⟨A, rfl, hN⟩, hb4⟩
    have HST4 := Lib.hid (HST3.out.up hb4)
    have HK4 := Lib.hid (HK3.out.below hb4 HK3.out.lt)
    have HN4 := Lib.hid hN
    clear hN hb4
    go_wp2
    go_loopw [6, 8, 9] (fun v k _ wr => ∃ n : Nat, n ≤ 4 ∧ k = .int .i64 n ∧ Hid (j ∉ prc n 0) ∧ Hid (wr.ownsRow w4.heap.size 9 1 v (bdL c n 0).length (NmV (bdL c n 0))) ∧ Hid (Below w4.heap.size w4 wr)) (fun _ k _ _ => 4 - (intOf k).toNat)
    case atStart => exact ⟨0, Nat.zero_le _, rfl, Lib.hid (by rw [prc_zero]; simp), Lib.hid (World.ownsRow_nil _ _ _ _), Lib.hid (Below.refl _ _)⟩
    case round =>
      obtain ⟨k, hk, rfl, HNJ, HO, HBk⟩ := hrel
      by_cases hkl : k < 4
      · have k0 : (0 : Int) ≤ (k : Int) := by omega
        have k1 : (k : Int) < 4 := by omega
        have k2 : (k : Int) ≤ 3 := by omega
        obtain ⟨rA, rc, rfl, _⟩ := own_form HO.out
        go_wp2
        go_loopw [6, 9] (fun v i ws => ∃ n : Nat, n ≤ 9 ∧ i = .int .i64 n ∧ Hid (j ∉ prc k n) ∧ Hid (ws.ownsRow w4.heap.size 9 1 v (bdL c k n).length (NmV (bdL c k n))) ∧ Hid (Below w4.heap.size w4 ws)) (fun _ i _ => 9 - (intOf i).toNat)
        case atStart => exact ⟨0, Nat.zero_le _, rfl, HNJ, HO, HBk⟩
        case round =>
          obtain ⟨n, hn, rfl, HNn, HOn, HBn⟩ := hrel
          by_cases hnl : n < 9
          · have HNL := Lib.hid hnl
            obtain ⟨rB, rd, rfl, _⟩ := own_form HOn.out
            obtain ⟨bb, o, rfl, hbb4, g4⟩ := nm_at HN4.out (k := n) (s := nmS n) (by unfold nms; simp [hnl])
            have HG4 := Lib.hid (And.intro hbb4 g4)
            clear hbb4 g4
            have g0 := (HBn.out.cell (p := ⟨bb, o + n, none⟩) HG4.out.1).trans HG4.out.2
            have n0 : (0 : Int) ≤ (n : Int) := by omega
            have n1 : (n : Int) < 9 := by omega
            obtain ⟨lv, hlv⟩ : ∃ lv : Int, (lvl n : Int) = lv := ⟨_, rfl⟩
            have HLV := Lib.hid hlv
            by_cases hle : lvl n = k
            rotate_left
            · have hne : (lv == (k : Int)) = false := beq_eq_false_iff_ne.2 (by omega)
              have HSK := Lib.hid (bdL_skip (c := c) hle)
              have HPN := Lib.hid (show j ∉ prc k (n + 1) by rw [prc_next, if_neg hle]; exact HNn.out)
              clear hlv hle
              go_wp2_with fail
              refine (rLevel_val n HNL.out _ lv HLV).mono ?_
              rintro e w5 ⟨rfl, hb5⟩
              have HB5 := Lib.hid (HBn.out.trans (hb5.mono HBn.out.size))
              have HO5 := Lib.hid (own_below HOn.out hb5)
              clear hb5 g0
              go_wp2
              go_roundw
              case rel => exact ⟨n + 1, by omega, by go_num, HPN, Lib.hid (by rw [HSK.out]; exact HO5.out), HB5⟩
              case measure => simp [intOf]; omega
            · have hne : (lv == (k : Int)) = true := by rw [beq_iff_eq]; omega
              have HLE := Lib.hid hle
              have HBP := Lib.hid (blk_perf c hnl)
              rw [hle] at HBP
              have HNE := Lib.hid (nmS_beq hnl HJ.out)
              have hblen : (bdL c k n).length ≤ 18 := bdL_len (by omega) hn
              clear hlv hle
              go_wp2_with fail
              refine (rLevel_val n HNL.out _ lv HLV).mono ?_
              rintro e w5 ⟨rfl, hb5⟩
              have HB5 := Lib.hid (HBn.out.trans (hb5.mono HBn.out.size))
              have HO5 := Lib.hid (own_below HOn.out hb5)
              clear hb5 g0
              obtain ⟨_, _, e5, _, _, hr5⟩ := own_form HO5.out
              cases e5
              have HR5 := Lib.hid (show NmR w5 rB ((bdL c k n).map nmS) by unfold NmR; rw [List.length_map]; exact hr5)
              clear hr5
              have g0 := (HB5.out.cell (p := ⟨bb, o + n, none⟩) HG4.out.1).trans HG4.out.2
              obtain ⟨pv, hpv⟩ : ∃ pv, perfC c n = pv := ⟨_, rfl⟩
              have HPV := Lib.hid hpv
              have HBV := Lib.hid (show blk n (bdL c k n) = !pv from HBP.out.trans (by rw [hpv]))
              clear hpv
              go_wp2_with fail
              refine (rBlocked_ok n HNL.out (bdL c k n) (bdL_lt (by omega) hn) hblen rB rd w5 HR5.out _ HBV).mono ?_
              rintro e w6 ⟨rfl, hb6⟩
              have HB6 := Lib.hid (HB5.out.trans (hb6.mono HB5.out.size))
              have HO6 := Lib.hid (own_below HO5.out hb6)
              have hst6 := HST4.out.up HB6.out
              have HST6 := Lib.hid hst6
              have HK6 := Lib.hid (HK4.out.below HB6.out HK4.out.lt)
              clear hb6 g0 hst6
              have g0 := (HB6.out.cell (p := ⟨bb, o + n, none⟩) HG4.out.1).trans HG4.out.2
              have hbb6 := Nat.lt_of_lt_of_le HG4.out.1 HB6.out.size
              cases pv
              · -- blocked
                have HBD := Lib.hid (bdL_bad (c := c) HLE.out (show okN c n = false by unfold okN; rw [HPV.out]; rfl))
                have hO6 := own_below HO6.out (below_one w6 (.cells #[.string (nmS n)] 9))
                have HO7 := Lib.hid hO6
                have HB7 := Lib.hid (HB6.out.trans ((below_one w6 (.cells #[.string (nmS n)] 9)).mono HB6.out.size))
                have hsz := HB6.out.size
                clear hO6
                by_cases hnj : n = j
                · subst hnj
                  have hee : ((nmS n).toList == (nmS n).toList) = true := by simp
                  have HFF := Lib.hid (show noFlt = f by rw [← HF.out]; unfold resF; rw [HPV.out]; rfl)
                  have HQQ := Lib.hid (show false = q by rw [← HQ.out]; exact HPV.out.symm)
                  go_wp2_with (at_builtin; go_loud (refine wpList_append_lies _ rfl (.tmp 39) (.tmp 44) _ rfl w4.heap.size 9 i0 (.string ⟨#[]⟩) 1 16 Tryz.underlying42 hi hz0 hz1 hz2 rfl (by decide) _ _ _ rfl HO7.out ⟨w6.heap.size, 0, none⟩ 1 1 [.string (nmS n)] rfl rfl (World.news_of_block (heap_alloc_new w6 _)) (by intro u hu; simp at hu; subst hu; rfl) (by omega) (by unfold maxLen; omega) (by omega) (by simp; omega) _ rfl ?_); intro g2 cap w8 hown hg hat hlt7; have HB8 := Lib.hid (HB7.out.grown hg (by simp; omega) (fun k e => (HO7.out.lt k e).1)); have g8 := (HB8.out.cell (p := ⟨bb, o + n, none⟩) HG4.out.1).trans HG4.out.2; have hk5 := HK4.out.below HB8.out HK4.out.lt; have q0 := hk5.cell 0; have q1 := hk5.cell 1; have q2 := hk5.cell 2; have qf := hk5.frozen; simp at q0 q1 q2; have hkl := hk5.lt; have HZ := Lib.hid (HST4.out.up HB8.out).bel; clear hk5 hown hg hat hlt7)
                  have hvv := HFF.out
                  have hqq := HQQ.out
                  refine bodyPost_ret (v := .tuple #[fltV f, .bool q]) (by rw [← hvv, ← hqq]; simp [results, Tryz.results19, go_sem, q0, q1, q2, noFlt]) rfl ⟨rfl, ?_⟩
                  exact Below.setCell (Below.setCell (Below.setCell HZ.out (by simp) _) (by simp) _) (by simp) _
                · have hee : ((nmS n).toList == (nmS j).toList) = false := by rw [← beq_toListBytes, HNE.out]; simpa using hnj
                  have HPN := Lib.hid (show j ∉ prc k (n + 1) by rw [prc_next, if_pos HLE.out]; simp only [List.mem_append, List.mem_singleton]; rintro (h | h); exact HNn.out h; exact hnj h.symm)
                  clear hnj
                  go_wp2_with (at_builtin; go_loud (refine wpList_append_lies _ rfl (.tmp 39) (.tmp 44) _ rfl w4.heap.size 9 i0 (.string ⟨#[]⟩) 1 16 Tryz.underlying42 hi hz0 hz1 hz2 rfl (by decide) _ _ _ rfl HO7.out ⟨w6.heap.size, 0, none⟩ 1 1 [.string (nmS n)] rfl rfl (World.news_of_block (heap_alloc_new w6 _)) (by intro u hu; simp at hu; subst hu; rfl) (by omega) (by unfold maxLen; omega) (by omega) (by simp; omega) _ rfl ?_); intro g2 cap w8 hown hg hat hlt7; have HB8 := Lib.hid (HB7.out.grown hg (by simp; omega) (fun k e => (HO7.out.lt k e).1)); have g8 := (HB8.out.cell (p := ⟨bb, o + n, none⟩) HG4.out.1).trans HG4.out.2; have HON := Lib.hid (show w8.ownsRow w4.heap.size 9 1 (.slice (some ⟨g2, 0, none⟩) ((bdL c k n).length + 1) cap) (bdL c k (n + 1)).length (NmV (bdL c k (n + 1))) by rw [HBD.out, List.length_append]; unfold NmV at hown ⊢; rw [List.map_append, List.map_append]; simpa using hown); clear hown hg hat hlt7)
                  go_roundw
                  case rel => exact ⟨n + 1, by omega, by go_num, HPN, HON, HB8⟩
                  case measure => simp [intOf]; omega
              · -- performed
                obtain ⟨fn, hfn⟩ : ∃ fn, valF c n = fn := ⟨_, rfl⟩
                have HFN := Lib.hid hfn
                have H5 := Lib.hid (show n = 5 → winBad c = (0, 0, 0) from fun e => perf_win (by rw [← e]; exact HPV.out))
                have KEEP : ∀ V, Below w6.heap.size w6 V → (fun w' => w'.cell? ⟨w.heap.size, 0, none⟩ = some (.int .u64 c.frame) ∧ w'.cell? ⟨w.heap.size, 1, none⟩ = some (.slice A1 c.parts.length c1) ∧ w'.cell? ⟨w.heap.size, 2, none⟩ = some (.slice A2 c.wins.length c2) ∧
                    w'.cell? ⟨w.heap.size, 3, none⟩ = some (.slice A3 c.regs.length c3) ∧ w'.cell? ⟨w.heap.size, 4, none⟩ = some (.slice A4 c.ports.length c4) ∧ w'.cell? ⟨w.heap.size, 5, none⟩ = some (.slice A5 c.chans.length c5) ∧
                    w'.cell? ⟨bb, o + n, none⟩ = some (.string (nmS n))) V := fun V hV => by
                  obtain ⟨x0, x1, x2, x3, x4, x5, _⟩ := (HST6.out.up hV).cells
                  exact ⟨x0, x1, x2, x3, x4, x5, (hV.cell (p := ⟨bb, o + n, none⟩) (Nat.lt_of_lt_of_le hbb6 (Nat.le_refl _))).trans g0⟩
                have HKP := Lib.hid KEEP
                obtain ⟨x0, x1, x2, x3, x4, x5, hz⟩ := HST6.out.cells
                clear KEEP hfn
                go_upto_region 16 with (fail)
                go_cut [10] (fun v W => ∃ g, v = .pointer (some ⟨g, 0, none⟩) ∧ Hid (Below w6.heap.size w6 W) ∧ Hid (FltBox W g fn))
                case first =>
                  go_region_held3 (fun w' => w'.cell? ⟨w.heap.size, 0, none⟩ = some (.int .u64 c.frame) ∧ w'.cell? ⟨w.heap.size, 1, none⟩ = some (.slice A1 c.parts.length c1) ∧ w'.cell? ⟨w.heap.size, 2, none⟩ = some (.slice A2 c.wins.length c2) ∧
                      w'.cell? ⟨w.heap.size, 3, none⟩ = some (.slice A3 c.regs.length c3) ∧ w'.cell? ⟨w.heap.size, 4, none⟩ = some (.slice A4 c.ports.length c4) ∧ w'.cell? ⟨w.heap.size, 5, none⟩ = some (.slice A5 c.chans.length c5) ∧
                      w'.cell? ⟨bb, o + n, none⟩ = some (.string (nmS n)))
                    (first | (refine HKP.out _ ?_; (repeat (first | with_reducible exact HBW.out | with_reducible exact Below.refl _ _ | with_reducible refine Below.drew ?_ | (with_reducible refine Below.alloc ?_ (by first | (simp; done) | (have hq := HBW.out.size; simp at hq ⊢; omega)) _) | (with_reducible refine Below.setCell ?_ (by first | (simp; done) | (have hq := HBW.out.size; simp at hq ⊢; omega)) _))); done) | go_keep)
                    (first | (go_at_call 39; refine (rChk_val c _ _ _ _ _ _ _ _ _ _ _ (HST6.out.up (by repeat (first | with_reducible exact Below.refl _ _ | with_reducible refine Below.drew ?_ | (with_reducible refine Below.alloc ?_ (by simp) _) | (with_reducible refine Below.setCell ?_ (by simp) _)))).R hs HOK.out n HNL.out H5.out fn HFN).mono ?_; rintro e w9 ⟨rfl, hb9⟩; have HBW := Lib.hid (Below.then_ (show Below w6.heap.size w6 _ from (by repeat (first | with_reducible exact Below.refl _ _ | with_reducible refine Below.drew ?_ | (with_reducible refine Below.alloc ?_ (by simp) _) | (with_reducible refine Below.setCell ?_ (by simp) _)))) hb9); (try (have bk : Blk w9 w6.heap.size 37 #[.int .i64 0, .int .i64 0, .int .i64 0] := Blk.below (by exact Blk.new w6 _ _) hb9 (by simp); have k0 := bk.cell 0; have k1 := bk.cell 1; have k2 := bk.cell 2; have kf := bk.frozen; have HBK := Lib.hid bk; clear bk; simp at k0 k1 k2))))
                  · go_wp2
                    go_meet
                    case rel => exact ⟨_, rfl, Lib.hid (by (repeat (first | with_reducible exact HBW.out | with_reducible exact Below.refl _ _ | with_reducible refine Below.drew ?_ | (with_reducible refine Below.alloc ?_ (by first | (simp; done) | (have hq := HBW.out.size; simp at hq ⊢; omega)) _) | (with_reducible refine Below.setCell ?_ (by first | (simp; done) | (have hq := HBW.out.size; simp at hq ⊢; omega)) _)))), Lib.hid (by refine ⟨?_, ?_, ?_, ?_⟩ <;> simp)⟩
                  · go_wp2
                    go_meet
                    case rel => exact ⟨_, rfl, Lib.hid (by (repeat (first | with_reducible exact HBW.out | with_reducible exact Below.refl _ _ | with_reducible refine Below.drew ?_ | (with_reducible refine Below.alloc ?_ (by first | (simp; done) | (have hq := HBW.out.size; simp at hq ⊢; omega)) _) | (with_reducible refine Below.setCell ?_ (by first | (simp; done) | (have hq := HBW.out.size; simp at hq ⊢; omega)) _)))), Lib.hid (by
                      have hb := ((HBK.out.set_ 0 (.int .i64 fn.code)).set_ 1 (.int .i64 fn.part)).set_ 2 (.int .i64 fn.at_)
                      have e := hb.cell
                      have el := hb.lt
                      refine ⟨?_, ?_, ?_, el⟩ <;> (rw [e]; simp))⟩
                case rest =>
                  obtain ⟨g, rfl, hbw, fb⟩ := hcut
                  clear x0 x1 x2 x3 x4 x5 hz HKP g0
                  have HB9 := Lib.hid (HB6.out.trans (hbw.out.mono HB6.out.size))
                  have HO9 := Lib.hid (own_below HO6.out hbw.out)
                  clear hbw
                  have g0 := (HB9.out.cell (p := ⟨bb, o + n, none⟩) HG4.out.1).trans HG4.out.2
                  obtain ⟨p0, p1, p2, hg⟩ := fb.out
                  by_cases hnj : n = j
                  · subst hnj
                    have hee : ((nmS n).toList == (nmS n).toList) = true := by simp
                    have HFF := Lib.hid (show fn = f by rw [← HF.out]; unfold resF; rw [HPV.out]; exact HFN.out.symm)
                    have HQQ := Lib.hid (show true = q by rw [← HQ.out]; exact HPV.out.symm)
                    have hk5 := HK4.out.below HB9.out HK4.out.lt
                    have q0 := hk5.cell 0
                    have q1 := hk5.cell 1
                    have q2 := hk5.cell 2
                    have qf := hk5.frozen
                    simp at q0 q1 q2
                    have hkl := hk5.lt
                    have HZ := Lib.hid (HST4.out.up HB9.out).bel
                    clear hk5
                    go_wp2
                    have hvv := HFF.out
                    have hqq := HQQ.out
                    refine bodyPost_ret (v := .tuple #[fltV f, .bool q]) (by rw [← hvv, ← hqq]; simp [results, Tryz.results19, go_sem, q0, q1, q2]) rfl ⟨rfl, ?_⟩
                    exact Below.setCell (Below.setCell (Below.setCell HZ.out (by simp) _) (by simp) _) (by simp) _
                  · have hee : ((nmS n).toList == (nmS j).toList) = false := by rw [← beq_toListBytes, HNE.out]; simpa using hnj
                    have HPN := Lib.hid (show j ∉ prc k (n + 1) by rw [prc_next, if_pos HLE.out]; simp only [List.mem_append, List.mem_singleton]; rintro (h | h); exact HNn.out h; exact hnj h.symm)
                    clear hnj
                    by_cases hc0 : fn.code = 0
                    · have hcb : (fn.code == 0) = true := by rw [hc0]; rfl
                      have HGD := Lib.hid (bdL_good (c := c) HLE.out (show okN c n = true by unfold okN zB; rw [HPV.out, HFN.out, hc0]; rfl))
                      clear hc0
                      go_wp2
                      go_roundw
                      case rel => exact ⟨n + 1, by omega, by go_num, HPN, Lib.hid (by rw [HGD.out]; exact HO9.out), HB9⟩
                      case measure => simp [intOf]; omega
                    · have hcb : (fn.code == 0) = false := beq_eq_false_iff_ne.2 hc0
                      have HBD := Lib.hid (bdL_bad (c := c) HLE.out (show okN c n = false by unfold okN zB; rw [HPV.out, HFN.out, decide_eq_false hc0]; rfl))
                      have hO6 := own_below HO9.out (below_one wc (.cells #[.string (nmS n)] 9))
                      have HO7 := Lib.hid hO6
                      have HB7 := Lib.hid (HB9.out.trans ((below_one wc (.cells #[.string (nmS n)] 9)).mono HB9.out.size))
                      have hsz := HB9.out.size
                      clear hO6 hc0
                      go_wp2_with (at_builtin; go_loud (refine wpList_append_lies _ rfl (.tmp 69) (.tmp 74) _ rfl w4.heap.size 9 i0 (.string ⟨#[]⟩) 1 16 Tryz.underlying42 hi hz0 hz1 hz2 rfl (by decide) _ _ _ rfl HO7.out ⟨wc.heap.size, 0, none⟩ 1 1 [.string (nmS n)] rfl rfl (World.news_of_block (heap_alloc_new wc _)) (by intro u hu; simp at hu; subst hu; rfl) (by omega) (by unfold maxLen; omega) (by omega) (by simp; omega) _ rfl ?_); intro g2 cap w8 hown hg2 hat hlt7)
                      have HB8 := Lib.hid (HB7.out.grown hg2 (by simp; omega) (fun k e => (HO7.out.lt k e).1))
                      have HON := Lib.hid (show w8.ownsRow w4.heap.size 9 1 (.slice (some ⟨g2, 0, none⟩) ((bdL c k n).length + 1) cap) (bdL c k (n + 1)).length (NmV (bdL c k (n + 1))) by rw [HBD.out, List.length_append]; unfold NmV at hown ⊢; rw [List.map_append, List.map_append]; simpa using hown)
                      clear hown hg2 hat hlt7 g0 p0 p1 p2 hg
                      go_wp2
                      go_roundw
                      case rel => exact ⟨n + 1, by omega, by go_num, HPN, HON, HB8⟩
                      case measure => simp [intOf]; omega
          · obtain rfl : n = 9 := by omega
            have HLN := Lib.hid (show j ∉ prc (k + 1) 0 by rw [← prc_lift]; exact HNn.out)
            have HLO := HOn.out
            rw [bdL_lift] at HLO
            have HLO := Lib.hid HLO
            go_wp2
            go_roundw
            case rel => exact ⟨k + 1, by omega, by go_num, HLN, HLO, HBn⟩
            case measure => simp [intOf]; omega
      · obtain rfl : k = 4 := by omega
        exact absurd (prc_all ⟨j, HJ.out⟩) HNJ.out
end Go.Proofs.YtpedlbjbbcbbkaaGreat
namespace Go.Proofs.YtpedlbjbbcbbkaaGreat
open Go.RowKit
theorem idxS_nm {k : Nat} (h : k < 9) : idxS (nmS k) = some k := by
  have : k = 0 ∨ k = 1 ∨ k = 2 ∨ k = 3 ∨ k = 4 ∨ k = 5 ∨ k = 6 ∨ k = 7 ∨ k = 8 := by omega
  rcases this with rfl | rfl | rfl | rfl | rfl | rfl | rfl | rfl | rfl <;> decide
theorem onlyF_nm {c : Cfg} {k : Nat} (h : k < 9) : onlyF c (nmS k) = resF c k := by unfold onlyF; rw [idxS_nm h]
theorem onlyB_nm {c : Cfg} {k : Nat} (h : k < 9) : onlyB c (nmS k) = perfC c k := by unfold onlyB; rw [idxS_nm h]
set_option maxRecDepth 100000 in
set_option maxHeartbeats 8000000 in
theorem rAll_ok (c : Cfg) (A1 A2 A3 A4 A5 : Option Addr) (c1 c2 c3 c4 c5 : Nat) (w : World) (hR : CfgR w w.heap.size c A1 A2 A3 A4 A5 c1 c2 c3 c4 c5) (hs : c.small) (hok : c.ok) : Calls Tryz.prog 11 #[cfgV c.frame A1 A2 A3 A4 A5 c.parts.length c.wins.length c.regs.length c.ports.length c.chans.length c1 c2 c3 c4 c5] w fun e w' => ∃ v, e = .returned v ∧ w'.ownsRow w.heap.size 37 3 v (fltsOf c).length ((fltsOf c).flatMap FltC) ∧ Below w.heap.size w w' := by
  obtain ⟨i0, hi, hz0, hz1, hz2⟩ := info_parts infoFlt
  obtain ⟨W0, hW, st⟩ := St.start_any hR 29
  have HW := Lib.hid hW
  have HST := Lib.hid st
  have HOK := Lib.hid hok
  clear hR hW st hok
  go_enter Tryz.func11, Tryz.ntmps11
  go_upto_region 1 with (fail)
  rw [HW.out]
  go_wp2_with fail
  refine (rNames_ok W0).mono ?_
  rintro e w4 ⟨⟨A, rfl, hN⟩, hb4⟩
  have HST4 := Lib.hid (HST.out.up hb4)
  have HN4 := Lib.hid hN
  have HB4 := Lib.hid HST4.out.bel
  clear hN hb4
  go_wp2
  go_loopw [3, 5] (fun v i wr => ∃ k : Nat, k ≤ 9 ∧ i = .int .i64 k ∧ Hid (wr.ownsRow w4.heap.size 37 3 v (fltsK c k).length ((fltsK c k).flatMap FltC)) ∧ Hid (Below w4.heap.size w4 wr)) (fun _ i _ => 9 - (intOf i).toNat)
  case atStart => exact ⟨0, Nat.zero_le _, rfl, Lib.hid (World.ownsRow_nil _ _ _ _), Lib.hid (Below.refl _ _)⟩
  case round =>
    obtain ⟨n, hn, rfl, HO, HBk⟩ := hrel
    by_cases hnl : n < 9
    · obtain ⟨rB, rd, rfl, _⟩ := own_form HO.out
      obtain ⟨bb, o, rfl, hbb4, g4⟩ := nm_at HN4.out (k := n) (s := nmS n) (by unfold nms; simp [hnl])
      have g0 := (HBk.out.cell (p := ⟨bb, o + n, none⟩) hbb4).trans g4
      have hbb6 := Nat.lt_of_lt_of_le hbb4 HBk.out.size
      have n0 : (0 : Int) ≤ (n : Int) := by omega
      have n1 : (n : Int) < 9 := by omega
      obtain ⟨fn, hfn⟩ : ∃ fn, resF c n = fn := ⟨_, rfl⟩
      obtain ⟨qn, hqn⟩ : ∃ qn, perfC c n = qn := ⟨_, rfl⟩
      have HF := Lib.hid hfn
      have HFN := Lib.hid ((onlyF_nm hnl).trans hfn)
      have HQN := Lib.hid ((onlyB_nm hnl).trans hqn)
      have HNX := Lib.hid (fltsK_next c n)
      have HST6 := Lib.hid (HST4.out.up HBk.out)
      have KEEP : ∀ V, Below wr.heap.size wr V → (fun w' => w'.cell? ⟨w.heap.size, 0, none⟩ = some (.int .u64 c.frame) ∧ w'.cell? ⟨w.heap.size, 1, none⟩ = some (.slice A1 c.parts.length c1) ∧ w'.cell? ⟨w.heap.size, 2, none⟩ = some (.slice A2 c.wins.length c2) ∧
          w'.cell? ⟨w.heap.size, 3, none⟩ = some (.slice A3 c.regs.length c3) ∧ w'.cell? ⟨w.heap.size, 4, none⟩ = some (.slice A4 c.ports.length c4) ∧ w'.cell? ⟨w.heap.size, 5, none⟩ = some (.slice A5 c.chans.length c5) ∧
          w'.cell? ⟨bb, o + n, none⟩ = some (.string (nmS n))) V := fun V hV => by
        obtain ⟨x0, x1, x2, x3, x4, x5, _⟩ := (HST6.out.up hV).cells
        exact ⟨x0, x1, x2, x3, x4, x5, (hV.cell (p := ⟨bb, o + n, none⟩) hbb6).trans g0⟩
      have HKP := Lib.hid KEEP
      obtain ⟨x0, x1, x2, x3, x4, x5, hz⟩ := HST6.out.cells
      have hlen := fltsK_len c n
      clear KEEP hfn hqn hbb4 g4
      go_upto_region 6 with (fail)
      generalize hwo : wr = w6 at HO HBk HST6 HKP hbb6 g0 x0 x1 x2 x3 x4 x5 hz ⊢
      clear hwo
      go_cut [6] (fun v W => ∃ g, v = .pointer (some ⟨g, 0, none⟩) ∧ Hid (Below w6.heap.size w6 W) ∧ Hid (FltBox W g fn))
      case first =>
        go_region_held3 (fun w' => w'.cell? ⟨w.heap.size, 0, none⟩ = some (.int .u64 c.frame) ∧ w'.cell? ⟨w.heap.size, 1, none⟩ = some (.slice A1 c.parts.length c1) ∧ w'.cell? ⟨w.heap.size, 2, none⟩ = some (.slice A2 c.wins.length c2) ∧
            w'.cell? ⟨w.heap.size, 3, none⟩ = some (.slice A3 c.regs.length c3) ∧ w'.cell? ⟨w.heap.size, 4, none⟩ = some (.slice A4 c.ports.length c4) ∧ w'.cell? ⟨w.heap.size, 5, none⟩ = some (.slice A5 c.chans.length c5) ∧
            w'.cell? ⟨bb, o + n, none⟩ = some (.string (nmS n)))
          (first | (refine HKP.out _ ?_; (repeat (first | with_reducible exact HBW.out | with_reducible exact Below.refl _ _ | with_reducible refine Below.drew ?_ | (with_reducible refine Below.alloc ?_ (by first | (simp; done) | (have hq := HBW.out.size; simp at hq ⊢; omega)) _) | (with_reducible refine Below.setCell ?_ (by first | (simp; done) | (have hq := HBW.out.size; simp at hq ⊢; omega)) _))); done) | go_keep)
          (first | (go_at_call 19; refine (rOnly_ok c _ _ _ _ _ _ _ _ _ _ _ (HST6.out.up (by repeat (first | with_reducible exact Below.refl _ _ | with_reducible refine Below.drew ?_ | (with_reducible refine Below.alloc ?_ (by simp) _) | (with_reducible refine Below.setCell ?_ (by simp) _)))).R hs HOK.out (nmS n) fn HFN qn HQN).mono ?_; rintro e w9 ⟨rfl, hb9⟩; have HBW := Lib.hid (Below.then_ (show Below w6.heap.size w6 _ from (by repeat (first | with_reducible exact Below.refl _ _ | with_reducible refine Below.drew ?_ | (with_reducible refine Below.alloc ?_ (by simp) _) | (with_reducible refine Below.setCell ?_ (by simp) _)))) hb9); (try (have bk : Blk w9 w6.heap.size 37 #[.int .i64 0, .int .i64 0, .int .i64 0] := Blk.below (by exact Blk.new w6 _ _) hb9 (by simp); have k0 := bk.cell 0; have k1 := bk.cell 1; have k2 := bk.cell 2; have kf := bk.frozen; have HBK := Lib.hid bk; clear bk; simp at k0 k1 k2))))
        all_goals
          go_wp2
          go_meet
          first
            | (case rel => exact ⟨_, rfl, Lib.hid (by (repeat (first | with_reducible exact HBW.out | with_reducible exact Below.refl _ _ | with_reducible refine Below.drew ?_ | (with_reducible refine Below.alloc ?_ (by first | (simp; done) | (have hq := HBW.out.size; simp at hq ⊢; omega)) _) | (with_reducible refine Below.setCell ?_ (by first | (simp; done) | (have hq := HBW.out.size; simp at hq ⊢; omega)) _)))), Lib.hid (by
                  have hb := ((HBK.out.set_ 0 (.int .i64 fn.code)).set_ 1 (.int .i64 fn.part)).set_ 2 (.int .i64 fn.at_)
                  have e := hb.cell
                  have el := hb.lt
                  refine ⟨?_, ?_, ?_, el⟩ <;> (rw [e]; simp))⟩)
            | (case rel => exact ⟨_, rfl, Lib.hid (by (repeat (first | with_reducible exact HBW.out | with_reducible exact Below.refl _ _ | with_reducible refine Below.drew ?_ | (with_reducible refine Below.alloc ?_ (by first | (simp; done) | (have hq := HBW.out.size; simp at hq ⊢; omega)) _) | (with_reducible refine Below.setCell ?_ (by first | (simp; done) | (have hq := HBW.out.size; simp at hq ⊢; omega)) _)))), Lib.hid (by refine ⟨?_, ?_, ?_, ?_⟩ <;> simp)⟩)
      case rest =>
        obtain ⟨g, rfl, hbw, fb⟩ := hcut
        clear x0 x1 x2 x3 x4 x5 hz HKP g0
        have HB9 := Lib.hid (HBk.out.trans (hbw.out.mono HBk.out.size))
        have HO9 := Lib.hid (own_below HO.out hbw.out)
        clear hbw
        obtain ⟨p0, p1, p2, hg⟩ := fb.out
        by_cases hc0 : fn.code = 0
        · have hcb : (fn.code == 0) = true := by rw [hc0]; rfl
          have HGD := Lib.hid (show fltsK c (n + 1) = fltsK c n by rw [HNX.out, HF.out, if_pos hc0])
          clear hc0
          go_wp2
          go_roundw
          case rel => exact ⟨n + 1, by omega, by go_num, Lib.hid (by rw [HGD.out]; exact HO9.out), HB9⟩
          case measure => simp [intOf]; omega
        · have hcb : (fn.code == 0) = false := beq_eq_false_iff_ne.2 hc0
          have hal2 := below_one wc (.cells fn.cells 37)
          have hO6 := own_below HO9.out hal2
          have HO6 := Lib.hid hO6
          have HB6 := Lib.hid (HB9.out.trans (hal2.mono HB9.out.size))
          have HNX2 := Lib.hid (show fltsK c (n + 1) = fltsK c n ++ [fn] by rw [HNX.out, HF.out, if_neg hc0])
          have hsz := HB9.out.size
          clear hal2 hO6 hc0
          go_wp2_with (at_builtin; go_loud (refine wpList_append_lies _ rfl (.tmp 27) (.tmp 29) _ rfl w4.heap.size 37 i0 (.agg #[.int .i64 0, .int .i64 0, .int .i64 0]) 3 24 Tryz.underlying32 hi hz0 hz1 hz2 rfl (by decide) _ _ _ rfl HO6.out ⟨wc.heap.size, 0, none⟩ 1 1 (FltC fn) rfl rfl (World.news_of_block (heap_alloc_new wc _)) (by intro u hu; simp [FltC] at hu; rcases hu with rfl | rfl | rfl <;> rfl) (by omega) (by unfold maxLen; omega) (by omega) (by simp; omega) _ rfl ?_); intro g2 cap w7 hown hg2 hat hlt7)
          have HB7 := Lib.hid (HB6.out.grown hg2 (by simp; omega) (fun k e => (HO6.out.lt k e).1))
          have HON := Lib.hid (show w7.ownsRow w4.heap.size 37 3 (.slice (some ⟨g2, 0, none⟩) ((fltsK c n).length + 1) cap) (fltsK c (n + 1)).length ((fltsK c (n + 1)).flatMap FltC) by rw [HNX2.out, List.length_append, List.flatMap_append]; simpa using hown)
          clear hown hg2 hat hlt7
          go_wp2
          go_roundw
          case rel => exact ⟨n + 1, by omega, by go_num, HON, HB7⟩
          case measure => simp [intOf]; omega
    · obtain rfl : n = 9 := by omega
      have HE := Lib.hid (show fltsK c 9 = fltsOf c from rfl)
      have hz : w.heap.size ≤ w4.heap.size := HB4.out.size
      have HZ := Lib.hid (Below.trans HB4.out (HBk.out.mono hz))
      have hown := own_lessM HO.out hz
      rw [HE.out] at hown
      have HOWN := Lib.hid hown
      clear hown hz
      go_wp2
      go_ret
      exact ⟨_, rfl, HOWN.out, HZ.out⟩
set_option maxRecDepth 100000 in
set_option maxHeartbeats 4000000 in
theorem rCheck19_ok (c : Cfg) (A1 A2 A3 A4 A5 : Option Addr) (c1 c2 c3 c4 c5 : Nat) (w : World) (hR : CfgR w w.heap.size c A1 A2 A3 A4 A5 c1 c2 c3 c4 c5) (hs : c.small) (hok : c.ok) (v : Flt) (hv : Hid (chkV c = v)) : Calls Tryz.prog 15 #[cfgV c.frame A1 A2 A3 A4 A5 c.parts.length c.wins.length c.regs.length c.ports.length c.chans.length c1 c2 c3 c4 c5] w fun e w' => e = .returned (fltV v) ∧ Below w.heap.size w w' := by
  obtain ⟨W0, hW, st⟩ := St.start_any hR 29
  have HW := Lib.hid hW
  obtain ⟨W1, hW1, hk1, hb1⟩ := FltBkM W0 37
  have HW1 := Lib.hid hW1
  have e0 : W0.heap.size = w.heap.size + 1 := by rw [← hW]; simp
  rw [e0] at hk1
  have HK1 := Lib.hid hk1
  have HST := Lib.hid (st.up hb1)
  obtain ⟨x0, x1, x2, x3, x4, x5, hz⟩ := HST.out.cells
  clear hR hW hW1 st hk1 hb1 e0
  go_enter Tryz.func15, Tryz.ntmps15
  go_upto_region 1 with (fail)
  rw [HW.out, HW1.out]
  go_wp2_with fail
  refine (rAll_ok c _ _ _ _ _ _ _ _ _ _ _ HST.out.R hs hok).mono ?_
  rintro e w3 ⟨v0, rfl, ho, hb3⟩
  obtain ⟨RA, rc, rfl, _, _, hrd⟩ := own_form ho
  have HRD := Lib.hid hrd
  have HB3 := Lib.hid (HST.out.bel.trans (hb3.mono HST.out.bel.size))
  have HK3 := Lib.hid (HK1.out.below hb3 HK1.out.lt)
  clear ho hb3 hrd x0 x1 x2 x3 x4 x5 hz
  have hk5 := HK3.out
  have q0 := hk5.cell 0
  have q1 := hk5.cell 1
  have q2 := hk5.cell 2
  have qf := hk5.frozen
  simp at q0 q1 q2
  have hkl := hk5.lt
  clear hk5
  rcases hl : fltsOf c with _ | ⟨f, r⟩
  · have HV := Lib.hid (show noFlt = v by rw [← hv.out]; unfold chkV; rw [hl]; rfl)
    simp only [List.length_nil]
    clear hl HRD
    go_wp2
    have hvv := HV.out
    refine bodyPost_ret (v := fltV v) (by rw [← hvv]; simp [results, Tryz.results15, go_sem, q0, q1, q2, noFlt]) rfl ⟨rfl, ?_⟩
    exact Below.setCell (Below.setCell (Below.setCell HB3.out (by simp) _) (by simp) _) (by simp) _
  · have HV := Lib.hid (show f = v by rw [← hv.out]; unfold chkV; rw [hl]; rfl)
    rw [hl] at HRD
    obtain ⟨bb, o, rfl, hbb, g0, g1, g2⟩ := flt_at HRD.out (k := 0) (x := f) rfl
    have n1 : (0 : Int) < ((f :: r).length : Int) := by simp
    have n4 : (((f :: r).length : Int) == 0) = false := by rw [beq_eq_false_iff_ne]; simp only [List.length_cons]; omega
    have n2 : 0 < (f :: r).length := by simp
    have n3 : (f :: r).length ≤ 9 := by have := fltsK_len c 9; have e : fltsK c 9 = f :: r := hl; rw [e] at this; exact this
    generalize (f :: r).length = len at n1 n2 n3 n4 ⊢
    clear hl HRD
    simp only [Nat.zero_mul, Nat.add_zero] at g0 g1 g2
    go_wp2
    have hvv := HV.out
    refine bodyPost_ret (v := fltV v) (by rw [← hvv]; simp [results, Tryz.results15, go_sem, q0, q1, q2]) rfl ⟨rfl, ?_⟩
    exact Below.setCell (Below.setCell (Below.setCell HB3.out (by simp) _) (by simp) _) (by simp) _
theorem vldB_nil {c : Cfg} : vldB c = decide ((fltsOf c).length = 0) := by
  unfold vldB chkV
  rcases hl : fltsOf c with _ | ⟨f, r⟩
  · rfl
  · have := fltsOf_nz (c := c) (f := f) (by rw [hl]; simp)
    simp [this]
set_option maxRecDepth 100000 in
set_option maxHeartbeats 2000000 in
theorem rValid19_ok (c : Cfg) (A1 A2 A3 A4 A5 : Option Addr) (c1 c2 c3 c4 c5 : Nat) (w : World) (hR : CfgR w w.heap.size c A1 A2 A3 A4 A5 c1 c2 c3 c4 c5) (hs : c.small) (hok : c.ok) (b : Bool) (hb : Hid (vldB c = b)) : Calls Tryz.prog 17 #[cfgV c.frame A1 A2 A3 A4 A5 c.parts.length c.wins.length c.regs.length c.ports.length c.chans.length c1 c2 c3 c4 c5] w fun e w' => e = .returned (.bool b) ∧ Below w.heap.size w w' := by
  obtain ⟨W0, hW, st⟩ := St.start_any hR 29
  have HW := Lib.hid hW
  have HST := Lib.hid st
  obtain ⟨x0, x1, x2, x3, x4, x5, hz⟩ := st.cells
  clear hR hW st
  obtain ⟨n, hn⟩ : ∃ n, (fltsOf c).length = n := ⟨_, rfl⟩
  have HN := Lib.hid hn
  have HBB := Lib.hid (show decide (n = 0) = b by rw [← hb.out, vldB_nil, hn])
  have n3 : n ≤ 9 := by have := fltsK_len c 9; have e : fltsK c 9 = fltsOf c := rfl; rw [e] at this; omega
  clear hn
  go_enter Tryz.func17, Tryz.ntmps17
  go_upto_region 1 with (fail)
  rw [HW.out]
  go_wp2_with fail
  refine (rAll_ok c _ _ _ _ _ _ _ _ _ _ _ HST.out.R hs hok).mono ?_
  rintro e w3 ⟨v0, rfl, ho, hb3⟩
  obtain ⟨RA, rc, rfl, _, _, hrd⟩ := own_form ho
  have HB3 := Lib.hid (HST.out.bel.trans (hb3.mono HST.out.bel.size))
  rw [HN.out]
  clear ho hb3 hrd x0 x1 x2 x3 x4 x5 hz
  have hnn : ((n : Int) == 0) = b := by
    rw [← HBB.out, Bool.eq_iff_iff, beq_iff_eq, decide_eq_true_iff]; omega
  cases b
  all_goals
    go_wp2
    go_ret
    exact ⟨rfl, HB3.out⟩
end Go.Proofs.YtpedlbjbbcbbkaaGreat
namespace Go.Proofs.YtpedlbjbbcbbkaaGreat
open Go.RowKit
def few19 (c : Cfg) : Bool := few c && c.parts.all fun p => !(decide (0 < p.period) && decide (2000 < c.frame / p.period))
theorem few_val19 (c : Cfg) (A1 A2 A3 A4 A5 : Option Addr) (c1 c2 c3 c4 c5 : Nat) (w : World) (hR : CfgR w w.heap.size c A1 A2 A3 A4 A5 c1 c2 c3 c4 c5) (hs : c.small) (v : Bool) (hv : Hid (few c = v)) : Calls Tryz.prog 33 #[cfgV c.frame A1 A2 A3 A4 A5 c.parts.length c.wins.length c.regs.length c.ports.length c.chans.length c1 c2 c3 c4 c5] w fun e w' => e = .returned (.bool v) ∧ Below w.heap.size w w' := by
  have := few_ok c A1 A2 A3 A4 A5 c1 c2 c3 c4 c5 w hR hs
  rwa [hv.out] at this
set_option maxRecDepth 100000 in
set_option maxHeartbeats 4000000 in
theorem few19_ok (c : Cfg) (A1 A2 A3 A4 A5 : Option Addr) (c1 c2 c3 c4 c5 : Nat) (w : World) (hR : CfgR w w.heap.size c A1 A2 A3 A4 A5 c1 c2 c3 c4 c5) (hs : c.small) (hok : c.ok) (v : Bool) (hv : Hid (few19 c = v)) : Calls Tryz.prog 9 #[cfgV c.frame A1 A2 A3 A4 A5 c.parts.length c.wins.length c.regs.length c.ports.length c.chans.length c1 c2 c3 c4 c5] w fun e w' => e = .returned (.bool v) ∧ Below w.heap.size w w' := by
  obtain ⟨W0, hW, st⟩ := St.start_any hR 29
  have HW := Lib.hid hW
  have ST0 := Lib.hid st
  have bp := hs.bd.p
  have HOK := Lib.hid hok
  obtain ⟨x0, x1, x2, x3, x4, x5, hz⟩ := st.cells
  clear hR hW st hok
  rcases bool_cases (few c) with h1 | h1
  rotate_left
  · have H1 := Lib.hid h1
    have HV := Lib.hid (show false = v by rw [← hv.out]; unfold few19; rw [h1]; rfl)
    clear h1
    go_enter Tryz.func9, Tryz.ntmps9
    go_upto_region 1 with (fail)
    rw [HW.out]
    go_wp2_with fail
    refine (few_val19 c _ _ _ _ _ _ _ _ _ _ _ ST0.out.R hs false H1).mono ?_
    rintro e w1 ⟨rfl, hb1⟩
    have HZ := Lib.hid (ST0.out.up hb1).bel
    clear hb1 x0 x1 x2 x3 x4 x5 hz
    go_wp2
    go_ret
    exact ⟨ret_bool HV.out, HZ.out⟩
  · have H1 := Lib.hid h1
    have HV := Lib.hid (show (c.parts.all fun p => !(decide (0 < p.period) && decide (2000 < c.frame / p.period))) = v by rw [← hv.out]; unfold few19; rw [h1]; rfl)
    clear h1
    go_enter Tryz.func9, Tryz.ntmps9
    go_upto_region 1 with (fail)
    rw [HW.out]
    go_wp2_with fail
    refine (few_val19 c _ _ _ _ _ _ _ _ _ _ _ ST0.out.R hs true H1).mono ?_
    rintro e w1 ⟨rfl, hb1⟩
    have ST1 := Lib.hid (ST0.out.up hb1)
    clear hb1 x0 x1 x2 x3 x4 x5 hz
    go_wp2
    go_loopw [3] (fun i wr => ∃ k : Nat, k ≤ c.parts.length ∧ i = .int .i64 k ∧ Hid (((c.parts.take k).all fun p => !(decide (0 < p.period) && decide (2000 < c.frame / p.period))) = true) ∧ Hid (St w (wr) c A1 A2 A3 A4 A5 c1 c2 c3 c4 c5)) (fun i _ => c.parts.length - (intOf i).toNat)
    case atStart => exact ⟨0, Nat.zero_le _, rfl, Lib.hid rfl, ST1⟩
    case round =>
      obtain ⟨k, hk, rfl, HK, ST⟩ := hrel
      obtain ⟨x0, x1, x2, x3, x4, x5, hz⟩ := ST.out.cells
      by_cases hlt : k < c.parts.length
      · obtain ⟨x, hx⟩ := get_lt hlt
        have HRO := Lib.hid (HOK.out.parts x (List.mem_of_getElem? hx))
        obtain ⟨bb, o, rfl, hbb, g0, g1, g2, g3⟩ := par_at ST.out.R.parts hx
        have HT := Lib.hid (take_next hx)
        have HIN := Lib.hid (List.mem_of_getElem? hx)
        clear hx
        have n0 : (0 : Int) ≤ (k : Int) := by omega
        have n1 : (k : Int) < (c.parts.length : Int) := by omega
        go_upto_region 7 with (fail)
        obtain ⟨W4, hW4, rb, hb4⟩ := PqBox.new wr x 55
        rw [hW4]
        have ST4 := Lib.hid (ST.out.up hb4)
        have HPB := Lib.hid rb
        clear hW4 hb4 g0 g1 g2 g3 hbb x0 x1 x2 x3 x4 x5 hz rb
        obtain ⟨x0, x1, x2, x3, x4, x5, hz⟩ := ST4.out.cells
        obtain ⟨p0, p1, p2, p3, hg⟩ := HPB.out
        have b1 := Go.bounds_u64 HRO.out.period
        have b2 := Go.bounds_u64 HOK.out.frame
        by_cases hp : 0 < x.period
        · obtain ⟨t, ht⟩ : ∃ t, c.frame / x.period = t := ⟨_, rfl⟩
          have ht2 : c.frame.tdiv x.period = t := by rw [Int.tdiv_eq_ediv_of_nonneg b2.1]; exact ht
          have hpn : (x.period == 0) = false := beq_eq_false_iff_ne.2 (by omega)
          have hp0 : ¬ x.period = 0 := by omega
          have t0 : 0 ≤ t := by rw [← ht]; exact Int.ediv_nonneg b2.1 (by omega)
          have t1 : t ≤ c.frame := by rw [← ht]; exact Int.ediv_le_self _ b2.1
          have t2 : IntKind.u64.wrap t = t := by rw [IntKind.wrap_u64]; omega
          have HTT := Lib.hid ht
          by_cases hq : 2000 < t
          · have HF := Lib.hid (show false = v by
              rw [← HV.out, eq_comm, List.all_eq_false]
              exact ⟨x, HIN.out, by rw [ht, decide_eq_true hp, decide_eq_true hq]; simp⟩)
            have HZ := Lib.hid ST4.out.bel
            clear b1 b2 t0 t1
            go_wp2
            go_ret
            exact ⟨ret_bool HF.out, HZ.out⟩
          · have hq2 : decide (2000 < t) = false := decide_eq_false hq
            have HK2 := Lib.hid (show ((c.parts.take (k + 1)).all fun p => !(decide (0 < p.period) && decide (2000 < c.frame / p.period))) = true by
              rw [HT.out, List.all_append, HK.out]; simp [ht, hq])
            clear b1 b2 t0 t1
            go_wp2
            go_roundw
            case rel => exact ⟨k + 1, by omega, by go_num, HK2, ST4⟩
            case measure => simp [intOf]; omega
        · have hp2 : decide (0 < x.period) = false := decide_eq_false hp
          have HK2 := Lib.hid (show ((c.parts.take (k + 1)).all fun p => !(decide (0 < p.period) && decide (2000 < c.frame / p.period))) = true by
            rw [HT.out, List.all_append, HK.out]; simp [hp])
          clear b1 b2
          go_wp2
          go_roundw
          case rel => exact ⟨k + 1, by omega, by go_num, HK2, ST4⟩
          case measure => simp [intOf]; omega
      · obtain rfl : k = c.parts.length := by omega
        have HF := Lib.hid (show true = v by rw [← HV.out]; have := HK.out; rw [List.take_length] at this; exact this.symm)
        have HZ := Lib.hid ST.out.bel
        go_wp2
        go_ret
        exact ⟨ret_bool HF.out, HZ.out⟩
theorem eqFlt_same (l : List Flt) (A B : Option Addr) (a b : Nat) (w : World) (hl : l.length ≤ 4194304) (hA : Rd w w.heap.size 3 A l.length (l.flatMap FltC)) (hB : Rd w w.heap.size 3 B l.length (l.flatMap FltC)) :
    Calls Tryz.prog 12 #[.slice A l.length a, .slice B l.length b] w fun e w' => e = .returned (.bool true) ∧ Below w.heap.size w w' := by
  have HA := Lib.hid hA
  have HB := Lib.hid hB
  clear hA hB
  go_enter Tryz.func12, Tryz.ntmps12
  go_wp2
  go_loopw [13] (fun i wr => ∃ k : Nat, k ≤ l.length ∧ i = .int .i64 k ∧ Hid (Below w.heap.size w wr)) (fun i _ => l.length - (intOf i).toNat)
  case atStart => exact ⟨0, Nat.zero_le _, rfl, Lib.hid (Below.refl _ _)⟩
  case round =>
    obtain ⟨k, hk, rfl, HW⟩ := hrel
    by_cases hlt : k < l.length
    · obtain ⟨x, hx⟩ := get_lt hlt
      obtain ⟨b1, o1, rfl, h1, g0, g1, g2⟩ := flt_at (HA.out.below HW.out) hx
      obtain ⟨b2, o2, rfl, h2, k0, k1, k2⟩ := flt_at (HB.out.below HW.out) hx
      have k0' : (0 : Int) ≤ (k : Int) := by omega
      have k1' : (k : Int) < (l.length : Int) := by omega
      clear hx
      go_wp2
      go_quiet (fail)
      go_wp2
      go_roundw
      case rel => exact ⟨k + 1, by omega, by go_num, Lib.hid (below_drewN HW.out _)⟩
      case measure => simp [intOf]; omega
    · obtain rfl : k = l.length := by omega
      go_wp2
      go_ret
      exact ⟨rfl, HW.out⟩
end Go.Proofs.YtpedlbjbbcbbkaaGreat
