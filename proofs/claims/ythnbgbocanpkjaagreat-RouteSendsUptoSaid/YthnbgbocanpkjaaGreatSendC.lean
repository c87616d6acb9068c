/-
  The function that RouteSends hands to Send, walked: it looks at the port and the message, changes its copy, and notes the port.
-/
import Derived.BigQuiet
import Derived.Deep.RegionHeld3
import Derived.Test.YthnbgbocanpkjaaGreatLaw23a
namespace Go.Proofs.YthnbgbocanpkjaaGreat
open Go.RowKit Go.Lib
set_option maxRecDepth 100000 in
set_option maxHeartbeats 1000000 in
theorem eqB_same (l : List Int) (A B : Option Addr) (a b : Nat) (w : World) (hl : l.length ≤ 4194304) (hA : Rd w w.heap.size 1 A l.length (l.map (Value.int .u8))) (hB : Rd w w.heap.size 1 B l.length (l.map (Value.int .u8))) :
    Calls Tryz.prog 17 #[.slice A l.length a, .slice B l.length b] w fun e w' => e = .returned (.bool true) ∧ Below w.heap.size w w' := by
  have HA := Lib.hid hA
  have HB := Lib.hid hB
  clear hA hB
  go_enter Tryz.func17, Tryz.ntmps17
  go_wp2
  go_loopw [13] (fun i wr => ∃ k : Nat, k ≤ l.length ∧ i = .int .i64 k ∧ Hid (Below w.heap.size w wr)) (fun i _ => l.length - (intOf i).toNat)
  case atStart => exact ⟨0, Nat.zero_le _, rfl, Lib.hid (Below.refl _ _)⟩
  case round =>
    obtain ⟨k, hk, rfl, HW⟩ := hrel
    by_cases hlt : k < l.length
    · obtain ⟨x, hx⟩ := get_lt hlt
      obtain ⟨b1, o1, rfl, h1, g1⟩ := int_at (HA.out.below HW.out) hx
      obtain ⟨b2, o2, rfl, h2, g2⟩ := int_at (HB.out.below HW.out) hx
      have k0 : (0 : Int) ≤ (k : Int) := by omega
      have k1 : (k : Int) < (l.length : Int) := by omega
      clear hx
      go_wp2
      go_quiet (fail)
      go_wp2
      go_roundw
      case rel => exact ⟨k + 1, by omega, by go_num, Lib.hid (below_drewN HW.out _)⟩
      case measure => simp [intOf]; omega
    · obtain rfl : k = l.length := by omega
      go_wp2
      go_ret
      exact ⟨rfl, HW.out⟩
/-- where the deliveries stand: the flag is still true, and the first k ports are noted -/
structure SJ (w0 : World) (gs gt : Nat) (ids : List Int) (k : Nat) (W : World) : Prop where
  bel : Below w0.heap.size w0 W
  hs : w0.heap.size ≤ gs
  ht : w0.heap.size ≤ gt
  ne : gs ≠ gt
  same : Blk W gs 4 #[.bool true]
  to_ : ∃ v, Blk W gt 36 #[v] ∧ W.ownsRow w0.heap.size 34 1 v (ids.take k).length ((ids.take k).map (Value.int .u16))
theorem SJ.up {w0 W V : World} {gs gt : Nat} {ids : List Int} {k : Nat} (h : SJ w0 gs gt ids k W) (hb : Below W.heap.size W V) : SJ w0 gs gt ids k V := by
  obtain ⟨v, h1, h2⟩ := h.to_
  exact ⟨h.bel.trans (hb.mono h.bel.size), h.hs, h.ht, h.ne, h.same.below hb h.same.lt, v, h1.below hb h1.lt, own_below h2 hb⟩
/-- the flag is stored anew -/
theorem SJ.flag {w0 W : World} {gs gt : Nat} {ids : List Int} {k : Nat} (h : SJ w0 gs gt ids k W) : SJ w0 gs gt ids k (W.setCell ⟨gs, 0, none⟩ (.bool true)) := by
  obtain ⟨v, h1, h2⟩ := h.to_
  have hf := h.same.set_ 0 (.bool true)
  refine ⟨h.bel.setCell h.hs _, h.hs, h.ht, h.ne, by simpa using hf, v, ?_, own_far h2 (p := ⟨gs, 0, none⟩) h.same (by decide) _⟩
  exact h1.far (p := ⟨gs, 0, none⟩) (fun e => h.ne e.symm) _
/-- a row of bytes has turned -/
theorem SJ.bytes {w0 W V : World} {gs gt : Nat} {ids : List Int} {k : Nat} (h : SJ w0 gs gt ids k W) (hb : Below w0.heap.size W V) (hof : Off 5 W V) : SJ w0 gs gt ids k V := by
  obtain ⟨v, h1, h2⟩ := h.to_
  exact ⟨h.bel.trans hb, h.hs, h.ht, h.ne, h.same.off hof (by decide), v, h1.off hof (by decide), own_off h2 hof (by decide)⟩
/-- one port more is noted -/
theorem SJ.note {w0 W V : World} {gs gt : Nat} {ids : List Int} {k : Nat} {v' : Value} (h : SJ w0 gs gt ids k W) (hb : Below w0.heap.size W V) (hof : Off 34 W V) (ho : V.ownsRow w0.heap.size 34 1 v' (ids.take (k + 1)).length ((ids.take (k + 1)).map (Value.int .u16))) : SJ w0 gs gt ids (k + 1) (V.setCell ⟨gt, 0, none⟩ v') := by
  obtain ⟨v, h1, h2⟩ := h.to_
  have h3 : Blk V gt 36 #[v] := h1.off hof (by decide)
  have h4 := h3.set_ 0 v'
  exact ⟨(h.bel.trans hb).setCell h.ht _, h.hs, h.ht, h.ne, (h.same.off hof (by decide)).far (p := ⟨gt, 0, none⟩) h.ne _, v', by simpa using h4, own_far ho (p := ⟨gt, 0, none⟩) h3 (by decide) _⟩
theorem set_u8 (l : List Int) (i : Nat) (x : Int) : (l.map (Value.int .u8)).set i (.int .u8 x) = (l.set i x).map (Value.int .u8) := by rw [List.map_set]
set_option maxRecDepth 100000 in
set_option maxHeartbeats 8000000 in
theorem sends1_ok (c : Cfg) (A1 A2 A3 A4 A5 : Option Addr) (c1 c2 c3 c4 c5 : Nat) (hs : c.small) (msg : List Int) (M : Option Addr) (cm gc gm gs gt : Nat) (w0 : World) (hC : CBx w0 gc c A1 A2 A3 A4 A5 c1 c2 c3 c4 c5) (hMb : w0.cell? ⟨gm, 0, none⟩ = some (.slice M msg.length cm)) (hgm : gm < w0.heap.size) (hM : Rd w0 w0.heap.size 1 M msg.length (msg.map (Value.int .u8))) (hl : msg.length ≤ 4194304)
    (ids : List Int) (hil : ids.length ≤ 1048576) (k : Nat) (p : Prt) (hp : portAns (portOf c p.id) = (p, true)) (hk : ids[k]? = some p.id) (W : World) (hJ : SJ w0 gs gt ids k W) (v : Value) (hv : W.ownsRow w0.heap.size 5 1 v msg.length (msg.map (Value.int .u8))) :
    Calls Tryz.prog 15 #[prtV p, v, .pointer (some ⟨gc, 0, none⟩), .pointer (some ⟨gs, 0, none⟩), .pointer (some ⟨gm, 0, none⟩), .pointer (some ⟨gt, 0, none⟩)] W fun e V => e = .returned (.tuple #[]) ∧ SJ w0 gs gt ids (k + 1) V := by
  obtain ⟨i0, hi0, hz0, hz1, hz2⟩ := info_parts info_u16
  obtain ⟨RA, rc, rfl, _, _, _⟩ := own_form hv
  obtain ⟨W1, hW1, pt1, hb1⟩ := PtBox.new W p 41
  have HW1 := Lib.hid hW1
  have HJ1 := Lib.hid (hJ.up hb1)
  have HV1 := Lib.hid (own_below hv hb1)
  have HC := Lib.hid hC
  have HS := Lib.hid hs
  have HM := Lib.hid hM
  have HMB := Lib.hid hMb
  have HP := Lib.hid hp
  have HK := Lib.hid hk
  have PT1 := Lib.hid pt1
  have hRA : ∀ (b : Nat) (o : Nat), RA = some ⟨b, o, none⟩ → 0 < msg.length → b < W.heap.size := fun b o e hn => by
    obtain ⟨g, cap, h, _, hlt⟩ := hv.form hn
    injection h with h1
    rw [e] at h1
    injection h1 with h1
    injection h1 with h1
    omega
  have HRA := Lib.hid hRA
  have hgs6 : gs < W.heap.size := hJ.same.lt
  clear hW1 hb1 pt1 hC hs hM hMb hp hk hJ hv hRA
  go_enter Tryz.func15, Tryz.ntmps15
  go_upto_region 1 with (fail)
  rw [HW1.out]
  clear HW1
  generalize W.heap.size = g6 at *
  obtain ⟨x0, x1, x2, x3, x4, x5⟩ := (HC.out.up HJ1.out.bel).cells
  have hz := (HC.out.up HJ1.out.bel).z
  obtain ⟨q0, q1, q2, q3, q4, q5, hq⟩ := PT1.out
  go_wp2_with fail
  refine (rPort23_ok c _ _ _ _ _ _ _ _ _ _ _ (HC.out.up HJ1.out.bel).R HS.out p.id p true HP).mono ?_
  rintro e w2 ⟨rfl, hb2⟩
  obtain ⟨W2, hW2, pt2, hb2'⟩ := PtBox.new w2 p 41
  have HW2 := Lib.hid hW2
  have PT1' := Lib.hid ((PT1.out.up hb2).up hb2')
  have PT2 := Lib.hid pt2
  have HJ2 := Lib.hid ((HJ1.out.up hb2).up hb2')
  have HV2 := Lib.hid (own_below (own_below HV1.out hb2) hb2')
  clear hW2 hb2 hb2' pt2 x0 x1 x2 x3 x4 x5 hz q0 q1 q2 q3 q4 q5 hq PT1 HV1
  go_upto_region 2 with (fail)
  rw [HW2.out]
  clear HW2
  generalize w2.heap.size = g8 at *
  obtain ⟨q0, q1, q2, q3, q4, q5, hq⟩ := PT1'.out
  obtain ⟨r0, r1, r2, r3, r4, r5, hr⟩ := PT2.out
  have s0 := HJ2.out.same.cell 0
  simp at s0
  have hz := HJ2.out.same.lt
  have y0 := (HJ2.out.bel.cell (p := ⟨gm, 0, none⟩) hgm).trans HMB.out
  have hzm : gm < W2.heap.size := Nat.lt_of_lt_of_le hgm HJ2.out.bel.size
  go_wp2_with fail
  refine (eqB_same msg RA M rc cm _ hl (own_slice HV2.out).2 (HM.out.up HJ2.out.bel)).mono ?_
  rintro e w3 ⟨rfl, hb3⟩
  have HJ3 := Lib.hid (HJ2.out.up hb3)
  have HV3 := Lib.hid (own_below HV2.out hb3)
  have PT3 := Lib.hid (PT1'.out.up hb3)
  clear hb3 q0 q1 q2 q3 q4 q5 hq r0 r1 r2 r3 r4 r5 hr s0 hz y0 hzm PT1' PT2
  have s0 := HJ3.out.same.cell 0
  have f0 := HJ3.out.same.frozen 0
  have hz := HJ3.out.same.lt
  simp at s0
  have HJ4 := Lib.hid HJ3.out.flag
  have HV4 := Lib.hid (own_far HV3.out (p := ⟨gs, 0, none⟩) HJ3.out.same (by decide) (.bool true))
  have PT4 := Lib.hid (show (w3.setCell ⟨gs, 0, none⟩ (.bool true)).cell? ⟨g6, 0, none⟩ = some (.int .u16 p.id) ∧ g6 < (w3.setCell ⟨gs, 0, none⟩ (.bool true)).heap.size from ⟨(World.cell?_setCell_other _ _ _ _ (fun e => by injection e with e; omega)).trans PT3.out.1, by have := PT3.out.2.2.2.2.2.2; simpa using this⟩)
  go_upto_region 3 with (fail)
  clear s0 f0 hz
  generalize w3.setCell ⟨gs, 0, none⟩ (.bool true) = W4 at *
  go_wp2_with fail
  go_loopw [34] (fun i wr => ∃ (j : Nat) (l : List Int), j ≤ msg.length ∧ i = .int .i64 j ∧ l.length = msg.length ∧ Hid (wr.ownsRow w0.heap.size 5 1 (.slice RA msg.length rc) msg.length (l.map (Value.int .u8))) ∧ Hid (SJ w0 gs gt ids k wr) ∧ Hid (wr.cell? ⟨g6, 0, none⟩ = some (.int .u16 p.id) ∧ g6 < wr.heap.size)) (fun i _ => msg.length - (intOf i).toNat)
  case atStart => exact ⟨0, msg, Nat.zero_le _, rfl, rfl, HV4, HJ4, PT4⟩
  case round =>
    clear HV4 HJ4 PT4
    obtain ⟨j, l, hj, rfl, hll, HV, HJ, PT⟩ := hrel
    by_cases hlt : j < msg.length
    · obtain ⟨x, hx⟩ := get_lt (l := l) (k := j) (by omega)
      obtain ⟨b, cap, hform, hb0, hbl⟩ := HV.out.form (by omega)
      injection hform with e1 e2 e3
      subst e1 e3
      clear e2
      have hbg := HRA.out b 0 rfl (by omega)
      have g0 : wr.cell? ⟨b, j, none⟩ = some (.int .u8 x) := by
        have := HV.out.cells (g := b) rfl j (.int .u8 x) (by simp [hx])
        rwa [addr_add, Nat.zero_add] at this
      have HLL := Lib.hid hll
      obtain ⟨y, hy⟩ : ∃ y, IntKind.u8.wrap (x + 1) = y := ⟨_, rfl⟩
      have hst := World.ownsRow.stored HV.out j (.int .u8 y)
      rw [set_u8] at hst
      have HV2 := Lib.hid hst.1
      have HJ2 := Lib.hid (HJ.out.bytes (below_own (Below.refl w0.heap.size wr) hst.2 HV.out HJ.out.bel.size) (Off.of_own HV.out hst.2))
      have PT2 := Lib.hid (show (wr.setCell ⟨b, j, none⟩ (.int .u8 y)).cell? ⟨g6, 0, none⟩ = some (.int .u16 p.id) ∧ g6 < (wr.setCell ⟨b, j, none⟩ (.int .u8 y)).heap.size from ⟨(World.cell?_setCell_other _ _ _ _ (fun e => by injection e with e; omega)).trans PT.out.1, by have := PT.out.2; simpa using this⟩)
      have f0 := World.ownsRow.frozenAt HV.out j
      have k0 : (0 : Int) ≤ (j : Int) := by omega
      have k1 : (j : Int) < (msg.length : Int) := by omega
      clear hx hll hst
      go_wp2
      go_roundw
      case rel => exact ⟨j + 1, _, by omega, by go_num, by rw [List.length_set]; exact HLL.out, HV2, HJ2, PT2⟩
      case measure => simp [intOf]; omega
    · obtain rfl : j = msg.length := by omega
      obtain ⟨v, hv1, hv2⟩ := HJ.out.to_
      have hkl : k < ids.length := (List.getElem?_eq_some_iff.1 HK.out).1
      rw [show (ids.take k).length = k by rw [List.length_take]; omega] at hv2
      obtain ⟨TA, tc, rfl, _, _, _⟩ := own_form hv2
      have t0 := hv1.cell 0
      have tz := hv1.lt
      simp at t0
      obtain ⟨pc, pz⟩ := PT.out
      have HR3 := Lib.hid (own_below hv2 (below_one wr (.cells #[.int .u16 p.id] 34)))
      have HJA := Lib.hid (HJ.out.up (below_one wr (.cells #[.int .u16 p.id] 34)))
      have hsz := HJ.out.bel.size
      have HG := Lib.hid hv1
      go_wp2_with (at_builtin; go_loud ((refine wpList_append_rd _ rfl (.tmp 44) (.tmp 47) _ rfl w0.heap.size 34 i0 (.int .u16 0) 1 2 Tryz.underlying36 hi0 hz0 hz1 hz2 rfl (by decide) _ _ _ rfl HR3.out (wr.alloc (.cells #[.int .u16 p.id] 34)).heap.size (some ⟨wr.heap.size, 0, none⟩) 1 1 [.int .u16 p.id] rfl (one_newP wr p.id 34) (by intro u hu; simp at hu; subst hu; rfl) (by unfold maxLen; omega) (by omega) (by simp; omega) ?_); intro v' w3 hown hg; (obtain ⟨VA, vc, rfl, _, _, _⟩ := own_form hown); have hbA := below_own (Below.refl w0.heap.size (wr.alloc (.cells #[.int .u16 p.id] 34))) hg HR3.out (by simp; omega); have hofA := Off.of_own HR3.out hg; have hgt3 : Blk w3 gt 36 #[.slice TA k tc] := (HG.out.alloc _).off hofA (by decide); have HJN := Lib.hid (HJA.out.note (v' := .slice VA (k + 1) vc) hbA hofA (by rw [take_next HK.out, List.length_append, show (ids.take k).length = k by rw [List.length_take]; omega]; simpa using hown)); have c0 := hgt3.cell 0; have f0 := hgt3.frozen 0; have cz := hgt3.lt; (simp at c0); clear hbA hofA hgt3 hown hg hv1 hv2 t0 tz))
      go_end0
      exact ⟨rfl, HJN.out⟩
end Go.Proofs.YthnbgbocanpkjaaGreat
