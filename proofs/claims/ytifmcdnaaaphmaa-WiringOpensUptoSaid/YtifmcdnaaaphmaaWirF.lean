/-
  What Ports and Channels of package wiring return, walked once.
-/
import Derived.Test.YtifmcdnaaaphmaaWirC
namespace Go.Proofs.Ytifmcdnaaaphmaa
open Go.RowKit
open Go.Maps (Keyed)
attribute [local go_sem] ext_cell
def badFlt (s : Int) (v : Int × Int) : Flt := if v.1 = 0 then noFlt else ⟨v.1, s, v.2⟩
theorem badFlt_0 {s : Int} {v : Int × Int} (h : v = (0, 0)) : badFlt s v = noFlt := by rw [h]; rfl
theorem badFlt_e {s e i : Int} {v : Int × Int} (h : v = (e, i)) (he : e ≠ 0) : badFlt s v = ⟨e, s, i⟩ := by rw [h]; exact if_neg he
theorem portCode_val (c : Cfg) (g b : Nat) (A4 : Option Addr) (c4 : Nat) (w : World) (h : ChkAt w w.heap.size g b c A4 c4) (p : Prt) (hp : p.ok) (v : Int) (hv : Hid (portCode c p = v)) :
    Calls Try.prog 35 #[.pointer (some ⟨g, 0, none⟩), .agg #[.int .u16 p.id, .int .u16 p.part, .string p.name, .bool p.output, .bool p.queuing, .int .u32 p.size]] w fun e w' => e = .returned (.int .i64 v) ∧ Below w.heap.size w w' := by
  have := chkPort_ok c g b A4 c4 w h p hp
  rwa [hv.out] at this
theorem FltBk (w : World) (t : TypeId) : ∃ W, w.alloc (.cells #[.int .i64 0, .int .i64 0, .int .i64 0] t) = W ∧ Blk W w.heap.size t #[.int .i64 0, .int .i64 0, .int .i64 0] ∧ Below w.heap.size w W := ⟨_, rfl, Blk.new _ _ _, below_one _ _⟩
set_option maxRecDepth 100000 in
set_option maxHeartbeats 4000000 in
theorem firstPort_ok (c : Cfg) (hok : c.ok) (hbd : c.Bd) (g b : Nat) (A4 : Option Addr) (c4 : Nat) (w : World) (h : ChkAt w w.heap.size g b c A4 c4) :
    Calls Try.prog 33 #[.int .i64 4, .slice A4 c.ports.length c4, .func (.func 35) #[.pointer (some ⟨g, 0, none⟩)] #[]] w fun e w' => e = .returned (fltV (badFlt 4 (portBad c))) ∧ Below w.heap.size w w' := by
  obtain ⟨W0, hW, hk0, hb0⟩ := FltBk w 36
  have HW := Lib.hid hW
  have HK0 := Lib.hid hk0
  have HB0 := Lib.hid hb0
  have HC0 := Lib.hid (h.up hb0)
  have bt := hbd.t
  have HOK := Lib.hid hok.ports
  clear hW hk0 hb0 h hok hbd
  go_enter Try.func33, Try.ntmps33
  go_upto_region 1 with (fail)
  rw [HW.out]
  go_wp2
  go_loopw [12] (fun i wr => ∃ k : Nat, k ≤ c.ports.length ∧ i = .int .i64 k ∧ Hid (portBad c = bad k ((c.ports.map (portCode c)).drop k)) ∧ Hid (ChkAt wr wr.heap.size g b c A4 c4) ∧ Hid (Blk wr w.heap.size 36 #[.int .i64 0, .int .i64 0, .int .i64 0]) ∧ Hid (Below w.heap.size w wr)) (fun i _ => c.ports.length - (intOf i).toNat)
  case atStart => exact ⟨0, Nat.zero_le _, rfl, Lib.hid rfl, HC0, HK0, HB0⟩
  case round =>
    obtain ⟨k, hk, rfl, hrest, HC, HK, HB⟩ := hrel
    by_cases hlt : k < c.ports.length
    · obtain ⟨x, hx⟩ := get_lt hlt
      have hxo := HOK.out x (List.mem_of_getElem? hx)
      obtain ⟨bp, op, rfl, hbp, p0, p1, p2, p3, p4, p5⟩ := prt_at HC.out.rd hx
      have HX := Lib.hid (show (c.ports.map (portCode c))[k]? = some (portCode c x) by simp [hx])
      clear hx
      go_upto_region 4 with (fail)
      obtain ⟨W3, hW3, pb3, hb3⟩ := PtBox.new wr x 43
      rw [hW3]
      have HC3 := Lib.hid (HC.out.up hb3)
      have HK3 := Lib.hid (HK.out.below hb3 HK.out.lt)
      have HB3 := Lib.hid (Below.trans HB.out (hb3.mono HB.out.size))
      clear p0 p1 p2 p3 p4 p5 hW3 hb3
      obtain ⟨p0, p1, p2, p3, p4, p5, hz⟩ := pb3
      by_cases he : portCode c x = 0
      · have HE := Lib.hid he
        clear he
        go_wp2_with (go_at_call 35; refine (portCode_val c g b _ c4 _ HC3.out x hxo 0 HE).mono ?_; rintro e w4 ⟨rfl, hb4⟩)
        go_roundw
        case rel => exact ⟨k + 1, by omega, by go_num, Lib.hid (bad_miss hrest.out (by rw [HX.out, HE.out])), Lib.hid (HC3.out.up hb4), Lib.hid (HK3.out.below hb4 HK3.out.lt), Lib.hid (Below.trans HB3.out (hb4.mono HB3.out.size))⟩
        case measure => simp [intOf]; omega
      · have HV := Lib.hid (badFlt_e (s := 4) (bad_hit hrest.out HX.out he) he)
        have hne : (portCode c x != 0) = true := by simpa using he
        clear he
        go_wp2_with fail
        refine (chkPort_ok c g b _ c4 _ HC3.out x hxo).mono ?_
        rintro e w4 ⟨rfl, hb4⟩
        have hk4 := HK3.out.below hb4 HK3.out.lt
        have HB4 := Lib.hid (Below.trans HB3.out (hb4.mono HB3.out.size))
        have q0 := hk4.cell 0
        have q1 := hk4.cell 1
        have q2 := hk4.cell 2
        have qf := hk4.frozen
        simp at q0 q1 q2
        clear hk4 hb4
        go_wp2
        refine bodyPost_ret (v := fltV ⟨portCode c x, 4, k⟩) (by simp [results, Try.results33, go_sem, q0, q1, q2]) rfl ⟨by rw [HV.out], ?_⟩
        (repeat (first | with_reducible exact HB4.out | with_reducible exact Below.refl _ _ | with_reducible refine Below.drew ?_ | (with_reducible refine Below.setCell ?_ (by simp) _) | (with_reducible refine Below.alloc ?_ (by have hq := HB4.out.size; simp; omega) _)))
    · obtain rfl : k = c.ports.length := by omega
      have HV := Lib.hid (badFlt_0 (s := 4) (bad_end (v := portBad c) (l := c.ports.map (portCode c)) (by simpa using hrest.out)))
      have q0 := HK.out.cell 0
      have q1 := HK.out.cell 1
      have q2 := HK.out.cell 2
      have qf := HK.out.frozen
      simp at q0 q1 q2
      have HB4 := HB
      go_wp2
      refine bodyPost_ret (v := fltV noFlt) (by simp [results, Try.results33, go_sem, noFlt, q0, q1, q2]) rfl ⟨by rw [HV.out], ?_⟩
      (repeat (first | with_reducible exact HB4.out | with_reducible exact Below.refl _ _ | with_reducible refine Below.drew ?_ | (with_reducible refine Below.setCell ?_ (by simp) _) | (with_reducible refine Below.alloc ?_ (by have hq := HB4.out.size; simp; omega) _)))
theorem chansBad_hit {c : Cfg} {i : Nat} {us : List Int} {x : Chn} {v : Int × Int} (h : v = chansBad c i us (c.chans.drop i)) (hx : c.chans[i]? = some x) (hp : (chanCode c us x).1 ≠ 0) : v = ((chanCode c us x).1, (i : Int)) := by
  rw [h, drop_cons hx, chansBad, if_neg hp]
theorem chansBad_miss {c : Cfg} {i : Nat} {us : List Int} {x : Chn} {v : Int × Int} (h : v = chansBad c i us (c.chans.drop i)) (hx : c.chans[i]? = some x) (hp : (chanCode c us x).1 = 0) : v = chansBad c (i + 1) (chanCode c us x).2 (c.chans.drop (i + 1)) := by
  rw [h, drop_cons hx, chansBad, if_pos hp]
theorem chansBad_end {c : Cfg} {us : List Int} {v : Int × Int} (h : v = chansBad c c.chans.length us (c.chans.drop c.chans.length)) : v = (0, 0) := by
  rw [h, List.drop_length, chansBad]
theorem destsCode_nodup {c : Cfg} {s : Prt} : ∀ (l us : List Int), us.Nodup → (destsCode c s us l).2.Nodup
  | [], _, h => h
  | d :: r, us, h => by
    unfold destsCode
    split
    · rename_i h0
      exact destsCode_nodup r _ (nodup_snoc h (endCode_new h0))
    · exact h
theorem chanCode_nodup {c : Cfg} {us : List Int} {x : Chn} (h : us.Nodup) : (chanCode c us x).2.Nodup := by
  unfold chanCode
  split
  · rename_i h0
    split
    · exact nodup_snoc h (endCode_new h0)
    · exact destsCode_nodup _ _ (nodup_snoc h (endCode_new h0))
  · exact h
theorem channel_val (c : Cfg) (g b : Nat) (A4 : Option Addr) (c4 : Nat) (w : World) (h : ChkAt w w.heap.size g b c A4 c4) (hbd : c.Bd) (u : List Int) (hm : MapIs w Try.prog 38 kU vB b (usedL u)) (hn : u.Nodup) (x : Chn) (hx : x.ok) (hxl : x.dests.length ≤ 1048576) (D : Option Addr) (d : Nat)
    (hD : Rd w w.heap.size 1 D x.dests.length (x.dests.map (Value.int .u16))) (v : Int) (hv : Hid ((chanCode c u x).1 = v)) :
    Calls Try.prog 37 #[.pointer (some ⟨g, 0, none⟩), .agg #[.int .u16 x.id, .int .u16 x.source, .slice D x.dests.length d]] w fun e w' => e = .returned (.int .i64 v) ∧
      MapIs w' Try.prog 38 kU vB b (usedL (chanCode c u x).2) ∧ w.grownBy w' (some b) := by
  have := channel_ok c g b A4 c4 w h hbd u hm hn x hx hxl D d hD
  rwa [hv.out] at this
structure FcSt (w wr : World) (g b : Nat) (c : Cfg) (A4 : Option Addr) (c4 : Nat) (A5 : Option Addr) (us : List Int) : Prop where
  chk : ChkAt wr wr.heap.size g b c A4 c4
  mp : MapIs wr Try.prog 38 kU vB b (usedL us)
  nd : us.Nodup
  ch : ∃ cs, ChnsC wr wr.heap.size c.chans cs ∧ Rd wr wr.heap.size 3 A5 c.chans.length cs
  bk : Blk wr w.heap.size 36 #[.int .i64 0, .int .i64 0, .int .i64 0]
  bl : b < w.heap.size
  gr : w.grownBy wr (some b)
theorem Rd.grown2 {w w' : World} {b sz n : Nat} {A : Option Addr} {xs : List Value} (h : Rd w w.heap.size sz A n xs) (hg : w.grownBy w' (some b)) (hne : ∀ x o v, w.cell? ⟨x, o, none⟩ = some v → x ≠ b) : Rd w' w'.heap.size sz A n xs := (h.grown hg (Nat.le_refl _) hne).more hg.size
theorem ChnC.grown {w w' : World} {b : Nat} {x : Chn} {cs : List Value} (h : ChnC w w.heap.size x cs) (hg : w.grownBy w' (some b)) (hne : ∀ x o v, w.cell? ⟨x, o, none⟩ = some v → x ≠ b) : ChnC w' w'.heap.size x cs := by
  obtain ⟨A, c, e, h1, h2, h3⟩ := h
  exact ⟨A, c, e, h1, h2, h3.grown2 hg hne⟩
theorem ChnsC.grown {w w' : World} {b : Nat} (hg : w.grownBy w' (some b)) (hne : ∀ x o v, w.cell? ⟨x, o, none⟩ = some v → x ≠ b) : ∀ {l : List Chn} {cs : List Value}, ChnsC w w.heap.size l cs → ChnsC w' w'.heap.size l cs
  | [], _, h => h
  | _ :: _, _, ⟨c0, c1, e, h1, h2⟩ => ⟨c0, c1, e, h1.grown hg hne, ChnsC.grown hg hne h2⟩
section
variable {w wr w' : World} {g b : Nat} {c : Cfg} {A4 A5 : Option Addr} {c4 : Nat} {us us' : List Int}
theorem FcSt.step (h : FcSt w wr g b c A4 c4 A5 us) (hm : MapIs w' Try.prog 38 kU vB b (usedL us')) (hn : us'.Nodup) (hg : wr.grownBy w' (some b)) : FcSt w w' g b c A4 c4 A5 us' := by
  have hne : ∀ x o v, wr.cell? ⟨x, o, none⟩ = some v → x ≠ b := fun x o v hx => h.mp.ne hx
  obtain ⟨cs, h1, h2⟩ := h.ch
  have hbl := h.bl
  exact ⟨h.chk.grown hg hne, hm, hn, ⟨cs, h1.grown hg hne, h2.grown2 hg hne⟩, (hg.block _ h.bk.lt (fun e => by injection e with e; omega)).trans h.bk, hbl, h.gr.trans hg⟩
theorem FcSt.up (h : FcSt w wr g b c A4 c4 A5 us) (hb : Below wr.heap.size wr w') : FcSt w w' g b c A4 c4 A5 us :=
  h.step (h.mp.below hb h.chk.bl) h.nd (grown_of_below hb _)
end
theorem grown_far3 {a w : World} {g b : Nat} (h : a.grownBy w (some b)) (hg : a.heap.size ≤ g) {o0 o1 o2 : Nat} {u0 u1 u2 : Value} :
    a.grownBy (((w.setCell ⟨g, o0, none⟩ u0).setCell ⟨g, o1, none⟩ u1).setCell ⟨g, o2, none⟩ u2) (some b) :=
  grown_far (grown_far (grown_far h hg _ _) hg _ _) hg _ _
set_option maxRecDepth 100000 in
set_option maxHeartbeats 4000000 in
theorem firstChan_ok (c : Cfg) (hok : c.ok) (hbd : c.Bd) (g b : Nat) (A4 A5 : Option Addr) (c4 c5 : Nat) (w : World) (h : ChkAt w w.heap.size g b c A4 c4) (hm : MapIs w Try.prog 38 kU vB b (usedL []))
    (cs : List Value) (hC : ChnsC w w.heap.size c.chans cs) (hr : Rd w w.heap.size 3 A5 c.chans.length cs) :
    Calls Try.prog 36 #[.int .i64 5, .slice A5 c.chans.length c5, .func (.func 37) #[.pointer (some ⟨g, 0, none⟩)] #[]] w fun e w' => e = .returned (fltV (badFlt 5 (chanBad c))) ∧ w.grownBy w' (some b) := by
  obtain ⟨W0, hW, hk0, hb0⟩ := FltBk w 36
  have hst : FcSt w W0 g b c A4 c4 A5 [] := ⟨h.up hb0, hm.below hb0 h.bl, by simp, ⟨cs, (hC.keep fun _ _ hp => hb0.cell hp).more hb0.size, hr.up hb0⟩, hk0, h.bl, grown_of_below hb0 _⟩
  have HW := Lib.hid hW
  have HS0 := Lib.hid hst
  have bx := hbd.x
  have HDL := Lib.hid hbd.d
  have HBD := Lib.hid hbd
  have HOK := Lib.hid hok.chans
  clear hW hk0 hb0 h hok hbd hst hC hr hm
  go_enter Try.func36, Try.ntmps36
  go_upto_region 1 with (fail)
  rw [HW.out]
  go_wp2
  go_loopw [12] (fun i wr => ∃ (k : Nat) (us : List Int), k ≤ c.chans.length ∧ i = .int .i64 k ∧ Hid (chanBad c = chansBad c k us (c.chans.drop k)) ∧ Hid (FcSt w wr g b c A4 c4 A5 us)) (fun i _ => c.chans.length - (intOf i).toNat)
  case atStart => exact ⟨0, [], Nat.zero_le _, rfl, Lib.hid rfl, HS0⟩
  case round =>
    obtain ⟨k, us, hk, rfl, hrest, HS⟩ := hrel
    by_cases hlt : k < c.chans.length
    · obtain ⟨x, hx⟩ := get_lt hlt
      have hxo := HOK.out x (List.mem_of_getElem? hx)
      have hxl := HDL.out x (List.mem_of_getElem? hx)
      obtain ⟨cs2, hC, hr⟩ := HS.out.ch
      obtain ⟨bp, op, rfl, hbp, p0, p1, D, d, p2, hd1, hd2, hD⟩ := chn_at hC hr hx
      have HX := Lib.hid hx
      have HD := Lib.hid hD
      clear hx hC hr hD
      go_upto_region 4 with (fail)
      obtain ⟨W3, hW3, cb3, hb3⟩ := ChBox.new wr x D d 55
      rw [hW3]
      have HS3 := Lib.hid (HS.out.up hb3)
      have HD3 := Lib.hid (HD.out.up hb3)
      clear p0 p1 p2 hW3 hb3
      obtain ⟨p0, p1, p2, hz⟩ := cb3
      by_cases he : (chanCode c us x).1 = 0
      · have HE := Lib.hid he
        clear he
        go_wp2_with fail
        refine (channel_val c g b _ c4 _ HS3.out.chk HBD.out us HS3.out.mp HS3.out.nd x hxo hxl D d HD3.out 0 HE).mono ?_
        rintro e w4 ⟨rfl, hm4, hg4⟩
        have HS4 := Lib.hid (HS3.out.step hm4 (chanCode_nodup HS3.out.nd) hg4)
        clear hm4 hg4
        go_wp2
        go_roundw
        case rel => exact ⟨k + 1, _, by omega, by go_num, Lib.hid (chansBad_miss hrest.out HX.out HE.out), HS4⟩
        case measure => simp [intOf]; omega
      · have HV := Lib.hid (badFlt_e (s := 5) (chansBad_hit hrest.out HX.out he) he)
        have hne : ((chanCode c us x).1 != 0) = true := by simpa using he
        clear he
        go_wp2_with fail
        refine (channel_ok c g b _ c4 _ HS3.out.chk HBD.out us HS3.out.mp HS3.out.nd x hxo hxl D d HD3.out).mono ?_
        rintro e w4 ⟨rfl, hm4, hg4⟩
        have hs4 := HS3.out.step hm4 (chanCode_nodup HS3.out.nd) hg4
        have q0 := hs4.bk.cell 0
        have q1 := hs4.bk.cell 1
        have q2 := hs4.bk.cell 2
        have qf := hs4.bk.frozen
        simp at q0 q1 q2
        have HG := Lib.hid hs4.gr
        clear hm4 hg4 hs4
        go_wp2
        refine bodyPost_ret (v := fltV ⟨(chanCode c us x).1, 5, k⟩) (by simp [results, Try.results36, go_sem, q0, q1, q2]) rfl ⟨by rw [HV.out], ?_⟩
        exact grown_far3 HG.out (Nat.le_refl _)
    · obtain rfl : k = c.chans.length := by omega
      have HV := Lib.hid (badFlt_0 (s := 5) (chansBad_end hrest.out))
      have q0 := HS.out.bk.cell 0
      have q1 := HS.out.bk.cell 1
      have q2 := HS.out.bk.cell 2
      have qf := HS.out.bk.frozen
      simp at q0 q1 q2
      go_wp2
      refine bodyPost_ret (v := fltV noFlt) (by simp [results, Try.results36, go_sem, noFlt, q0, q1, q2]) rfl ⟨by rw [HV.out], ?_⟩
      exact grown_far3 HS.out.gr (Nat.le_refl _)
end Go.Proofs.Ytifmcdnaaaphmaa
