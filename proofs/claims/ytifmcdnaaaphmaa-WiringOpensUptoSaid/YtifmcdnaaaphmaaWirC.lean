/-
  What the method channel of the checker of package wiring computes, walked once.
-/
import Derived.Test.YtifmcdnaaaphmaaWirE
namespace Go.Proofs.Ytifmcdnaaaphmaa
open Go.RowKit
open Go.Maps (Keyed)
attribute [local go_sem] ext_cell
theorem endCode_new {c : Cfg} {u : List Int} {id : Int} {o : Bool} {fit : Prt → Bool} (h : endCode c u id o fit = 0) : id ∉ u := by
  unfold endCode at h
  split at h
  · cases h
  · split at h
    · split at h
      · split at h
        · cases h
        · assumption
      · cases h
    · cases h
theorem nodup_snoc {l : List Int} {x : Int} (h : l.Nodup) (hx : x ∉ l) : (l ++ [x]).Nodup := by
  rw [List.nodup_append]
  exact ⟨h, by simp, fun a ha b hb e => hx (by simp at hb; rw [← hb, ← e]; exact ha)⟩
theorem ChBox.grown {w w' : World} {g b : Nat} {x : Chn} {D : Option Addr} {d : Nat} (h : ChBox w g x D d) (hg : w.grownBy w' (some b)) (hne : ∀ x o v, w.cell? ⟨x, o, none⟩ = some v → x ≠ b) : ChBox w' g x D d := by
  obtain ⟨h0, h1, h2, hl⟩ := h
  have n := hne _ _ _ h0
  exact ⟨(grown_cell hg hl n).trans h0, (grown_cell hg hl n).trans h1, (grown_cell hg hl n).trans h2, Nat.lt_of_lt_of_le hl hg.size⟩
theorem PtBox.grown {w w' : World} {g b : Nat} {x : Prt} (h : PtBox w g x) (hg : w.grownBy w' (some b)) (hne : ∀ x o v, w.cell? ⟨x, o, none⟩ = some v → x ≠ b) : PtBox w' g x := by
  obtain ⟨h0, h1, h2, h3, h4, h5, hl⟩ := h
  have n := hne _ _ _ h0
  exact ⟨(grown_cell hg hl n).trans h0, (grown_cell hg hl n).trans h1, (grown_cell hg hl n).trans h2, (grown_cell hg hl n).trans h3, (grown_cell hg hl n).trans h4, (grown_cell hg hl n).trans h5, Nat.lt_of_lt_of_le hl hg.size⟩
structure ChSt (w wr : World) (g b gb : Nat) (c : Cfg) (A4 : Option Addr) (c4 : Nat) (x : Chn) (D : Option Addr) (d : Nat) (us : List Int) : Prop where
  chk : ChkAt wr wr.heap.size g b c A4 c4
  mp : MapIs wr Try.prog 38 kU vB b (usedL us)
  nd : us.Nodup
  cb : ChBox wr gb x D d
  rd : Rd wr wr.heap.size 1 D x.dests.length (x.dests.map (Value.int .u16))
  gr : w.grownBy wr (some b)
section
variable {w wr w' : World} {g b gb gs : Nat} {c : Cfg} {A4 : Option Addr} {c4 : Nat} {x : Chn} {D : Option Addr} {d : Nat} {us us' : List Int}
theorem ChSt.step (h : ChSt w wr g b gb c A4 c4 x D d us) (hm : MapIs w' Try.prog 38 kU vB b (usedL us')) (hn : us'.Nodup) (hg : wr.grownBy w' (some b)) : ChSt w w' g b gb c A4 c4 x D d us' := by
  have hne : ∀ x o v, wr.cell? ⟨x, o, none⟩ = some v → x ≠ b := fun x o v hx => h.mp.ne hx
  exact ⟨h.chk.grown hg hne, hm, hn, h.cb.grown hg hne, (h.rd.grown hg (Nat.le_refl _) hne).more hg.size, h.gr.trans hg⟩
theorem ChSt.up (h : ChSt w wr g b gb c A4 c4 x D d us) (hb : Below wr.heap.size wr w') : ChSt w w' g b gb c A4 c4 x D d us :=
  h.step (h.mp.below hb h.chk.bl) h.nd (grown_of_below hb _)
theorem ChSt.ne (h : ChSt w wr g b gb c A4 c4 x D d us) : ∀ x o v, wr.cell? ⟨x, o, none⟩ = some v → x ≠ b := fun _ _ _ hx => h.mp.ne hx
end
theorem endS_val (c : Cfg) (g b : Nat) (A4 : Option Addr) (c4 : Nat) (w : World) (h : ChkAt w w.heap.size g b c A4 c4) (hbd : c.Bd) (u : List Int) (hm : MapIs w Try.prog 38 kU vB b (usedL u)) (hn : u.Nodup) (id : Int) (hid : wU16 id) (v : Int) (hv : Hid (endCode c u id true anyPort = v)) :
    Calls Try.prog 57 #[.pointer (some ⟨g, 0, none⟩), .int .u16 id, .bool true, .func (.func 58) #[] #[]] w fun e w' => e = .returned (.tuple #[prtV (thePort c id), .int .i64 v]) ∧
      MapIs w' Try.prog 38 kU vB b (usedL (endUsed c u id true anyPort)) ∧ w.grownBy w' (some b) := by
  have := endS_ok c g b A4 c4 w h hbd u hm hn id hid
  rwa [hv.out] at this
theorem endD_val (c : Cfg) (g b : Nat) (A4 : Option Addr) (c4 : Nat) (w : World) (h : ChkAt w w.heap.size g b c A4 c4) (hbd : c.Bd) (u : List Int) (hm : MapIs w Try.prog 38 kU vB b (usedL u)) (hn : u.Nodup) (id : Int) (hid : wU16 id) (gs : Nat) (s : Prt) (hgs : PtBox w gs s) (v : Int) (hv : Hid (endCode c u id false (sameKind s) = v)) :
    Calls Try.prog 57 #[.pointer (some ⟨g, 0, none⟩), .int .u16 id, .bool false, .func (.func 59) #[] #[.pointer (some ⟨gs, 0, none⟩)]] w fun e w' => e = .returned (.tuple #[prtV (thePort c id), .int .i64 v]) ∧
      MapIs w' Try.prog 38 kU vB b (usedL (endUsed c u id false (sameKind s))) ∧ w.grownBy w' (some b) := by
  have := endD_ok c g b A4 c4 w h hbd u hm hn id hid gs s hgs
  rwa [hv.out] at this
theorem destsCode_hit {c : Cfg} {s : Prt} {us : List Int} {l : List Int} {k : Nat} {d : Int} {v : Int × List Int} (h : v = destsCode c s us (l.drop k)) (hx : l[k]? = some d) (hp : endCode c us d false (sameKind s) ≠ 0) : v = (endCode c us d false (sameKind s), us) := by
  rw [h, drop_cons hx, destsCode, if_neg hp]
theorem destsCode_miss {c : Cfg} {s : Prt} {us : List Int} {l : List Int} {k : Nat} {d : Int} {v : Int × List Int} (h : v = destsCode c s us (l.drop k)) (hx : l[k]? = some d) (hp : endCode c us d false (sameKind s) = 0) : v = destsCode c s (us ++ [d]) (l.drop (k + 1)) := by
  rw [h, drop_cons hx, destsCode, if_pos hp]
theorem destsCode_end {c : Cfg} {s : Prt} {us : List Int} {l : List Int} {v : Int × List Int} (h : v = destsCode c s us (l.drop l.length)) : v = (0, us) := by
  rw [h, List.drop_length, destsCode]
set_option maxRecDepth 100000 in
set_option maxHeartbeats 4000000 in
theorem channel_ok (c : Cfg) (g b : Nat) (A4 : Option Addr) (c4 : Nat) (w : World) (h : ChkAt w w.heap.size g b c A4 c4) (hbd : c.Bd) (u : List Int) (hm : MapIs w Try.prog 38 kU vB b (usedL u)) (hn : u.Nodup) (x : Chn) (hx : x.ok) (hxl : x.dests.length ≤ 1048576) (D : Option Addr) (d : Nat)
    (hD : Rd w w.heap.size 1 D x.dests.length (x.dests.map (Value.int .u16))) :
    Calls Try.prog 37 #[.pointer (some ⟨g, 0, none⟩), .agg #[.int .u16 x.id, .int .u16 x.source, .slice D x.dests.length d]] w fun e w' => e = .returned (.int .i64 (chanCode c u x).1) ∧
      MapIs w' Try.prog 38 kU vB b (usedL (chanCode c u x).2) ∧ w.grownBy w' (some b) := by
  obtain ⟨W0, hW, cb, hb0⟩ := ChBox.new w x D d 55
  have hst : ChSt w W0 g b w.heap.size c A4 c4 x D d u := ⟨h.up hb0, hm.below hb0 h.bl, hn, cb, hD.up hb0, grown_of_below hb0 _⟩
  have HW := Lib.hid hW
  have HS := Lib.hid hst
  have HBD := Lib.hid hbd
  have hsrc := hx.source
  have HDS := Lib.hid hx.dests
  obtain ⟨y0, y1, y2, hz⟩ := cb
  clear h hm hn hD hst hb0 hW hbd hx
  by_cases he : endCode c u x.source true anyPort = 0
  · have HE := Lib.hid he
    have hus := endUsed_0 he
    have hnew := endCode_new he
    clear he
    go_enter Try.func37, Try.ntmps37
    go_upto_region 1 with (fail)
    rw [HW.out]
    go_wp2_with fail
    refine (endS_val c g b A4 c4 _ HS.out.chk HBD.out u HS.out.mp HS.out.nd x.source hsrc 0 HE).mono ?_
    rintro e w2 ⟨rfl, hm2, hg2⟩
    rw [hus] at hm2
    have hst2 := HS.out.step hm2 (nodup_snoc HS.out.nd hnew) hg2
    clear y0 y1 y2 hz hm2 hg2 hus hnew
    go_upto_region 4 with (fail)
    obtain ⟨W3, hW3, pb3, hb3⟩ := PtBox.new w2 (thePort c x.source) 43
    rw [hW3]
    have hst3 := hst2.up hb3
    have hcb := hst3.cb
    obtain ⟨y0, y1, y2, hz⟩ := hcb
    have HS3 := Lib.hid hst3
    have HP3 := Lib.hid pb3
    clear hst2 hst3 hb3 hW3 pb3
    by_cases hd0 : x.dests.length = 0
    · have HV := Lib.hid (show chanCode c u x = (28, u ++ [x.source]) by unfold chanCode; rw [if_pos HE.out, if_pos (List.eq_nil_of_length_eq_zero hd0)])
      have hd0' : ((x.dests.length : Int) == 0) = true := by simp [hd0]
      clear hd0
      go_wp2
      go_ret
      exact ⟨by rw [HV.out]; try rfl, by rw [HV.out]; exact HS3.out.mp, HS3.out.gr⟩
    · have HV := Lib.hid (show chanCode c u x = destsCode c (thePort c x.source) (u ++ [x.source]) (x.dests.drop 0) by unfold chanCode; rw [if_pos HE.out, if_neg (fun e => hd0 (by rw [e]; rfl))]; rfl)
      have hd0' : ((x.dests.length : Int) == 0) = false := by simp; exact fun e => hd0 (by rw [e]; rfl)
      clear hd0
      generalize hs : thePort c x.source = s at HV HP3
      clear hs
      go_wp2
      clear y0 y1 y2 hz
      go_loopw [30] (fun j wr => ∃ (k : Nat) (us : List Int), k ≤ x.dests.length ∧ j = .int .i64 k ∧ Hid (chanCode c u x = destsCode c s us (x.dests.drop k)) ∧ Hid (ChSt w wr g b w.heap.size c A4 c4 x D d us) ∧ Hid (PtBox wr w2.heap.size s)) (fun j _ => x.dests.length - (intOf j).toNat)
      case atStart => exact ⟨0, _, Nat.zero_le _, rfl, HV, HS3, HP3⟩
      case round =>
        obtain ⟨k, us, hk, rfl, hrest, HSr, HPr⟩ := hrel
        by_cases hlt : k < x.dests.length
        · obtain ⟨dd, hdd⟩ := get_lt hlt
          obtain ⟨bd, od, rfl, hbd, gd⟩ := int_at HSr.out.rd hdd
          have hdu := HDS.out dd (List.mem_of_getElem? hdd)
          have HDD := Lib.hid hdd
          clear hdd
          by_cases he : endCode c us dd false (sameKind s) = 0
          · have HE2 := Lib.hid he
            have hus := endUsed_0 he
            have hnew := endCode_new he
            have HN := Lib.hid (destsCode_miss hrest.out HDD.out he)
            clear he
            go_wp2_with fail
            refine (endD_val c g b A4 c4 _ HSr.out.chk HBD.out us HSr.out.mp HSr.out.nd dd hdu w2.heap.size s HPr.out 0 HE2).mono ?_
            rintro e w4 ⟨rfl, hm4, hg4⟩
            rw [hus] at hm4
            have HS4 := Lib.hid (HSr.out.step hm4 (nodup_snoc HSr.out.nd hnew) hg4)
            have HP4 := Lib.hid (HPr.out.grown hg4 HSr.out.ne)
            clear hm4 hg4 hus hnew
            go_wp2
            go_roundw
            case rel => exact ⟨k + 1, us ++ [dd], by omega, by go_num, HN, Lib.hid (HS4.out.up (below_one _ _)), Lib.hid (HP4.out.up (below_one _ _))⟩
            case measure => simp [intOf]; omega
          · have HE2 := Lib.hid (destsCode_hit hrest.out HDD.out he)
            have hus := endUsed_ne he
            have hne : (endCode c us dd false (sameKind s) != 0) = true := by simpa using he
            clear he
            go_wp2_with fail
            refine (endD_ok c g b A4 c4 _ HSr.out.chk HBD.out us HSr.out.mp HSr.out.nd dd hdu w2.heap.size s HPr.out).mono ?_
            rintro e w4 ⟨rfl, hm4, hg4⟩
            rw [hus] at hm4
            have HS4 := Lib.hid (HSr.out.step hm4 HSr.out.nd hg4)
            clear hm4 hg4 hus
            go_wp2
            go_ret
            exact ⟨by rw [HE2.out]; try rfl, by rw [HE2.out]; exact (HS4.out.up (below_one _ _)).mp, (HS4.out.up (below_one _ _)).gr⟩
        · obtain rfl : k = x.dests.length := by omega
          have HE2 := Lib.hid (destsCode_end hrest.out)
          go_wp2
          go_ret
          exact ⟨by rw [HE2.out]; try rfl, by rw [HE2.out]; exact HSr.out.mp, HSr.out.gr⟩
  · have HV := Lib.hid (show chanCode c u x = (endCode c u x.source true anyPort, u) by unfold chanCode; rw [if_neg he])
    have hus := endUsed_ne he
    have hne : (endCode c u x.source true anyPort != 0) = true := by simpa using he
    clear he
    go_enter Try.func37, Try.ntmps37
    go_upto_region 1 with (fail)
    rw [HW.out]
    go_wp2_with fail
    refine (endS_ok c g b A4 c4 _ HS.out.chk HBD.out u HS.out.mp HS.out.nd x.source hsrc).mono ?_
    rintro e w2 ⟨rfl, hm2, hg2⟩
    rw [hus] at hm2
    have HS4 := Lib.hid (HS.out.step hm2 HS.out.nd hg2)
    clear y0 y1 y2 hz hm2 hg2 hus
    go_wp2
    go_ret
    exact ⟨by rw [HV.out]; try rfl, by rw [HV.out]; exact (HS4.out.up (below_one _ _)).mp, (HS4.out.up (below_one _ _)).gr⟩
end Go.Proofs.Ytifmcdnaaaphmaa
