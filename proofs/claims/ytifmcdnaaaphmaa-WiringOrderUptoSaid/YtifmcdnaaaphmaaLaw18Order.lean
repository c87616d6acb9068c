/-
  The law WiringOrder, walked.
-/
import Derived.Test.YtifmcdnaaaphmaaLaw18a
import Derived.Test.YtifmcdnaaaphmaaOrdP
import Derived.Test.YtifmcdnaaaphmaaRevG
import Derived.Test.YtifmcdnaaaphmaaRef18f
import Derived.Deep.DeepCutAuto
namespace Go.Proofs.Ytifmcdnaaaphmaa
open Go.RowKit Go.Lib
attribute [local go_sem] ext_cell
/-- where the law stands while it lays the configuration the other way round, in the box g -/
structure OrdSt (w W : World) (g : Nat) (c : Cfg) (A1 A2 A3 A4 A5 : Option Addr) (c1 c2 c3 c4 c5 : Nat) (v4 v5 : Value) (acc : List Chn) (rs : List Value) : Prop where
  st : St w W c A1 A2 A3 A4 A5 c1 c2 c3 c4 c5
  gz : w.heap.size < g
  bk : Blk W g 29 #[.int .u64 c.frame, .slice A1 c.parts.length c1, .slice A2 c.wins.length c2, .slice A3 c.regs.length c3, v4, v5]
  o4 : W.ownsRow (g + 1) 43 6 v4 c.ports.length (c.ports.reverse.flatMap Prt.cells)
  o5 : W.ownsRow (g + 1) 55 3 v5 acc.length rs
  ch : RowsOf (ChnT W) acc rs
section
variable {w W V : World} {g : Nat} {c : Cfg} {A1 A2 A3 A4 A5 : Option Addr} {c1 c2 c3 c4 c5 : Nat} {v4 v5 v' : Value} {acc : List Chn} {rs c0 : List Value} {x : Chn}
theorem OrdSt.later (h : OrdSt w W g c A1 A2 A3 A4 A5 c1 c2 c3 c4 c5 v4 v5 acc rs) (hb : Below W.heap.size W V) : OrdSt w V g c A1 A2 A3 A4 A5 c1 c2 c3 c4 c5 v4 v5 acc rs :=
  ⟨h.st.up hb, h.gz, h.bk.below hb h.bk.lt, own_below h.o4 hb, own_below h.o5 hb, rows_map (fun _ _ hx => hx.below hb) h.ch⟩
theorem OrdSt.app (h : OrdSt w W g c A1 A2 A3 A4 A5 c1 c2 c3 c4 c5 v4 v5 acc rs) (hx : ChnT W x c0) (hown : V.ownsRow (g + 1) 55 3 v' (acc.length + 1) (rs ++ c0)) (hg : W.grownBy V v5.ownBlock) :
    OrdSt w (V.setCell ⟨g, 5, none⟩ v') g c A1 A2 A3 A4 A5 c1 c2 c3 c4 c5 v4 v' (acc ++ [x]) (rs ++ c0) := by
  have ho := Off.of_own h.o5 hg
  have hbk := h.bk.off ho (by decide)
  have hgz := h.gz
  have hlt := h.bk.lt
  have hb : Below (w.heap.size + 1) W V := (Below.refl _ _).grown hg (by omega) (fun k hk => by have := (h.o5.lt k hk).1; omega)
  refine ⟨h.st.keep (hb.setCell (p := ⟨g, 5, none⟩) (by show w.heap.size + 1 ≤ g; omega) _), hgz, by have := hbk.set_ 5 v'; simpa using this,
    own_set (own_off h.o4 ho (by decide)) (p := ⟨g, 5, none⟩) (by show g < _; omega) _,
    by simpa using own_set hown (p := ⟨g, 5, none⟩) (by show g < _; omega) v', ?_⟩
  exact rows_app (rows_map (fun _ _ hx => ChnT.far (ChnT.off hx ho (by decide)) (p := ⟨g, 5, none⟩) hbk (by decide) _) h.ch) (rows_one (ChnT.far (ChnT.off hx ho (by decide)) (p := ⟨g, 5, none⟩) hbk (by decide) _))
theorem OrdSt.start (st : St w W c A1 A2 A3 A4 A5 c1 c2 c3 c4 c5) (gz : w.heap.size < g) (bk : Blk W g 29 #[.int .u64 c.frame, .slice A1 c.parts.length c1, .slice A2 c.wins.length c2, .slice A3 c.regs.length c3, v4, v5])
    (o4 : W.ownsRow (g + 1) 43 6 v4 c.ports.length (c.ports.reverse.flatMap Prt.cells)) : OrdSt w (W.setCell ⟨g, 5, none⟩ (.slice none 0 0)) g c A1 A2 A3 A4 A5 c1 c2 c3 c4 c5 v4 (.slice none 0 0) [] [] :=
  ⟨st.keep ((Below.refl _ _).setCell (p := ⟨g, 5, none⟩) (by show w.heap.size + 1 ≤ g; omega) _), gz, by have := bk.set_ 5 (.slice none 0 0); simpa using this, own_set o4 (p := ⟨g, 5, none⟩) (by show g < _; omega) _, World.ownsRow_nil _ _ _ _, rfl⟩
theorem OrdSt.toR {d4 d5 : Nat} {B4 B5 : Option Addr} (h : OrdSt w W g c A1 A2 A3 A4 A5 c1 c2 c3 c4 c5 (.slice B4 c.ports.length d4) (.slice B5 c.chans.length d5) (c.chans.map revD).reverse rs) :
    CfgR W W.heap.size c.turn A1 A2 A3 B4 B5 c1 c2 c3 d4 d5 := by
  have hn : (c.chans.map revD).reverse.length = c.chans.length := by simp
  have o5 := h.o5
  have o4 := h.o4
  obtain ⟨q4, r4⟩ := own_slice o4
  rw [hn] at o5
  obtain ⟨q5, r5⟩ := own_slice o5
  have R := h.st.R
  have hp : c.turn.ports.length = c.ports.length := by simp [Cfg.turn]
  have hc : c.turn.chans.length = c.chans.length := by simp [Cfg.turn]
  refine ⟨R.parts, R.wins, R.regs, by rw [hp]; exact r4, ⟨rs, rows_chns (rows_map (fun x c hx => ChnT.toC hx) h.ch), by rw [hc]; exact r5⟩, R.cap1, R.cap2, R.cap3, by rw [hp]; exact q4, by rw [hc]; exact q5⟩
end
theorem wPorts_turn (c : Cfg) (A1 A2 A3 A4 A5 : Option Addr) (c1 c2 c3 c4 c5 : Nat) (w : World) (hR : CfgR w w.heap.size c A1 A2 A3 A4 A5 c1 c2 c3 c4 c5) (hs : c.small) (hok : c.ok) (B4 B5 : Option Addr) (d4 d5 : Nat) (hR' : CfgR w w.heap.size c.turn A1 A2 A3 B4 B5 c1 c2 c3 d4 d5) (v : Flt) (hv : Hid (pFlt c.turn = v)) : Calls Try.prog 13 #[cfgV c.frame A1 A2 A3 B4 B5 c.parts.length c.wins.length c.regs.length c.ports.length c.chans.length c1 c2 c3 d4 d5] w fun e w' => e = .returned (fltV v) ∧ Below w.heap.size w w' := by
  have h := wPorts_val c.turn A1 A2 A3 B4 B5 c1 c2 c3 d4 d5 w hR' (Cfg.turn_small hs) (Cfg.turn_ok hok) v hv
  rw [show c.turn.ports.length = c.ports.length by simp [Cfg.turn], show c.turn.chans.length = c.chans.length by simp [Cfg.turn]] at h
  exact h
theorem wChannels_turn (c : Cfg) (A1 A2 A3 A4 A5 : Option Addr) (c1 c2 c3 c4 c5 : Nat) (w : World) (hR : CfgR w w.heap.size c A1 A2 A3 A4 A5 c1 c2 c3 c4 c5) (hs : c.small) (hok : c.ok) (B4 B5 : Option Addr) (d4 d5 : Nat) (hR' : CfgR w w.heap.size c.turn A1 A2 A3 B4 B5 c1 c2 c3 d4 d5) (v : Flt) (hv : Hid (xFlt c.turn = v)) : Calls Try.prog 14 #[cfgV c.frame A1 A2 A3 B4 B5 c.parts.length c.wins.length c.regs.length c.ports.length c.chans.length c1 c2 c3 d4 d5] w fun e w' => e = .returned (fltV v) ∧ Below w.heap.size w w' := by
  have h := wChannels_val c.turn A1 A2 A3 B4 B5 c1 c2 c3 d4 d5 w hR' (Cfg.turn_small hs) (Cfg.turn_ok hok) v hv
  rw [show c.turn.ports.length = c.ports.length by simp [Cfg.turn], show c.turn.chans.length = c.chans.length by simp [Cfg.turn]] at h
  exact h
set_option maxRecDepth 100000 in
set_option maxHeartbeats 8000000 in
theorem wiringOrder_ok (c : Cfg) (A1 A2 A3 A4 A5 : Option Addr) (c1 c2 c3 c4 c5 : Nat) (w : World) (hR : CfgR w w.heap.size c A1 A2 A3 A4 A5 c1 c2 c3 c4 c5) (hs : c.small) (hok : c.ok) : Calls Try.prog 6 #[cfgV c.frame A1 A2 A3 A4 A5 c.parts.length c.wins.length c.regs.length c.ports.length c.chans.length c1 c2 c3 c4 c5] w fun e w' => e = .returned (.bool true) ∧ Below w.heap.size w w' := by
  obtain ⟨W0, hW, st⟩ := St.start_any hR 29
  have HW := Lib.hid hW
  have ST0 := Lib.hid st
  have HOK := Lib.hid hok
  have hbd := hs.bd
  have bt := hbd.t
  have bx := hbd.x
  have HDL := Lib.hid hbd.d
  obtain ⟨ic, hic, hc0, hc1, hc2⟩ := info_parts infoChannel
  obtain ⟨it, hit, ht0, ht1, ht2⟩ := info_parts infoPort
  obtain ⟨iu, hiu, hu0, hu1, hu2⟩ := info_parts info_u16
  obtain ⟨x0, x1, x2, x3, x4, x5, hz⟩ := st.cells
  clear hR hW st hok hbd
  rcases bool_cases (fitsB c) with h1 | h1
  · have H1 := Lib.hid h1
    have hun : uniqueB c = true := by unfold fitsB at h1; simp only [Bool.and_eq_true] at h1; exact h1.2
    have HUN := Lib.hid (unique_parts hun).2.1
    clear h1 hun
    go_enter Try.func6, Try.ntmps6
    go_upto_region 1 with (fail)
    rw [HW.out]
    go_wp2_with fail
    refine (fits_val c _ _ _ _ _ _ _ _ _ _ _ ST0.out.R hs true H1).mono ?_
    rintro e w1 ⟨rfl, hb1⟩
    have ST1 := Lib.hid (ST0.out.up hb1)
    clear hb1 x0 x1 x2 x3 x4 x5 hz
    obtain ⟨x0, x1, x2, x3, x4, x5, hz⟩ := ST1.out.cells
    go_upto_region 4 with (fail)
    have bk := Blk.new w1 29 #[.int .u64 c.frame, .slice A1 c.parts.length c1, .slice A2 c.wins.length c2, .slice A3 c.regs.length c3, .slice A4 c.ports.length c4, .slice A5 c.chans.length c5]
    have hbn := below_one w1 (.cells #[.int .u64 c.frame, .slice A1 c.parts.length c1, .slice A2 c.wins.length c2, .slice A3 c.regs.length c3, .slice A4 c.ports.length c4, .slice A5 c.chans.length c5] 29)
    have hz2 : (w1.alloc (.cells #[.int .u64 c.frame, .slice A1 c.parts.length c1, .slice A2 c.wins.length c2, .slice A3 c.regs.length c3, .slice A4 c.ports.length c4, .slice A5 c.chans.length c5] 29)).heap.size = w1.heap.size + 1 := by simp
    generalize World.alloc w1 _ = W2 at bk hbn hz2 ⊢
    have ST2 := Lib.hid (ST1.out.up hbn)
    have BK := Lib.hid bk
    have HZ2 := Lib.hid hz2
    have HO := Lib.hid (World.ownsRow_made (base := W2.heap.size) (e := 43) (size := 6) W2 #[] 0 (Nat.le_refl _) (Nat.zero_le _) rfl)
    clear hbn hz2 bk x0 x1 x2 x3 x4 x5 hz
    obtain ⟨x0, x1, x2, x3, x4, x5, hz⟩ := ST2.out.cells
    go_upto_region 5 with (at_builtin; go_loud (refine wpList_append_rd _ rfl (.tmp 15) (.tmp 17) _ rfl W2.heap.size 43 it (.agg #[.int .u16 0, .int .u16 0, .string .empty, .bool false, .bool false, .int .u32 0]) 6 32 Try.underlying26 hit ht0 ht1 ht2 rfl (by decide) _ _ _ rfl HO.out (W2.alloc (.cells #[] 43)).heap.size A4 c.ports.length c4 _ rfl (ST2.out.R.ports.up (below_one _ _)) (onePrt _) (by unfold maxLen; omega) (by omega) (by simp) ?_); intro nv4 V4 hown hg; have hb3 := below_own (below_one W2 (.cells #[] 43)) hg HO.out (by simp); have hbk := BK.out.below hb3 (by have := BK.out.lt; omega); have cc := hbk.cell 4; have ff := hbk.frozen 4; simp at cc; rw [Nat.zero_add, List.nil_append] at hown; obtain ⟨B4, d4, rfl, _⟩ := own_form hown)
    have hgz : w.heap.size < w1.heap.size := ST1.out.z
    have bk4 := hbk.set_ 4 (.slice B4 c.ports.length d4)
    simp at bk4
    have st4 := (ST2.out.up hb3).keep ((Below.refl (w.heap.size + 1) V4).setCell (p := ⟨w1.heap.size, 4, none⟩) (by show w.heap.size + 1 ≤ w1.heap.size; omega) (.slice B4 c.ports.length d4))
    have o4 := own_set hown (p := ⟨w1.heap.size, 4, none⟩) (by show w1.heap.size < W2.heap.size; have := HZ2.out; omega) (.slice B4 c.ports.length d4)
    rw [HZ2.out] at o4
    clear hown hg hb3 hbk cc ff x0 x1 x2 x3 x4 x5 hz
    generalize World.setCell V4 _ _ = X4 at bk4 st4 o4 ⊢
    have q4 := bk4.cell 4
    simp at q4
    have BK4 := Lib.hid bk4
    have ST4 := Lib.hid st4
    have O4 := Lib.hid o4
    clear bk4 st4 o4
    go_upto_region 6 with (go_at_call 21; refine (revPrt_own O4.out (by omega)).mono ?_; rintro e X5 ⟨rfl, o5, off5, hb5⟩)
    have bk5 := BK4.out.off off5 (by decide)
    have st5 := ST4.out.keep (hb5.mono (by omega))
    have q5 := bk5.cell 5
    have f5 := bk5.frozen 5
    simp at q5
    have HS6 := Lib.hid (OrdSt.start st5 hgz bk5 o5)
    clear q4 bk5 st5 o5 off5 hb5
    go_upto_region 7 with (fail)
    clear q5 f5
    generalize World.setCell X5 _ _ = X6 at HS6 ⊢
    obtain ⟨x0, x1, x2, x3, x4, x5, hz⟩ := HS6.out.st.cells
    go_wp2
    clear x0 x1 x2 x3 x4 x5 hz
    have HGZ := Lib.hid hgz
    clear hgz
    generalize w1.heap.size = g at *
    go_loopw [4] (fun i wr => ∃ (k : Nat) (j : Int) (v5 : Value) (rs : List Value), i = .int .i64 j ∧ -1 ≤ j ∧ j < (c.chans.length : Int) ∧ Hid ((k : Int) = j + 1) ∧ Hid (OrdSt w wr g c A1 A2 A3 A4 A5 c1 c2 c3 c4 c5 (.slice B4 c.ports.length d4) v5 ((c.chans.drop k).map revD).reverse rs)) (fun i _ => (intOf i + 1).toNat)
    case atStart => exact ⟨c.chans.length, (c.chans.length : Int) - 1, _, _, rfl, by omega, by omega, Lib.hid (by omega), by rw [List.drop_length]; exact HS6⟩
    case round =>
      obtain ⟨k, j, v5, rs, rfl, hj0, hj1, HK, HS⟩ := hrel
      by_cases hj : 0 ≤ j
      · obtain ⟨m, rfl⟩ : ∃ m : Nat, j = (m : Int) := ⟨j.toNat, by omega⟩
        obtain rfl : k = m + 1 := by have := HK.out; omega
        obtain ⟨x, hx⟩ := get_lt (l := c.chans) (k := m) (by omega)
        have hxl := HDL.out x (List.mem_of_getElem? hx)
        obtain ⟨x0, x1, x2, x3, x4, x5, hz⟩ := HS.out.st.cells
        obtain ⟨cs, hC, hr⟩ := HS.out.st.R.chans
        obtain ⟨b, o, rfl, hb, g0, g1, D, d, g2, hd1, hd2, hD⟩ := chn_at hC hr hx
        have HX := Lib.hid hx
        have HD := Lib.hid hD
        clear hx hC hr hD
        go_upto_region 11 with (fail)
        have bx := Blk.new wr 55 #[.int .u16 x.id, .int .u16 x.source, .slice D x.dests.length d]
        have hbn := below_one wr (.cells #[.int .u16 x.id, .int .u16 x.source, .slice D x.dests.length d] 55)
        have hz2 : (wr.alloc (.cells #[.int .u16 x.id, .int .u16 x.source, .slice D x.dests.length d] 55)).heap.size = wr.heap.size + 1 := by simp
        generalize World.alloc wr _ = Wa at bx hbn hz2 ⊢
        have HBN := Lib.hid hbn
        have BX := Lib.hid bx
        have HZA := Lib.hid hz2
        have HDa := Lib.hid (HD.out.up hbn)
        have HOa := Lib.hid (World.ownsRow_made (base := Wa.heap.size) (e := 38) (size := 1) Wa #[] 0 (Nat.le_refl _) (Nat.zero_le _) rfl)
        have p2 := bx.cell 2
        simp at p2
        have hlt := bx.lt
        clear g0 g1 g2 hb x0 x1 x2 x3 x4 x5 hz bx hbn hz2
        go_upto_region 12 with (at_builtin; go_loud (refine wpList_append_rd _ rfl (.tmp 37) (.tmp 39) _ rfl Wa.heap.size 38 iu (.int .u16 0) 1 2 Try.underlying53 hiu hu0 hu1 hu2 rfl (by decide) _ 0 [] rfl HOa.out (Wa.alloc (.cells #[] 38)).heap.size D x.dests.length d _ rfl (HDa.out.up (below_one _ _)) (ints_oneCell .u16 x.dests) (by unfold maxLen; omega) (by omega) (by simp) ?_); intro nv Va hown hg; have hb3 := below_own (below_one Wa (.cells #[] 38)) hg HOa.out (by simp); have hbk := BX.out.below hb3 hlt; have cc := hbk.cell 2; have ff := hbk.frozen 2; simp at cc; rw [Nat.zero_add, List.nil_append] at hown; obtain ⟨nD, nd, rfl, _⟩ := own_form hown)
        have bx4 := hbk.set_ 2 (.slice nD x.dests.length nd)
        simp at bx4
        have o4 := own_set hown (p := ⟨wr.heap.size, 2, none⟩) (by show wr.heap.size < Wa.heap.size; exact hlt) (.slice nD x.dests.length nd)
        have hbw : Below wr.heap.size wr (Va.setCell ⟨wr.heap.size, 2, none⟩ (.slice nD x.dests.length nd)) := (HBN.out.trans (hb3.mono HBN.out.size)).setCell (Nat.le_refl _) _
        clear hown hg hb3 hbk cc ff p2
        generalize World.setCell Va _ _ = Vb at bx4 o4 hbw ⊢
        have p2 := bx4.cell 2
        simp at p2
        have BX4 := Lib.hid bx4
        have O4b := Lib.hid o4
        have HBW := Lib.hid hbw
        have HLT := Lib.hid hlt
        clear bx4 o4 hbw hlt
        go_upto_region 13 with (go_at_call 22; refine (rev16_own O4b.out (by omega)).mono ?_; rintro e Vc ⟨rfl, o5, hg5⟩)
        have bx5 := BX4.out.off (Off.of_own O4b.out hg5) (by decide)
        have hb5 := below_own (B := wr.heap.size) HBW.out hg5 (own_less O4b.out (by have := HLT.out; omega)) (by have := HBW.out.size; omega)
        have s5 := HS.out.later hb5
        obtain ⟨p0, p1, p2'⟩ : Vc.cell? ⟨wr.heap.size, 0, none⟩ = some (.int .u16 x.id) ∧ Vc.cell? ⟨wr.heap.size, 1, none⟩ = some (.int .u16 x.source) ∧ Vc.cell? ⟨wr.heap.size, 2, none⟩ = some (.slice nD x.dests.length nd) := by
          refine ⟨?_, ?_, ?_⟩
          · have := bx5.cell 0; simpa using this
          · have := bx5.cell 1; simpa using this
          · have := bx5.cell 2; simpa using this
        have q5 := s5.bk.cell 5
        simp at q5
        have hn := Blk.new Vc 55 #[.int .u16 x.id, .int .u16 x.source, .slice nD x.dests.length nd]
        have hbn := below_one Vc (.cells #[.int .u16 x.id, .int .u16 x.source, .slice nD x.dests.length nd] 55)
        have HN := Lib.hid hn
        have ST := Lib.hid (s5.later hbn)
        have HV := Lib.hid (own_below o5 hbn)
        clear hn hbn bx5 s5 hb5 hg5 p2
        have HN5 := Lib.hid (show (((c.chans.drop (m + 1)).map revD).reverse).length = c.chans.length - (m + 1) by simp)
        have ho5 := ST.out.o5
        rw [HN5.out] at ho5
        have HO5 := Lib.hid ho5
        clear ho5
        have hal : c.chans.length - (m + 1) ≤ 1048576 := by omega
        go_upto_region 9 with (at_builtin; go_loud (refine wpList_append_rd _ rfl (.tmp 46) (.tmp 48) _ rfl (g + 1) 55 ic (.agg #[.int .u16 0, .int .u16 0, .slice none 0 0]) 3 32 Try.underlying27 hic hc0 hc1 hc2 rfl (by decide) _ _ _ rfl HO5.out (Vc.heap.size + 1) (some ⟨Vc.heap.size, 0, none⟩) 1 1 [.int .u16 x.id, .int .u16 x.source, .slice nD x.dests.length nd] rfl ⟨rfl, fun _ => ⟨_, _, rfl, Nat.lt_succ_self _, fun j u hu => (HN.out.cell _).trans (by simpa using hu)⟩⟩ (by simp [Value.oneCell']) (by unfold maxLen; omega) (by omega) (by have := ST.out.bk.lt; omega) ?_); intro nv V5 hown hg; obtain ⟨nA5, nc5, rfl, _⟩ := own_form hown; have hout := ST.out.bk.off (Off.of_own HO5.out hg) (by decide); have cc := hout.cell 5; have ff := hout.frozen 5; simp at cc)
        have st := ST.out.app (x := revD x) ⟨_, rfl, by have := own_base0 HV.out; simpa [revD] using this⟩ (by rw [HN5.out]; exact hown) hg
        clear hown hg hout cc ff q5 p0 p1 p2'
        generalize World.setCell V5 _ _ = W5 at st ⊢
        have STN := Lib.hid st
        clear st
        go_wp2
        go_roundw
        case rel => exact ⟨m, (m : Int) - 1, _, _, by go_num, by omega, by omega, Lib.hid (by omega), Lib.hid (by rw [drop_cons HX.out, List.map_cons, List.reverse_cons]; exact STN.out)⟩
        case measure => first | (simp [intOf]; done) | (simp [intOf]; omega)
      · obtain rfl : j = -1 := by omega
        obtain rfl : k = 0 := by have := HK.out; omega
        rw [List.drop_zero] at HS
        have o5 := HS.out.o5
        have hn : (c.chans.map revD).reverse.length = c.chans.length := by simp
        rw [hn] at o5
        obtain ⟨B5, d5, rfl, _⟩ := own_form o5
        clear o5 hn
        obtain ⟨x0, x1, x2, x3, x4, x5, hz⟩ := HS.out.st.cells
        obtain ⟨ec, i, hp⟩ : ∃ ec i, portBad c = (ec, i) := ⟨_, _, rfl⟩
        obtain ⟨f, k, hx⟩ : ∃ f k, rChanBad c = (f, k) := ⟨_, _, rfl⟩
        have HP := Lib.hid hp
        have HX := Lib.hid hx
        have hpt := turn_ports hp
        have hxt := turn_chans HUN.out hx
        have HSM := Lib.hid hs
        clear hp hx hj0 hj1 hj HK hs
        go_wp2_with fail
        refine (rPorts18_val c _ _ _ _ _ _ _ _ _ _ _ HS.out.st.R HSM.out _ _ HP).mono ?_
        rintro e0 u1 ⟨rfl, hb1⟩
        have HS1 := Lib.hid (HS.out.later hb1)
        clear hb1 x0 x1 x2 x3 x4 x5 hz
        obtain ⟨x0, x1, x2, x3, x4, x5, hz⟩ := HS1.out.st.cells
        go_wp2_with fail
        refine (rChannels18_val c _ _ _ _ _ _ _ _ _ _ _ HS1.out.st.R HSM.out _ _ HX).mono ?_
        rintro e0 u2 ⟨rfl, hb2⟩
        have HS2 := Lib.hid (HS1.out.later hb2)
        clear hb2 x0 x1 x2 x3 x4 x5 hz
        go_wp2_with fail
        refine (alive_ok _).mono ?_
        rintro e0 u3 ⟨rfl, hb3⟩
        have HS3 := Lib.hid (HS2.out.later hb3)
        clear hb3
        obtain ⟨q0, q1, q2, q3, q4, q5⟩ : u3.cell? ⟨g, 0, none⟩ = some (.int .u64 c.frame) ∧ u3.cell? ⟨g, 1, none⟩ = some (.slice A1 c.parts.length c1) ∧ u3.cell? ⟨g, 2, none⟩ = some (.slice A2 c.wins.length c2) ∧ u3.cell? ⟨g, 3, none⟩ = some (.slice A3 c.regs.length c3) ∧ u3.cell? ⟨g, 4, none⟩ = some (.slice B4 c.ports.length d4) ∧ u3.cell? ⟨g, 5, none⟩ = some (.slice B5 c.chans.length d5) := by
          refine ⟨?_, ?_, ?_, ?_, ?_, ?_⟩
          · have := HS3.out.bk.cell 0; simpa using this
          · have := HS3.out.bk.cell 1; simpa using this
          · have := HS3.out.bk.cell 2; simpa using this
          · have := HS3.out.bk.cell 3; simpa using this
          · have := HS3.out.bk.cell 4; simpa using this
          · have := HS3.out.bk.cell 5; simpa using this
        rcases hpt with ⟨rfl, hp⟩ | ⟨hec, e', i', hp⟩ <;> rcases hxt with ⟨rfl, hx⟩ | ⟨hfc, f', k', hx⟩
        all_goals
          have HPF := Lib.hid hp
          have HXF := Lib.hid hx
          try have dec1 : decide (ec = 0) = false := decide_eq_false hec
          try have dec2 : decide (f = 0) = false := decide_eq_false hfc
          try have dec3 : (ec == 0) = false := by simpa using hec
          try have dec4 : (f == 0) = false := by simpa using hfc
          try clear hec
          try clear hfc
          clear hp hx
          go_wp2_with fail
          refine (wPorts_turn c _ _ _ _ _ _ _ _ _ _ _ HS3.out.st.R HSM.out HOK.out B4 B5 d4 d5 HS3.out.toR _ HPF).mono ?_
          rintro e0 u4 ⟨rfl, hb4⟩
          have HS4 := Lib.hid (HS3.out.later hb4)
          clear hb4 q0 q1 q2 q3 q4 q5
          obtain ⟨q0, q1, q2, q3, q4, q5⟩ : u4.cell? ⟨g, 0, none⟩ = some (.int .u64 c.frame) ∧ u4.cell? ⟨g, 1, none⟩ = some (.slice A1 c.parts.length c1) ∧ u4.cell? ⟨g, 2, none⟩ = some (.slice A2 c.wins.length c2) ∧ u4.cell? ⟨g, 3, none⟩ = some (.slice A3 c.regs.length c3) ∧ u4.cell? ⟨g, 4, none⟩ = some (.slice B4 c.ports.length d4) ∧ u4.cell? ⟨g, 5, none⟩ = some (.slice B5 c.chans.length d5) := by
            refine ⟨?_, ?_, ?_, ?_, ?_, ?_⟩
            · have := HS4.out.bk.cell 0; simpa using this
            · have := HS4.out.bk.cell 1; simpa using this
            · have := HS4.out.bk.cell 2; simpa using this
            · have := HS4.out.bk.cell 3; simpa using this
            · have := HS4.out.bk.cell 4; simpa using this
            · have := HS4.out.bk.cell 5; simpa using this
          go_wp2_with fail
          refine (wChannels_turn c _ _ _ _ _ _ _ _ _ _ _ HS4.out.st.R HSM.out HOK.out B4 B5 d4 d5 HS4.out.toR _ HXF).mono ?_
          rintro e0 u5 ⟨rfl, hb5⟩
          have HZ := Lib.hid (HS4.out.later hb5).st.bel
          clear hb5 q0 q1 q2 q3 q4 q5
          go_wp2
          go_ret
          exact ⟨rfl, HZ.out⟩
  · have H1 := Lib.hid h1
    clear h1
    go_enter Try.func6, Try.ntmps6
    go_upto_region 1 with (fail)
    rw [HW.out]
    go_wp2_with fail
    refine (fits_val c _ _ _ _ _ _ _ _ _ _ _ ST0.out.R hs false H1).mono ?_
    rintro e w1 ⟨rfl, hb1⟩
    have HB1 := Lib.hid (ST0.out.up hb1).bel
    clear hb1 x0 x1 x2 x3 x4 x5 hz
    go_wp2_with fail
    refine (alive_ok _).mono ?_
    rintro e w2 ⟨rfl, hb2⟩
    have HZ := Lib.hid (Below.then_ HB1.out hb2)
    clear hb2
    go_wp2
    go_ret
    exact ⟨rfl, HZ.out⟩
end Go.Proofs.Ytifmcdnaaaphmaa
