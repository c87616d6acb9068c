/-
  The law PackOrder, walked.
-/
import Derived.BigQuiet
import Derived.Test.YtcfoolooemhbeaaGreatLaw11s
import Derived.Test.YtcfoolooemhbeaaGreatPckO
import Derived.Test.YtcfoolooemhbeaaGreatYStP
import Derived.Test.YtcfoolooemhbeaaGreatRevC
import Derived.Test.YtcfoolooemhbeaaGreatBoxC
namespace Go.Proofs.YtcfoolooemhbeaaGreat
open Go.RowKit Go.Shelf Go.Lib Go.Sort
instance revInhWinO : Inhabited Win := ⟨⟨0, 0, 0⟩⟩
theorem revWinO {w : World} {base : Nat} {v : Value} {l : List Win} (h : w.ownsRow base 78 3 v l.length (l.flatMap Win.cells)) (hl : l.length ≤ 4194304) :
    Calls Tryz.prog 27 #[v] w fun r w' => r = .returned (.tuple #[]) ∧ w'.ownsRow base 78 3 v l.length (l.reverse.flatMap Win.cells) ∧ Off 78 w w' ∧ Below base w w' := by
  have h1 : ∀ x, ∀ v ∈ Win.cells x, v.oneCell' = true := fun x v hv => by simp [Win.cells] at hv; rcases hv with rfl | rfl | rfl <;> rfl
  exact rev_own (enc := Win.cells) (fun _ => rfl) (fun blk off cap d w => AnyQ.slices_Reverse Tryz.reverseWin 3 Tryz.isAgg78 Tryz.sizeOf78 Win.cells (fun _ => rfl) h1 blk off cap d w) (fun a cap w => AnyQ.slices_Reverse_empty Tryz.reverseWin a cap w) h hl
theorem YSt.cfgO {B g : Nat} {W3 W : World} {F : Int} {P : List Par} {N : List Win} {R : List Reg} {T : List Prt} {L : List CE} {A1 A2 A3 A4 A5 : Option Addr} {n1 n2 n3 n4 n5 c1 c2 c3 c4 c5 : Nat} {x : Cfg} (h : YSt B g W3 W F (.slice A1 n1 c1) (.slice A2 n2 c2) (.slice A3 n3 c3) (.slice A4 n4 c4) (.slice A5 n5 c5) P N R T L) (hx : x = ⟨F, P, N, R, T, L.map (·.x)⟩) (e1 : n1 = x.parts.length) (e2 : n2 = x.wins.length) (e3 : n3 = x.regs.length) (e4 : n4 = x.ports.length) (e5 : n5 = x.chans.length) : CBx W g x A1 A2 A3 A4 A5 c1 c2 c3 c4 c5 := by
  subst hx
  subst e1 e2 e3 e4 e5
  have hl : (L.map (·.x)).length = L.length := by simp
  obtain ⟨q1, r1⟩ := own_slice h.o1
  obtain ⟨q2, r2⟩ := own_slice h.o2
  obtain ⟨q3, r3⟩ := own_slice h.o3
  obtain ⟨q4, r4⟩ := own_slice h.o4
  have h5 := h.o5
  simp only [hl] at h5
  obtain ⟨q5, r5⟩ := own_slice h5
  have y0 := h.box.cell 0
  have y1 := h.box.cell 1
  have y2 := h.box.cell 2
  have y3 := h.box.cell 3
  have y4 := h.box.cell 4
  have y5 := h.box.cell 5
  simp only [List.getElem?_toArray, List.getElem?_cons_zero, List.getElem?_cons_succ] at y0 y1 y2 y3 y4 y5
  exact ⟨⟨r1, r2, r3, r4, ⟨L.flatMap CE.cells, rows_chns (rows_map (fun _ _ hx => ChnT.toC hx) (ChnsO.rows h.ch.own)), by show Rd W W.heap.size 3 A5 (L.map (·.x)).length _; rw [hl]; exact r5⟩, q1, q2, q3, q4, by show (L.map (·.x)).length ≤ c5 ∧ c5 ≤ maxLen; rw [hl]; exact q5⟩, y0, y1, y2, y3, y4, y5, h.box.lt⟩
theorem YSt.mv5O {B g : Nat} {W3 W V : World} {F : Int} {v1 v2 v3 v4 v5 : Value} {P : List Par} {N : List Win} {R : List Reg} {T : List Prt} {L L' : List CE} (h : YSt B g W3 W F v1 v2 v3 v4 v5 P N R T L) (hb : Below B W V) (hof : Off 89 W V) (ho : V.ownsRow B 89 3 v5 L'.length (L'.flatMap CE.cells)) (hp : L'.Perm L) : YSt B g W3 V F v1 v2 v3 v4 v5 P N R T L' :=
  ⟨h.bel.trans hb, h.hg, Nat.le_trans h.hB hb.size, h.box.off hof (by decide), own_off h.o1 hof (by decide), own_off h.o2 hof (by decide), own_off h.o3 hof (by decide), own_off h.o4 hof (by decide), ho, (h.ch.off hof (by decide)).perm hp⟩
theorem YSt.revDO {B g : Nat} {W3 W V : World} {F : Int} {v1 v2 v3 v4 v5 : Value} {P : List Par} {N : List Win} {R : List Reg} {T : List Prt} {L : List CE} {k : Nat} {e : CE} (h : YSt B g W3 W F v1 v2 v3 v4 v5 P N R T L) (hk : L[k]? = some e) (ho : V.ownsRow B 49 1 e.v e.x.dests.reverse.length (e.x.dests.reverse.map (Value.int .u16))) (hg : W.grownBy V e.v.ownBlock) : YSt B g W3 V F v1 v2 v3 v4 v5 P N R T (L.set k ⟨{ e.x with dests := e.x.dests.reverse }, e.A, e.c⟩) := by
  have ho1 := h.ch.own _ (List.mem_of_getElem? hk)
  have hv : CE.v ⟨{ e.x with dests := e.x.dests.reverse }, e.A, e.c⟩ = e.v := by simp [CE.v]
  refine h.mvD (below_own (Below.refl B W) hg ho1 h.hB) (Off.of_own ho1 hg) (by simp) (set_cells hk (by unfold CE.cells; rw [hv])) (h.ch.turn hk hv ?_ hg)
  rw [hv]
  exact ho
theorem sortD_revO (x : Chn) : sortD { x with dests := x.dests.reverse } = sortD x := by
  unfold sortD
  have hp : (x.dests.reverse.mergeSort (fun a b => decide (a ≤ b))).Perm (x.dests.mergeSort (fun a b => decide (a ≤ b))) := (List.mergeSort_perm _ _).trans ((List.reverse_perm _).trans (List.mergeSort_perm _ _).symm)
  have hs : ∀ l : List Int, (l.mergeSort (fun a b => decide (a ≤ b))).Pairwise (fun a b => a ≤ b) := fun l => (List.pairwise_mergeSort (le := fun a b : Int => decide (a ≤ b)) (fun a b c h1 h2 => by simp at *; omega) (fun a b => by simp; omega) l).imp fun h => by simpa using h
  have he := List.Perm.eq_of_pairwise (fun a b _ _ h1 h2 => Int.le_antisymm h1 h2) (hs _) (hs _) hp
  simp only [he]
set_option maxRecDepth 100000 in
set_option maxHeartbeats 16000000 in
theorem packOrder_ok (c : Cfg) (A1 A2 A3 A4 A5 : Option Addr) (c1 c2 c3 c4 c5 : Nat) (w : World) (hR : CfgR w w.heap.size c A1 A2 A3 A4 A5 c1 c2 c3 c4 c5) (hs : c.small) (hok : c.ok) : Calls Tryz.prog 8 #[cfgV c.frame A1 A2 A3 A4 A5 c.parts.length c.wins.length c.regs.length c.ports.length c.chans.length c1 c2 c3 c4 c5] w fun e w' => e = .returned (.bool true) ∧ Below w.heap.size w w' := by
  obtain ⟨W0, hW, st⟩ := St.start_any hR 29
  have HW := Lib.hid hW
  have ST0 := Lib.hid st
  have HOK := Lib.hid hok
  have HSM := Lib.hid hs
  have HTT := Lib.hid hs.tot
  obtain ⟨x0, x1, x2, x3, x4, x5, hz⟩ := st.cells
  clear hR hW st hok hs
  rcases bool_cases (few c) with h1 | h1
  rotate_left
  · have H1 := Lib.hid h1
    clear h1
    go_enter Tryz.func8, Tryz.ntmps8
    go_upto_region 1 with (fail)
    rw [HW.out]
    go_wp2_with fail
    refine (few_valB c _ _ _ _ _ _ _ _ _ _ _ ST0.out.R HSM.out false H1).mono ?_
    rintro e w1 ⟨rfl, hb1⟩
    have HB1 := Lib.hid (ST0.out.up hb1).bel
    clear hb1 x0 x1 x2 x3 x4 x5 hz
    go_wp2_with fail
    refine (alive11_ok _).mono ?_
    rintro e w2 ⟨rfl, hb2⟩
    have HZ := Lib.hid (Below.then_ HB1.out hb2)
    clear hb2
    go_wp2
    go_ret
    exact ⟨rfl, HZ.out⟩
  · have H1 := Lib.hid h1
    have bx : c.chans.length ≤ 1048576 := HSM.out.bd.x
    have bp : c.parts.length ≤ 1048576 := HSM.out.bd.p
    have bw : c.wins.length ≤ 1048576 := HSM.out.bd.w
    have br : c.regs.length ≤ 1048576 := HSM.out.bd.r
    have bt : c.ports.length ≤ 1048576 := HSM.out.bd.t
    obtain ⟨d, hd⟩ : ∃ d, c.norm = d := ⟨_, rfl⟩
    have HD := Lib.hid hd
    have HDSH := Lib.hid (show Shuf d c by rw [← hd]; exact Shuf.of_norm c)
    have HDO := Lib.hid (HDSH.out.ok HOK.out)
    have HDS := Lib.hid (HDSH.out.small HSM.out)
    clear h1 hd
    go_enter Tryz.func8, Tryz.ntmps8
    go_upto_region 1 with (fail)
    rw [HW.out]
    go_wp2_with fail
    refine (few_valB c _ _ _ _ _ _ _ _ _ _ _ ST0.out.R HSM.out true H1).mono ?_
    rintro e0 w1 ⟨rfl, hb1⟩
    have ST1 := Lib.hid (ST0.out.up hb1)
    clear hb1 x0 x1 x2 x3 x4 x5 hz
    obtain ⟨x0, x1, x2, x3, x4, x5, hz⟩ := ST1.out.cells
    obtain ⟨WA, rfl⟩ : ∃ WA, WA = w1 := ⟨_, rfl⟩
    go_wp2_with fail
    refine (cloneC_ok c A1 A2 A3 A4 A5 c1 c2 c3 c4 c5 WA ST1.out.R HTT.out).mono ?_
    rintro e w2 ⟨Y1, Y2, Y3, Y4, Y5, y1, y2, y3, y4, y5, rfl, hO, hb2⟩
    obtain ⟨W3, L, hW3, hll, hlx, hyst⟩ := YSt.start (W3 := WA) hb2 hb2.size hO
    have HW3 := Lib.hid hW3
    have HY := Lib.hid hyst
    have HLL := Lib.hid hll
    have HLM := Lib.hid hlx
    have CC := Lib.hid ST1.out.cbx
    have HZA := Lib.hid ST1.out.bel
    clear x0 x1 x2 x3 x4 x5 hz hO hb2 hW3 hyst hlx hll
    go_upto_region 4 with (fail)
    rw [HW3.out]
    clear HW3
    generalize w2.heap.size = gx at *
    have yc := HY.out.box.cell 1
    simp at yc
    have hgl := HY.out.box.lt
    go_wp2_with fail
    refine (revPar_own HY.out.o1 (by omega)).mono ?_
    rintro r w4 ⟨rfl, ho, hof, hb⟩
    have Y4 := Lib.hid (YSt.mv1 (P' := c.parts.reverse) HY.out hb hof (by rw [List.length_reverse]; exact ho))
    clear yc hgl ho hof hb HY
    have yc := Y4.out.box.cell 2
    simp at yc
    have hgl := Y4.out.box.lt
    go_wp2_with fail
    refine (revWinO Y4.out.o2 (by omega)).mono ?_
    rintro r w5 ⟨rfl, ho, hof, hb⟩
    have Y5' := Lib.hid (YSt.mv2 (N' := c.wins.reverse) Y4.out hb hof (by rw [List.length_reverse]; exact ho))
    clear yc hgl ho hof hb Y4
    have yc := Y5'.out.box.cell 3
    simp at yc
    have hgl := Y5'.out.box.lt
    go_wp2_with fail
    refine (revReg_own Y5'.out.o3 (by omega)).mono ?_
    rintro r w6 ⟨rfl, ho, hof, hb⟩
    have Y6 := Lib.hid (YSt.mv3 (R' := c.regs.reverse) Y5'.out hb hof (by rw [List.length_reverse]; exact ho))
    clear yc hgl ho hof hb Y5'
    have yc := Y6.out.box.cell 4
    simp at yc
    have hgl := Y6.out.box.lt
    go_wp2_with fail
    refine (revPrt_own Y6.out.o4 (by omega)).mono ?_
    rintro r w7 ⟨rfl, ho, hof, hb⟩
    have Y7 := Lib.hid (YSt.mv4 (T' := c.ports.reverse) Y6.out hb hof (by rw [List.length_reverse]; exact ho))
    clear yc hgl ho hof hb Y6
    have yc := Y7.out.box.cell 5
    simp at yc
    have hgl := Y7.out.box.lt
    go_wp2_with fail
    rw [← HLL.out]
    refine (revChn_own (by have h := Y7.out.o5; rw [← HLL.out] at h; exact h) (by rw [HLL.out]; omega)).mono ?_
    rintro r w8 ⟨rfl, ho, hof, hb⟩
    have Y8 := Lib.hid (YSt.mv5O (L' := L.reverse) (by have h := Y7.out; rw [← HLL.out] at h; exact h) hb hof (by rw [List.length_reverse]; exact ho) (List.reverse_perm L))
    rw [HLL.out] at Y8 ⊢
    clear yc hgl ho hof hb Y7
    have HLS := Lib.hid (show (L.reverse.map (fun e => sortD e.x)).Perm (c.chans.map sortD) by
      rw [← HLM.out, List.map_map]
      exact (List.reverse_perm L).map _)
    have HLR := Lib.hid (show L.reverse.length = c.chans.length by rw [List.length_reverse]; exact HLL.out)
    generalize L.reverse = L0 at *
    have yc := Y8.out.box.cell 5
    simp at yc
    have hgl := Y8.out.box.lt
    go_wp2
    clear yc hgl
    go_loopw [36] (fun i wr => ∃ (j : Nat) (L : List CE), j ≤ c.chans.length ∧ i = .int .i64 j ∧ L.length = c.chans.length ∧ Hid ((L.map (fun e => sortD e.x)).Perm (c.chans.map sortD)) ∧ Hid (YSt WA.heap.size gx WA wr c.frame (.slice Y1 c.parts.length y1) (.slice Y2 c.wins.length y2) (.slice Y3 c.regs.length y3) (.slice Y4 c.ports.length y4) (.slice Y5 c.chans.length y5) c.parts.reverse c.wins.reverse c.regs.reverse c.ports.reverse L)) (fun i _ => c.chans.length - (intOf i).toNat)
    case atStart => exact ⟨0, L0, Nat.zero_le _, rfl, HLR.out, HLS, Y8⟩
    case round =>
      clear Y8 HLS HLR HLL HLM
      obtain ⟨j, L, hj, rfl, hl, HLS, HY⟩ := hrel
      by_cases hlt : j < c.chans.length
      · obtain ⟨e, he⟩ := get_lt (l := L) (k := j) (by omega)
        have HE := Lib.hid he
        have hdl : e.x.dests.length ≤ 4194304 := by
          have h1 : sortD e.x ∈ c.chans.map sortD := HLS.out.mem_iff.1 (List.mem_map.2 ⟨e, List.mem_of_getElem? he, rfl⟩)
          obtain ⟨y, hy, hye⟩ := List.mem_map.1 h1
          have h2 := HSM.out.bd.d y hy
          have h3 : y.dests.length = e.x.dests.length := by have := congrArg (fun z : Chn => z.dests.length) hye; simpa [sortD, List.length_mergeSort] using this
          omega
        obtain ⟨b, cap, hv, _, hbl⟩ := HY.out.o5.form (by omega)
        injection hv with hv1 hv2 hv3
        subst hv1 hv3
        clear hv2
        have HLN := Lib.hid hl
        have g0 := own_at0 CE.cells 3 (fun _ => rfl) HY.out.o5 hl.symm he 0 _ rfl (by decide)
        have g1 := own_at0 CE.cells 3 (fun _ => rfl) HY.out.o5 hl.symm he 1 _ rfl (by decide)
        have g2 := own_at0 CE.cells 3 (fun _ => rfl) HY.out.o5 hl.symm he 2 _ rfl (by decide)
        rw [Nat.add_zero] at g0
        have n0 : (0 : Int) ≤ (j : Int) := by omega
        have n1 : (j : Int) < (c.chans.length : Int) := by omega
        clear he hl
        go_upto_region 12 with (fail)
        have hba := below_one wr (.cells #[.int .u16 e.x.id, .int .u16 e.x.source, .slice e.A e.x.dests.length e.c] 89)
        have HYa := Lib.hid (HY.out.up hba)
        have hbk := Blk.new wr 89 #[.int .u16 e.x.id, .int .u16 e.x.source, .slice e.A e.x.dests.length e.c]
        clear g0 g1 g2 HY hba
        generalize World.alloc wr _ = W5 at *
        generalize wr.heap.size = gd at *
        have hq := hbk.cell 2
        simp at hq
        have hqlt := hbk.lt
        clear hbk
        go_wp2_with fail
        refine (rev16_own (HYa.out.ch.own e (List.mem_of_getElem? HE.out)) hdl).mono ?_
        rintro r w6 ⟨rfl, ho, hg⟩
        have HY6 := Lib.hid (YSt.revDO HYa.out HE.out ho hg)
        have HLS6 := Lib.hid (show ((L.set j ⟨{ e.x with dests := e.x.dests.reverse }, e.A, e.c⟩).map (fun e => sortD e.x)).Perm (c.chans.map sortD) by
          have h9 : (L.set j ⟨{ e.x with dests := e.x.dests.reverse }, e.A, e.c⟩).map (fun e => sortD e.x) = L.map (fun e => sortD e.x) := by
            rw [List.map_set, sortD_revO]
            obtain ⟨hlk, hek⟩ := List.getElem?_eq_some_iff.1 HE.out
            have h : sortD e.x = (L.map (fun e => sortD e.x))[j]'(by simpa using hlk) := by simp [hek]
            rw [h]
            exact List.set_getElem_self _
          rw [h9]
          exact HLS.out)
        clear hq hqlt ho hg
        go_wp2
        go_roundw
        case rel => exact ⟨j + 1, _, by omega, by go_num, by rw [List.length_set]; exact HLN.out, HLS6, HY6⟩
        case measure => simp [intOf]; omega
      · obtain rfl : j = c.chans.length := by omega
        obtain ⟨x, hx⟩ : ∃ x : Cfg, x = ⟨c.frame, c.parts.reverse, c.wins.reverse, c.regs.reverse, c.ports.reverse, L.map (·.x)⟩ := ⟨_, rfl⟩
        have HSH := Lib.hid (show Shuf x c by
          subst hx
          exact ⟨rfl, List.reverse_perm _, List.reverse_perm _, List.reverse_perm _, List.reverse_perm _, by
            show ((L.map (·.x)).map sortD).Perm _
            rw [List.map_map]
            exact HLS.out⟩)
        have BX := Lib.hid (YSt.cfgO HY.out hx (by rw [hx]; simp) (by rw [hx]; simp) (by rw [hx]; simp) (by rw [hx]; simp) (by rw [hx]; simp [hl]))
        have BC := Lib.hid (CC.out.up HY.out.bel)
        have HZ8 := Lib.hid (Below.then_ HZA.out HY.out.bel)
        have HXO := Lib.hid (HSH.out.ok HOK.out)
        have HXS := Lib.hid (HSH.out.small HSM.out)
        have hle1 : c.parts.length = x.parts.length := by rw [hx]; simp
        have hle2 : c.wins.length = x.wins.length := by rw [hx]; simp
        have hle3 : c.regs.length = x.regs.length := by rw [hx]; simp
        have hle4 : c.ports.length = x.ports.length := by rw [hx]; simp
        have hle5 : c.chans.length = x.chans.length := by rw [hx]; simp [hl]
        have HLE := Lib.hid (And.intro hle1 (And.intro hle2 (And.intro hle3 (And.intro hle4 hle5))))
        clear hx HY CC HZA HLS hl hle1 hle2 hle3 hle4 hle5
        obtain ⟨F1, hF1⟩ : ∃ F, packF c = F := ⟨_, rfl⟩
        obtain ⟨F2, hF2⟩ : ∃ F, packF x = F := ⟨_, rfl⟩
        obtain ⟨F3, hF3⟩ : ∃ F, packF d = F := ⟨_, rfl⟩
        have HF1 := Lib.hid hF1
        have HF2 := Lib.hid hF2
        have HF3 := Lib.hid hF3
        have hc2 : F2.code = F1.code := by rw [← hF1, ← hF2]; exact HSH.out.pckO
        have hc3 : F3.code = F1.code := by rw [← hF1, ← hF3]; exact HDSH.out.pckO
        have HL2 := Lib.hid HSH.out.bytO
        have HL3 := Lib.hid HDSH.out.bytO
        clear hF1 hF2 hF3
        obtain ⟨x0, x1, x2, x3, x4, x5⟩ := BC.out.cells
        have hz := BC.out.z
        go_wp2_with fail
        refine (pckPack_ok c _ _ _ _ _ _ _ _ _ _ _ BC.out.R HOK.out HTT.out F1 HF1).mono ?_
        rintro e w9 ⟨v, rfl, ho, hb9⟩
        obtain ⟨D1, e1, rfl, _, _, hr1⟩ := own_form ho
        obtain ⟨k1, m1, q1⟩ := F1
        obtain ⟨k2, m2, q2⟩ := F2
        obtain ⟨k3, m3, q3⟩ := F3
        have hc2 : k2 = k1 := hc2
        have hc3 : k3 = k1 := hc3
        subst hc2 hc3
        have HZ9 := Lib.hid (Below.then_ HZ8.out hb9)
        obtain ⟨W10, hW10, hb10, hk10⟩ : ∃ W, w9.alloc (.cells #[.int .i64 k3, .int .i64 m1, .int .i64 q1] 35) = W ∧ Below w9.heap.size w9 W ∧ Blk W w9.heap.size 35 #[.int .i64 k3, .int .i64 m1, .int .i64 q1] := ⟨_, rfl, below_one _ _, Blk.new _ _ _⟩
        have HW10 := Lib.hid hW10
        have HK10 := Lib.hid hk10
        have BC10 := Lib.hid ((BC.out.up hb9).up hb10)
        have BX10 := Lib.hid ((BX.out.up hb9).up hb10)
        have HZ10 := Lib.hid (Below.then_ HZ9.out hb10)
        have HR10 := Lib.hid (hr1.up hb10)
        clear x0 x1 x2 x3 x4 x5 hz hb9 hb10 hW10 hk10 ho hr1 BC BX HZ8 HZ9 hc2 hc3
        go_upto_region 15 with (fail)
        rw [HW10.out]
        clear HW10
        generalize w9.heap.size = f1 at *
        obtain ⟨x0, x1, x2, x3, x4, x5⟩ := BX10.out.cells
        have hz := BX10.out.z
        go_wp2_with fail
        refine (pckPack_ok x Y1 Y2 Y3 Y4 Y5 y1 y2 y3 y4 y5 W10 BX10.out.R HXO.out HXS.out.tot _ HF2).mono ?_
        rintro e w11 ⟨v, rfl, ho, hb11⟩
        rw [HL2.out] at ho
        obtain ⟨D2, e2, rfl, _, _, hr2⟩ := own_form ho
        obtain ⟨W12, hW12, hb12, hk12⟩ : ∃ W, w11.alloc (.cells #[.int .i64 k3, .int .i64 m2, .int .i64 q2] 35) = W ∧ Below w11.heap.size w11 W ∧ Blk W w11.heap.size 35 #[.int .i64 k3, .int .i64 m2, .int .i64 q2] := ⟨_, rfl, below_one _ _, Blk.new _ _ _⟩
        have HW12 := Lib.hid hW12
        have HK12 := Lib.hid hk12
        have HK1 := Lib.hid ((HK10.out.below hb11 HK10.out.lt).below hb12 (by have := HK10.out.lt; have := hb11.size; omega))
        have BC12 := Lib.hid ((BC10.out.up hb11).up hb12)
        have HZ12 := Lib.hid (Below.then_ (Below.then_ HZ10.out hb11) hb12)
        have HR12 := Lib.hid ((HR10.out.up hb11).up hb12)
        have HS12 := Lib.hid (hr2.up hb12)
        clear x0 x1 x2 x3 x4 x5 hz hb11 hb12 hW12 hk12 ho hr2 BC10 BX10 HZ10 HR10 HK10
        go_upto_region 16 with (fail)
        rw [HW12.out]
        clear HW12
        generalize w11.heap.size = f2 at *
        obtain ⟨x0, x1, x2, x3, x4, x5⟩ := BC12.out.cells
        have hz := BC12.out.z
        go_wp2_with fail
        refine (normalD_ok c d HD _ _ _ _ _ _ _ _ _ _ _ BC12.out.R HTT.out).mono ?_
        rintro e w13 ⟨N1, N2, N3, N4, N5, n1, n2, n3, n4, n5, rfl, hP, hb13⟩
        have HP := Lib.hid hP
        have HK13 := Lib.hid (HK1.out.below hb13 HK1.out.lt)
        have HL13 := Lib.hid (HK12.out.below hb13 HK12.out.lt)
        have HZ13 := Lib.hid (Below.then_ HZ12.out hb13)
        have HR13 := Lib.hid (HR12.out.up hb13)
        have HS13 := Lib.hid (HS12.out.up hb13)
        clear x0 x1 x2 x3 x4 x5 hz hb13 hP BC12 HZ12 HR12 HS12 HK12 HK1
        go_wp2_with fail
        refine (pckPack_ok d N1 N2 N3 N4 N5 n1 n2 n3 n4 n5 w13 HP.out HDO.out HDS.out.tot _ HF3).mono ?_
        rintro e w14 ⟨v, rfl, ho, hb14⟩
        rw [HL3.out] at ho
        obtain ⟨D3, e3, rfl, _, _, hr3⟩ := own_form ho
        obtain ⟨W15, hW15, hb15, hk15⟩ : ∃ W, w14.alloc (.cells #[.int .i64 k3, .int .i64 m3, .int .i64 q3] 35) = W ∧ Below w14.heap.size w14 W ∧ Blk W w14.heap.size 35 #[.int .i64 k3, .int .i64 m3, .int .i64 q3] := ⟨_, rfl, below_one _ _, Blk.new _ _ _⟩
        have HW15 := Lib.hid hW15
        have HM15 := Lib.hid hk15
        have HK15 := Lib.hid ((HK13.out.below hb14 HK13.out.lt).below hb15 (by have := HK13.out.lt; have := hb14.size; omega))
        have HL15 := Lib.hid ((HL13.out.below hb14 HL13.out.lt).below hb15 (by have := HL13.out.lt; have := hb14.size; omega))
        have HZ15 := Lib.hid (Below.then_ (Below.then_ HZ13.out hb14) hb15)
        have HR15 := Lib.hid ((HR13.out.up hb14).up hb15)
        have HS15 := Lib.hid ((HS13.out.up hb14).up hb15)
        have HT15 := Lib.hid (hr3.up hb15)
        have hll : (packB c).length ≤ 400100 := by
          by_cases hpc : (packF c).code = 0
          · rw [packB_good hpc, imgB_len]
            have h1 := offT_lim (n := cntOf c.norm) (fun s a b => by rw [norm_cnt]; exact lim_cnt (by rw [(packF_zero c hpc).2.1]; rfl) s a b) 6 (Nat.le_refl _)
            omega
          · rw [packB_bad hpc]; exact Nat.zero_le _
        clear hb14 hb15 hW15 hk15 ho hr3 HP HZ13 HR13 HS13 HK13 HL13
        generalize packB c = L at *
        obtain ⟨n, hn⟩ : ∃ n, L.length = n := ⟨_, rfl⟩
        have HN := Lib.hid hn
        rw [hn] at hll HR15 HS15 HT15 ⊢
        clear hn
        go_upto_region 17 with (fail)
        rw [HW15.out]
        clear HW15
        generalize w14.heap.size = f3 at *
        go_wp2_with fail
        refine (alive11_ok _).mono ?_
        rintro e w16 ⟨rfl, hb⟩
        have HK16 := Lib.hid (HK15.out.below hb HK15.out.lt)
        have HL16 := Lib.hid (HL15.out.below hb HL15.out.lt)
        have HM16 := Lib.hid (HM15.out.below hb HM15.out.lt)
        have HZ16 := Lib.hid (Below.then_ HZ15.out hb)
        have HR16 := Lib.hid (HR15.out.up hb)
        have HS16 := Lib.hid (HS15.out.up hb)
        have HT16 := Lib.hid (HT15.out.up hb)
        clear hb HK15 HL15 HM15 HZ15 HR15 HS15 HT15
        go_wp2_with fail
        refine (eqByt_ok L L n n HN.out.symm HN.out.symm D1 D2 e1 e2 w16 true (Lib.hid (decide_eq_true rfl)) (by omega) HR16.out HS16.out).mono ?_
        rintro e w17 ⟨rfl, hb⟩
        have HK17 := Lib.hid (HK16.out.below hb HK16.out.lt)
        have HL17 := Lib.hid (HL16.out.below hb HL16.out.lt)
        have HM17 := Lib.hid (HM16.out.below hb HM16.out.lt)
        have HZ17 := Lib.hid (Below.then_ HZ16.out hb)
        have HR17 := Lib.hid (HR16.out.up hb)
        have HT17 := Lib.hid (HT16.out.up hb)
        clear hb HK16 HL16 HM16 HZ16 HR16 HS16 HT16
        go_wp2_with fail
        refine (eqByt_ok L L n n HN.out.symm HN.out.symm D1 D3 e1 e3 w17 true (Lib.hid (decide_eq_true rfl)) (by omega) HR17.out HT17.out).mono ?_
        rintro e w18 ⟨rfl, hb⟩
        have HZ18 := Lib.hid (Below.then_ HZ17.out hb)
        have q0 := (HK17.out.below hb HK17.out.lt).cell 0
        have q1' := (HL17.out.below hb HL17.out.lt).cell 0
        have q2' := (HM17.out.below hb HM17.out.lt).cell 0
        have z0 := (HK17.out.below hb HK17.out.lt).lt
        have z1 := (HL17.out.below hb HL17.out.lt).lt
        have z2 := (HM17.out.below hb HM17.out.lt).lt
        simp at q0 q1' q2'
        clear hb
        go_wp2
        go_ret
        exact ⟨rfl, HZ18.out⟩
end Go.Proofs.YtcfoolooemhbeaaGreat
