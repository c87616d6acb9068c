/-
  What Flow of package wiring returns, walked.
-/
import Derived.Test.YtifmcdnaaaphmaaFlow
import Derived.Test.YtifmcdnaaaphmaaMatW
namespace Go.Proofs.Ytifmcdnaaaphmaa
open Go.RowKit Go.Lib
open Go.Maps (Keyed)
attribute [local go_sem] ext_cell
theorem wfI {n : Int} (h0 : 0 ≤ n) (h1 : n ≤ 1048576) : (Lit.int .i64 n).wf = true := by
  have e1 : IntKind.min .i64 = -9223372036854775808 := by decide
  have e2 : IntKind.max .i64 = 9223372036854775807 := by decide
  show (decide (IntKind.min .i64 ≤ n) && decide (n ≤ IntKind.max .i64)) = true
  rw [e1, e2, decide_eq_true (by omega), decide_eq_true (by omega)]; rfl
theorem snoc_cases (l : List Int) : l = [] ∨ ∃ t x, l = t ++ [x] := by
  rcases List.eq_nil_or_concat l with h | ⟨t, x, h⟩
  · exact .inl h
  · exact .inr ⟨t, x, by simpa using h⟩
theorem usedL_len (u : List Int) : (usedL u).length = u.length := by simp [usedL]
def lenV : Value → Nat
  | .slice _ n _ => n
  | _ => 0
def mapLen (w : World) (b : Nat) : Nat := match w.heap[b]? with
  | some (.map en _) => en.size
  | _ => 0
theorem MapIs.mapLen {α β : Type} {w : World} {P : Program} {K : TypeId} {key : α → Value} {val : β → Value} {b : Nat} {es : List (α × β)} (h : MapIs w P K key val b es) : mapLen w b = es.length := by
  obtain ⟨en, clock, hh, hes, _⟩ := h
  have := congrArg List.length hes
  unfold Go.Proofs.Ytifmcdnaaaphmaa.mapLen
  rw [hh]
  simpa using this
theorem own_none {w : World} {base : Nat} {e : TypeId} {size n cap : Nat} {xs : List Value} (h : w.ownsRow base e size (.slice none n cap) n xs) : n = 0 := by
  rcases h.2 with ⟨_, h⟩ | ⟨g, _, _, e1, _⟩
  · exact h
  · cases e1
theorem row_len {c : Cfg} {i : Nat} {l : List Int} (h : (matRows c)[i]? = some l) : l.length ≤ c.parts.length := by
  have hi : i < c.parts.length := by have := (List.getElem?_eq_some_iff.1 h).1; rwa [show (matRows c).length = c.parts.length from matTo_len c _] at this
  unfold matRows matTo at h
  rw [List.getElem?_map, List.getElem?_range hi] at h
  simp only [Option.map_some] at h
  injection h with h
  rw [← h]; exact rowTo_len _ _ _
theorem matrix_ok (c : Cfg) (A1 A2 A3 A4 A5 : Option Addr) (c1 c2 c3 c4 c5 : Nat) (w : World) (hR : CfgR w w.heap.size c A1 A2 A3 A4 A5 c1 c2 c3 c4 c5) (hs : c.small) (hok : c.ok) (hr : rightB c = true) : Calls Try.prog 23 #[cfgV c.frame A1 A2 A3 A4 A5 c.parts.length c.wins.length c.regs.length c.ports.length c.chans.length c1 c2 c3 c4 c5] w fun e w' => ∃ v, e = .returned v ∧ MatO w' w.heap.size v (matRows c) ∧ Below w.heap.size w w' := by
  have h := matrixE_ok c A1 A2 A3 A4 A5 c1 c2 c3 c4 c5 w hR hs hok (right_wired hr) (right_owned hr)
  rwa [rows_agree (unique_parts (right_parts hr).1).1 (right_owned hr)] at h
set_option maxRecDepth 100000 in
set_option maxHeartbeats 8000000 in
theorem flow_ok (c : Cfg) (A1 A2 A3 A4 A5 : Option Addr) (c1 c2 c3 c4 c5 : Nat) (w : World) (hR : CfgR w w.heap.size c A1 A2 A3 A4 A5 c1 c2 c3 c4 c5) (hs : c.small) (hok : c.ok) (hr : rightB c = true) (f t : Int) (hf : wU16 f) (ht : wU16 t) : Calls Try.prog 20 #[cfgV c.frame A1 A2 A3 A4 A5 c.parts.length c.wins.length c.regs.length c.ports.length c.chans.length c1 c2 c3 c4 c5, .int .u16 f, .int .u16 t] w fun e w' => e = .returned (.bool (flowB c f t)) ∧ Below w.heap.size w w' := by
  obtain ⟨W0, hW, st⟩ := St.start_any hR 29
  have HW := Lib.hid hW
  have ST0 := Lib.hid st
  have bp := hs.bd.p
  have hmm := @run_makeMap Try.prog
  obtain ⟨i0, ji, jz0, jz1, jz2⟩ := info_parts info_int
  obtain ⟨x0, x1, x2, x3, x4, x5, hz⟩ := st.cells
  have HOK := Lib.hid hok
  have HRT := Lib.hid hr
  clear hR hW st hok hr
  rcases idx_cases (fun x => x.id == f) c.parts with ⟨hf1, _⟩ | ⟨k1, p1, hf1, hk1, _⟩
  · have HF := Lib.hid hf1
    have HV := Lib.hid (flowB_no1 (t := t) hf1)
    clear hf1
    generalize hvt : idx (fun x => x.id == t) c.parts = vt
    have HT := Lib.hid hvt
    clear hvt
    go_enter Try.func20, Try.ntmps20
    go_wp2
    rw [HW.out]
    go_step3
    go_wp2_with fail
    refine (new_ok c _ _ _ _ _ _ _ _ _ _ _ ST0.out.R hs HOK.out).mono ?_
    rintro e w1 ⟨g, rfl, _, hI, hb1⟩
    go_wp2_with fail
    refine (iPartition_val c g f _ hI hf (-1) HF).mono ?_
    rintro e w2 ⟨rfl, hb2⟩
    go_wp2_with fail
    refine (iPartition_val c g t _ (hI.up hb2) ht vt HT).mono ?_
    rintro e w3 ⟨rfl, hb3⟩
    have HZ := Lib.hid (((ST0.out.up hb1).up hb2).up hb3).bel
    clear hb1 hb2 hb3 hI x0 x1 x2 x3 x4 x5 hz hmm
    go_wp2
    try rw [Exit.noGoto_ret]
    go_ret
    exact ⟨ret_bool HV.out.symm, HZ.out⟩
  · rcases idx_cases (fun x => x.id == t) c.parts with ⟨ht1, _⟩ | ⟨k2, p2, ht1, hk2, _⟩
    · have HF := Lib.hid hf1
      have HT := Lib.hid ht1
      have HV := Lib.hid (flowB_no2 (f := f) ht1)
      have mneg : decide ((k1 : Int) < 0) = false := decide_eq_false (by omega)
      clear hf1 ht1
      go_enter Try.func20, Try.ntmps20
      go_wp2
      rw [HW.out]
      go_step3
      go_wp2_with fail
      refine (new_ok c _ _ _ _ _ _ _ _ _ _ _ ST0.out.R hs HOK.out).mono ?_
      rintro e w1 ⟨g, rfl, _, hI, hb1⟩
      go_wp2_with fail
      refine (iPartition_val c g f _ hI hf k1 HF).mono ?_
      rintro e w2 ⟨rfl, hb2⟩
      go_wp2_with fail
      refine (iPartition_val c g t _ (hI.up hb2) ht (-1) HT).mono ?_
      rintro e w3 ⟨rfl, hb3⟩
      have HZ := Lib.hid (((ST0.out.up hb1).up hb2).up hb3).bel
      clear hb1 hb2 hb3 hI x0 x1 x2 x3 x4 x5 hz hmm
      go_wp2
      try rw [Exit.noGoto_ret]
      go_ret
      exact ⟨ret_bool HV.out.symm, HZ.out⟩
    · have HF := Lib.hid hf1
      have HT := Lib.hid ht1
      have mneg : decide ((k1 : Int) < 0) = false := decide_eq_false (by omega)
      have mneg2 : decide ((k2 : Int) < 0) = false := decide_eq_false (by omega)
      clear hf1 ht1
      go_enter Try.func20, Try.ntmps20
      go_wp2
      rw [HW.out]
      go_step3
      go_wp2_with fail
      refine (new_ok c _ _ _ _ _ _ _ _ _ _ _ ST0.out.R hs HOK.out).mono ?_
      rintro e w1 ⟨g, rfl, _, hI, hb1⟩
      go_wp2_with fail
      refine (iPartition_val c g f _ hI hf k1 HF).mono ?_
      rintro e w2 ⟨rfl, hb2⟩
      go_wp2_with fail
      refine (iPartition_val c g t _ (hI.up hb2) ht k2 HT).mono ?_
      rintro e w3 ⟨rfl, hb3⟩
      have ST3 := Lib.hid (((ST0.out.up hb1).up hb2).up hb3)
      clear hb1 hb2 hb3 hI x0 x1 x2 x3 x4 x5 hz
      obtain ⟨x0, x1, x2, x3, x4, x5, hz⟩ := ST3.out.cells
      go_wp2_with fail
      refine (matrix_ok c _ _ _ _ _ _ _ _ _ _ _ ST3.out.R hs HOK.out HRT.out).mono ?_
      rintro e Wm ⟨v, rfl, ⟨vs, hown, hrs⟩, hb4⟩
      have hml : (matRows c).length = c.parts.length := matTo_len c _
      rw [hml] at hown
      obtain ⟨mA, mc, rfl, _, _, hrd⟩ := own_form hown
      have HMR := Lib.hid hrd
      have HRS := Lib.hid hrs
      have HB4 := Lib.hid (ST3.out.up hb4).bel
      obtain ⟨l1, hl1⟩ := get_lt (l := matRows c) (k := k1) (by omega)
      obtain ⟨v1, hv1⟩ : ∃ v1, vs[k1]? = some v1 := ⟨_, List.getElem?_eq_getElem (by rw [hrs.1]; omega)⟩
      have ho1 := hrs.2 _ _ _ hl1 hv1
      obtain ⟨A1r, c1r, rfl, _, _, hrd1⟩ := own_form ho1
      obtain ⟨mb, mo, rfl, hmb, hmcell⟩ := hrd.2 (by omega)
      have hc1 := hmcell _ _ hv1
      have hnone : A1r = none → l1 = [] := fun e => by subst e; exact List.eq_nil_of_length_eq_zero (own_none ho1)
      have hlen1 := row_len hl1
      have n0 : (0 : Int) ≤ (k1 : Int) := by omega
      have n1 : (k1 : Int) < (c.parts.length : Int) := by omega
      have HL1 := Lib.hid hl1
      have HRD1 := Lib.hid hrd1
      clear hb4 x0 x1 x2 x3 x4 x5 hz hown hrs hrd hl1 hv1 ho1 hrd1 hmcell
      go_wp2_with fail
      refine (cloneI_ok l1 A1r c1r _ (by omega) (HRD1.out.up (below_one _ _)) hnone).mono ?_
      rintro e w6 ⟨v6, rfl, ho6, hb6⟩
      have hm6 : MapIs w6 Try.prog 3 kI vB Wm.heap.size (usedL []) := (MapIs.made Wm Try.prog 3 kI vB).below hb6 (by simp)
      have HO6 := Lib.hid (show w6.ownsRow (Wm.heap.size + 1) 3 1 v6 l1.length (l1.map (Value.int .i64)) by simpa using ho6)
      have HM6 := Lib.hid hm6
      have HB6 := Lib.hid (Below.then_ (below_one Wm (.map #[] 0)) hb6)
      have HI6 := Lib.hid (show FlowInv (matRows c) k1 k2 [] l1 by have := FlowInv.start_ (matRows c) k1 k2; rwa [rowOf_at HL1.out] at this)
      clear ho6 hm6 hb6 hc1 hnone hmm
      go_wp2
      go_step3
      go_wp2
      go_loopw [12] (fun s wr => ∃ (st seen : List Int), Hid (wr.ownsRow (Wm.heap.size + 1) 3 1 s st.length (st.map (Value.int .i64))) ∧ Hid (MapIs wr Try.prog 3 kI vB Wm.heap.size (usedL seen)) ∧ Hid (FlowInv (matRows c) k1 k2 seen st) ∧ Hid (Below Wm.heap.size Wm wr) ∧ st.length ≤ (seen.length + 1) * 1048576) (fun s wr => (c.parts.length - mapLen wr Wm.heap.size) * 2097152 + lenV s)
      case atStart => exact ⟨l1, [], HO6, HM6, HI6, HB6, by simp; omega⟩
      case round =>
        obtain ⟨st, seen, HO, HM, HI, HB, hsl⟩ := hrel
        have hml0 := HM.out.mapLen
        rw [usedL_len] at hml0
        rcases snoc_cases st with rfl | ⟨st', x, rfl⟩
        · obtain ⟨sA, sc, rfl, _⟩ := own_form (n := 0) HO.out
          have HV := Lib.hid (flowB_not HF.out HT.out HI.out.done)
          have HZ := Lib.hid (Below.then_ HB4.out HB.out)
          clear hsl hml0
          go_wp2
          try rw [Exit.noGoto_ret]
          go_ret
          exact ⟨ret_bool HV.out.symm, HZ.out⟩
        · have hso := HO.out
          rw [show (st' ++ [x]).length = st'.length + 1 from by simp] at hso
          obtain ⟨sA, sc, rfl, _, _, hsr⟩ := own_form hso
          have hsr2 := hsr
          rw [show st'.length + 1 = (st' ++ [x]).length from by simp] at hsr2
          have hlast : (st' ++ [x])[st'.length]? = some x := by simp
          obtain ⟨sb, so, rfl, hsb, gs⟩ := int_at hsr2 hlast
          have HOP := Lib.hid (own_prefix hso)
          obtain ⟨kx, rfl, hkx⟩ := path_range (HI.out.st_ x (by simp))
          have hsl2 : st'.length + 1 ≤ (seen.length + 1) * 1048576 := by simpa using hsl
          have hsz : Wm.heap.size < wr.heap.size := HM.out.lt
          have hseen0 := seen_len HI.out.nd (fun y hy => path_range (HI.out.se y hy).1)
          have hroom0 : st'.length + 1 ≤ 2000000000000 := by omega
          clear hso hsr hsr2 hlast hsl
          by_cases hgoal : (kx : Int) = (k2 : Int)
          · have HV := Lib.hid (flowB_yes HF.out HT.out (hgoal ▸ HI.out.st_ (kx : Int) (by simp)))
            have HZ := Lib.hid (Below.then_ HB4.out HB.out)
            clear hml0 hsl2
            go_wp2
            try rw [Exit.noGoto_ret]
            go_ret
            exact ⟨ret_bool HV.out.symm, HZ.out⟩
          · obtain ⟨lit, hlit⟩ := keyI (n := (kx : Int)) (wfI (by omega) (by omega))
            by_cases hmem : (kx : Int) ∈ seen
            · have hgv : getv (usedL seen) (kx : Int) = some true := by rw [usedL_get, if_pos hmem]
              have HI2 := Lib.hid (HI.out.drop hmem)
              rcases HM.out.look lawI Try.underlying73 (zeroBool _) kI_inj (by rw [usedL_keys]; exact HI.out.nd) hlit with ⟨h1, _⟩ | ⟨v, h1, hr⟩
              · rw [hgv] at h1; cases h1
              · obtain rfl : v = true := by rw [hgv] at h1; injection h1 with h1; exact h1.symm
                have hr1 := hr false
                simp only [Bool.false_eq_true, if_false, kI, vB] at hr1
                clear hr h1 hgv hlit hmem
                go_wp2
                go_roundw
                case rel => exact ⟨st', seen, HOP, HM, HI2, HB, by omega⟩
                case measure => simp [lenV]
            · have hgv : getv (usedL seen) (kx : Int) = none := by rw [usedL_get, if_neg hmem]
              have HI2 := Lib.hid (HI.out.push hmem hgoal)
              rcases HM.out.look lawI Try.underlying73 (zeroBool _) kI_inj (by rw [usedL_keys]; exact HI.out.nd) hlit with ⟨h1, hr⟩ | ⟨v, h1, hr⟩
              · have hr1 := hr false
                obtain ⟨w5, hput, hm5, hg5, hs5⟩ := HM.out.put lawI Try.underlying73 hlit kI_inj hgv true
                simp only [Bool.false_eq_true, if_false, kI, vB] at hr1 hput
                have hne : ∀ q, (Value.slice (some ⟨sb, so, none⟩) st'.length sc).ownBlock = some q → q ≠ Wm.heap.size := fun q e => by
                  have := (own_lt HOP.out e).1
                  omega
                have hB5 : Below Wm.heap.size Wm w5 := HB.out.grown hg5 (by omega) (fun k hk => by injection hk with hk; omega)
                have ho5 := own_row HOP.out hg5 (fun q e1 e2 => hne q e1 (by injection e2 with e2; exact e2.symm))
                obtain ⟨lx, hlx⟩ := get_lt (l := matRows c) (k := kx) (by omega)
                obtain ⟨vx, hvx⟩ : ∃ vx, vs[kx]? = some vx := ⟨_, List.getElem?_eq_getElem (by rw [HRS.out.1]; omega)⟩
                obtain ⟨Ax, cx, rfl, _, _, hrx⟩ := own_form (HRS.out.2 _ _ _ hlx hvx)
                obtain ⟨mb', mo', e, _, hmcell⟩ := HMR.out.2 (by omega)
                injection e with e
                injection e with e1 e2
                subst e1 e2
                have hcx := (hB5.cell (p := ⟨mb, mo + kx, none⟩) hmb).trans (hmcell _ _ hvx)
                have hlenx := row_len hlx
                have HRX := Lib.hid (hrx.up hB5)
                have HO5 := Lib.hid ho5
                have HM5 := Lib.hid hm5
                have HB5 := Lib.hid hB5
                have HNE := Lib.hid hne
                have HLX := Lib.hid hlx
                have hseen := seen_len HI2.out.nd (fun y hy => path_range (HI2.out.se y hy).1)
                have kx0 : (0 : Int) ≤ (kx : Int) := by omega
                have kx1 : (kx : Int) < (c.parts.length : Int) := by omega
                have hsz5 : Wm.heap.size < w5.heap.size := by omega
                rw [List.length_append] at hseen
                simp only [List.length_singleton] at hseen
                have hroom : st'.length + lx.length ≤ 2000000000000 := by omega
                clear hr h1 hgv hlit hmem hm5 hg5 ho5 hB5 hne hlx hvx hrx hmcell
                go_upto_region 15 with (fail)
                go_wp2_with (at_builtin; go_loud (refine wpList_append_rd _ rfl (.tmp 60) (.tmp 64) _ rfl (Wm.heap.size + 1) 3 i0 (.int .i64 0) 1 8 Try.underlying50 ji jz0 jz1 jz2 rfl (by decide) _ _ _ rfl HO5.out w5.heap.size Ax lx.length cx _ rfl HRX.out (ints_oneCell .i64 lx) (by unfold maxLen; omega) (by omega) (by first | (simp; done) | (simp; omega) | omega) ?_); intro v' w6 hown hg)
                have HB6' := Lib.hid (below_own HB5.out hg (own_less HO5.out (Nat.le_succ _)) (by omega))
                have hm6 := HM5.out.block (hg.block _ hsz5 (fun e => HNE.out _ e.symm rfl))
                have hml6 := hm6.mapLen
                have e6 : usedL (seen ++ [(kx : Int)]) = usedL seen ++ [((kx : Int), true)] := by simp [usedL]
                rw [← e6, usedL_len, List.length_append, List.length_singleton] at hml6
                have HM6' := Lib.hid (show MapIs w6 Try.prog 3 kI vB Wm.heap.size (usedL (seen ++ [(kx : Int)])) by rw [e6]; exact hm6)
                rw [rowOf_at HLX.out] at HI2
                have HO6' := Lib.hid (show w6.ownsRow (Wm.heap.size + 1) 3 1 v' (st' ++ lx).length ((st' ++ lx).map (Value.int .i64)) by simpa using hown)
                obtain ⟨zA, zc, rfl, _⟩ := own_form HO6'.out
                clear hown hg hm6 e6
                go_roundw
                case rel => exact ⟨st' ++ lx, seen ++ [(kx : Int)], HO6', HM6', HI2, HB6', by simp; omega⟩
                case measure => simp [lenV]; omega
              · rw [hgv] at h1; cases h1
end Go.Proofs.Ytifmcdnaaaphmaa
