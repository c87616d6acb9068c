/-
  Shared of package memory, walked: the partitions that share addresses with one, in order.
-/
import Derived.BigQuiet
import Derived.Test.YtoolcolbmkicpaaGreatShaP
import Derived.Test.YtoolcolbmkicpaaGreatSwpB
import Derived.Test.YtoolcolbmkicpaaGreatKeysU
import Derived.Test.YtoolcolbmkicpaaGreatMemA
import Derived.Test.YtoolcolbmkicpaaGreatRefB
namespace Go.Proofs.YtoolcolbmkicpaaGreat
open Go.RowKit Go.Shelf Go.Sort
attribute [local go_sem] ext_cell
def PJM (w0 : World) (d : List Itm) (W : World) : Prop := ∃ L, PSt w0 W L ∧ PairsOf d L ∧ L.length ≤ d.length * 120
theorem pairsM_cb (w0 : World) (l : List Spn) (hlen : l.length ≤ 120) : Cb 47 #[.pointer (some ⟨w0.heap.size, 0, none⟩)] (w0.heap.size + 1) (itemsOf l) (PJM w0) where
  ent := enters_of Tryz.func47 (by kernel_rfl) rfl
  st d W V h ho := by
    obtain ⟨L, h1, h2, h3⟩ := h
    exact ⟨L, h1.st ho, h2, h3⟩
  call d op r x A c W hx hle hop hp hB hj hR := by
    obtain ⟨L, h1, h2, h3⟩ := hj
    have hd : d.length < l.length := by
      have := hp.length_eq
      rw [itemsOf_len] at this
      simp at this
      omega
    have hol : op.length ≤ d.length := hop.length_eq ▸ List.length_filter_le _ _
    have hne := idx_new hp
    refine (pairsFn_ok (op := op) (x := x) (L := L) (by omega) (by omega) h1 (fun y hy => hne y (List.mem_filter.1 (hop.mem_iff.1 hy)).1) hR).mono ?_
    rintro e w' ⟨he, hst, hk⟩
    exact ⟨he, ⟨_, hst, h2.next hx hle hop hne, by simp; omega⟩, hk⟩
set_option maxRecDepth 100000 in
set_option maxHeartbeats 2000000 in
theorem pairsM_ok {w : World} {l : List Spn} {A : Option Addr} {cp : Nat} (hlen : l.length ≤ 120) (hsp : ∀ s ∈ l, okSp s.lo s.len) (hR : Rd w w.heap.size 2 A l.length (l.flatMap Spn.cells)) :
    Calls Tryz.prog 24 #[.slice A l.length cp] w fun e w' => ∃ v L, e = .returned v ∧ (PairsOf (itemsOf l) L ∧ L.length ≤ 14400) ∧ w'.ownsRow w.heap.size 66 2 v L.length (L.flatMap Pr.cells) ∧ Below w.heap.size w w' := by
  have HR := Lib.hid hR
  clear hR
  go_enter Tryz.func24, Tryz.ntmps24
  go_upto_region 2 with (fail)
  have hbn := below_one w (.cells #[.slice none 0 0] 64)
  have hst : PSt w (w.alloc (.cells #[.slice none 0 0] 64)) [] := ⟨hbn, _, Blk.new w _ _, World.ownsRow_nil _ _ _ _⟩
  have hsz : (w.alloc (.cells #[.slice none 0 0] 64)).heap.size = w.heap.size + 1 := by rw [World.size_alloc]
  generalize World.alloc w _ = W1 at hbn hst hsz ⊢
  have HJ := Lib.hid (show PJM w [] W1 from ⟨[], hst, fun p => by simp, by simp⟩)
  have HR1 := Lib.hid (HR.out.up hbn)
  have HCB := Lib.hid (show Cb 47 #[.pointer (some ⟨w.heap.size, 0, none⟩)] W1.heap.size (itemsOf l) (PJM w) by rw [hsz]; exact pairsM_cb w l hlen)
  clear hbn hst hsz
  go_wp2_with fail
  refine (visit_ok (by omega) hsp HR1.out HCB.out HJ.out).mono ?_
  rintro e w2 ⟨rfl, d, hd, L, hP, hL, hLl⟩
  have hdl : d.length ≤ 120 := by rw [hd.length_eq, itemsOf_len]; exact hlen
  have hLm : L.length ≤ 14400 := by omega
  have HP := Lib.hid hP
  have HL := Lib.hid hL
  have HD := Lib.hid hd
  obtain ⟨RA, rc, c0, cf, cz, ho⟩ := hP.cells
  have HO := Lib.hid ho
  clear hP hL hd hLl ho
  go_wp2_with fail
  refine (sortPr_ok (by omega) (by omega) HO.out).mono ?_
  rintro e w3 ⟨rfl, M, hM, hO3, hb3⟩
  have hML := hM.length_eq
  have c3 := (hb3.cell (p := ⟨w.heap.size, 0, none⟩) (Nat.lt_succ_self _)).trans c0
  have HO3 := Lib.hid hO3
  have HB3 := Lib.hid (HP.out.bel.trans (hb3.mono (Nat.le_succ _)))
  have HM := Lib.hid hM
  clear hb3 hM hO3 c0 cf
  go_wp2
  go_ret
  exact ⟨_, M, rfl, ⟨HL.out.perm HD.out HM.out, by omega⟩, own_lessM (by rw [hML] at *; exact HO3.out) (by omega), HB3.out⟩
/-- where Shared stands -/
structure ShSt (w W : World) (b n : Nat) (S : Int → Bool) (c : Cfg) (A1 A2 A3 A4 A5 : Option Addr) (c1 c2 c3 c4 c5 : Nat) : Prop where
  st : St w W c A1 A2 A3 A4 A5 c1 c2 c3 c4 c5
  mp : SetU W b n S
  bz : w.heap.size < b
section
variable {w W V : World} {b n m : Nat} {S S' : Int → Bool} {c : Cfg} {A1 A2 A3 A4 A5 : Option Addr} {c1 c2 c3 c4 c5 : Nat}
theorem ShSt.up (h : ShSt w W b n S c A1 A2 A3 A4 A5 c1 c2 c3 c4 c5) (hb : Below W.heap.size W V) : ShSt w V b n S c A1 A2 A3 A4 A5 c1 c2 c3 c4 c5 := ⟨h.st.up hb, h.mp.up hb, h.bz⟩
theorem ShSt.turn (h : ShSt w W b n S c A1 A2 A3 A4 A5 c1 c2 c3 c4 c5) (hm : SetU V b m S') (hg : W.grownBy V (some b)) : ShSt w V b m S' c A1 A2 A3 A4 A5 c1 c2 c3 c4 c5 :=
  ⟨h.st.keep ⟨hg.os, hg.tape, hg.output, hg.size, fun k hk => hg.block k (by have := h.st.z; omega) (fun e => by injection e with e; have := h.bz; omega)⟩, hm, h.bz⟩
theorem ShSt.same (h : ShSt w W b n S c A1 A2 A3 A4 A5 c1 c2 c3 c4 c5) (hS : ∀ z, S z = S' z) : ShSt w W b n S' c A1 A2 A3 A4 A5 c1 c2 c3 c4 c5 := by
  have e : S = S' := funext hS
  rw [← e]; exact h
end
theorem Rd.grownS {w w' : World} {b sz n : Nat} {A : Option Addr} {xs : List Value} (h : Rd w w.heap.size sz A n xs) (hg : w.grownBy w' (some b)) (hne : ∀ x o v, w.cell? ⟨x, o, none⟩ = some v → x ≠ b) : Rd w' w'.heap.size sz A n xs := (Rd.grown h hg (Nat.le_refl _) hne).more hg.size
theorem asc_eqS {a b : List Int} (ha : a.Pairwise (· < ·)) (hb : b.Pairwise (· < ·)) (h : ∀ x, x ∈ a ↔ x ∈ b) : a = b :=
  List.Perm.eq_of_pairwise (le := (· < ·)) (fun x y _ _ h1 h2 => by omega) ha hb ((List.perm_ext_iff_of_nodup (ha.imp fun {x y} hxy e => by subst e; omega) (hb.imp fun {x y} hxy e => by subst e; omega)).2 h)
theorem shared_eq {c : Cfg} (hok : c.ok) (hsp : ∀ x ∈ c.regs, okSp x.base x.size) {L : List Pr} (hL : PairsOf (itemsOf (c.regs.map spnOf)) L) {p : Int} {l : List Int} (h1 : l.Pairwise (· < ·)) (h2 : ∀ x, x ∈ l ↔ (pairsB c.regs p L x && !(x == p)) = true) : l = shTo c.regs p 65536 := by
  refine asc_eqS h1 (shTo_asc _ _ _) fun x => ?_
  rw [h2, shTo_mem, Bool.and_eq_true]
  constructor
  · rintro ⟨q1, q2⟩
    have hne : x ≠ p := by simpa using q2
    rw [pairs_shared hsp hL hne] at q1
    refine ⟨?_, q1⟩
    obtain ⟨_, _, _, _, y, hy, rfl, _⟩ := meetsB_iff.1 q1
    have := Go.bounds_u16 (hok.regs y hy).part
    omega
  · rintro ⟨_, q1⟩
    have hne : x ≠ p := fun e => (meetsB_iff.1 q1).1 e.symm
    rw [pairs_shared hsp hL hne]
    exact ⟨q1, by simpa using hne⟩
theorem pairsB_next {l : List Reg} {p : Int} {L : List Pr} {k : Nat} {q : Pr} (h : L[k]? = some q) : (fun y => pairsB l p (L.take k) y || pairB l p q y) = pairsB l p (L.take (k + 1)) := by
  funext y
  unfold pairsB
  rw [take_next h, List.any_append]
  simp
theorem pair_two {l : List Reg} {p : Int} {i j : Nat} {x y : Reg} (hx : l[i]? = some x) (hy : l[j]? = some y) (z : Int) : pairB l p ⟨(i : Int), (j : Int)⟩ z = ((x.part == p && y.part == z) || (y.part == p && x.part == z)) := by
  unfold pairB
  simp only [Int.toNat_natCast, hx, hy]
set_option maxRecDepth 100000 in
set_option maxHeartbeats 8000000 in
theorem memShared_ok (c : Cfg) (A1 A2 A3 A4 A5 : Option Addr) (c1 c2 c3 c4 c5 : Nat) (w : World) (hR : CfgR w w.heap.size c A1 A2 A3 A4 A5 c1 c2 c3 c4 c5) (hok : c.ok) (h120 : c.regs.length ≤ 120) (hsp : ∀ x ∈ c.regs, okSp x.base x.size) (p : Int) (hp : wU16 p) (l : List Int) (hl : Hid (shTo c.regs p 65536 = l)) : Calls Tryz.prog 8 #[cfgV c.frame A1 A2 A3 A4 A5 c.parts.length c.wins.length c.regs.length c.ports.length c.chans.length c1 c2 c3 c4 c5, .int .u16 p] w
    fun e w' => ∃ v, e = .returned v ∧ w'.ownsRow w.heap.size 30 1 v l.length (l.map (Value.int .u16)) ∧ Below w.heap.size w w' := by
  obtain ⟨W0, hW, st⟩ := St.start_any hR 29
  have HW := Lib.hid hW
  have ST0 := Lib.hid st
  have HOK := Lib.hid hok
  have HSPR := Lib.hid hsp
  have HSP := Lib.hid (show ∀ s ∈ c.regs.map spnOf, okSp s.lo s.len from fun s hs => by obtain ⟨r, hr, rfl⟩ := List.mem_map.1 hs; exact hsp r hr)
  have HLM := Lib.hid (show (c.regs.map spnOf).length = c.regs.length by simp)
  have hmm := @run_makeMap Tryz.prog
  obtain ⟨x0, x1, x2, x3, x4, x5, hz⟩ := st.cells
  clear hR hW st hok hsp
  go_enter Tryz.func8, Tryz.ntmps8
  go_upto_region 1 with (fail)
  rw [HW.out]
  go_upto_region 2 with (fail)
  have hm0 := SetU.made W0
  have hb0 := below_one W0 (.map #[] 0)
  generalize World.alloc W0 _ = W1 at hm0 hb0 ⊢
  have OS1 := Lib.hid (ShSt.mk (ST0.out.up hb0) hm0 ST0.out.z)
  clear hm0 hb0 hmm x0 x1 x2 x3 x4 x5 hz
  obtain ⟨x0, x1, x2, x3, x4, x5, hz⟩ := OS1.out.st.cells
  generalize W0.heap.size = b at OS1 ⊢
  go_wp2_with fail
  refine (memSpans_ok c.regs A3 c3 W1 (by omega) OS1.out.st.R.regs).mono ?_
  rintro e w2 ⟨v2, rfl, ho2, hb2⟩
  obtain ⟨RB, rb, rfl, _, _, hrd2⟩ := own_form ho2
  have HRD2 := Lib.hid (show Rd w2 w2.heap.size 2 RB (c.regs.map spnOf).length ((c.regs.map spnOf).flatMap Spn.cells) by rw [List.length_map]; exact hrd2)
  have OS2 := Lib.hid (OS1.out.up hb2)
  have hpr := pairsM_ok (cp := rb) (by rw [HLM.out]; exact h120) HSP.out HRD2.out
  rw [HLM.out] at hpr
  clear hb2 ho2 hrd2 x0 x1 x2 x3 x4 x5 hz
  go_wp2_with fail
  refine hpr.mono ?_
  rintro e w3 ⟨v3, L, rfl, ⟨hL, hLl⟩, ho3, hb3⟩
  obtain ⟨RA, ra, rfl, _, _, hrd3⟩ := own_form ho3
  have HL := Lib.hid hL
  have HRD := Lib.hid hrd3
  have OS3 := Lib.hid (OS2.out.up hb3)
  clear hpr hL ho3 hrd3 hb3
  go_wp2
  go_loopw [16] (fun i wr => ∃ (k n : Nat), k ≤ L.length ∧ n ≤ 2 * k ∧ i = .int .i64 k ∧ Hid (ShSt w wr b n (pairsB c.regs p (L.take k)) c A1 A2 A3 A4 A5 c1 c2 c3 c4 c5) ∧ Hid (Rd wr wr.heap.size 2 RA L.length (L.flatMap Pr.cells))) (fun i _ => L.length - (intOf i).toNat)
  case atStart => exact ⟨0, 0, Nat.zero_le _, Nat.zero_le _, rfl, Lib.hid (OS3.out.same fun z => by simp [pairsB]), HRD⟩
  case round =>
    obtain ⟨k, n, hk, hn, rfl, OS, HRk⟩ := hrel
    by_cases hkl : k < L.length
    · obtain ⟨q, hq⟩ := get_lt hkl
      obtain ⟨i, j, x, y, rfl, hx, hy, _⟩ := pair_regs HSP.out HL.out (List.mem_of_getElem? hq)
      have HNX := Lib.hid (pairsB_next (l := c.regs) (p := p) hq)
      have HPT := Lib.hid (pair_two (p := p) hx hy)
      obtain ⟨x0, x1, x2, x3, x4, x5, hz⟩ := OS.out.st.cells
      obtain ⟨bb, o, rfl, hbb, g0, g1⟩ := pr_at HRk.out hq
      have hxp : wU16 x.part := (HOK.out.regs x (List.mem_of_getElem? hx)).part
      have hyp : wU16 y.part := (HOK.out.regs y (List.mem_of_getElem? hy)).part
      have hi1 : i < c.regs.length := (List.getElem?_eq_some_iff.1 hx).1
      have hj1 : j < c.regs.length := (List.getElem?_eq_some_iff.1 hy).1
      have HX := Lib.hid hx
      have HY := Lib.hid hy
      have k0 : (0 : Int) ≤ (k : Int) := by omega
      have k1 : (k : Int) < (L.length : Int) := by omega
      have i0 : (0 : Int) ≤ (i : Int) := by omega
      have i1 : (i : Int) < (c.regs.length : Int) := by omega
      have j0 : (0 : Int) ≤ (j : Int) := by omega
      have j1 : (j : Int) < (c.regs.length : Int) := by omega
      clear hq hx hy
      go_upto_region 5 with (fail)
      obtain ⟨W4, hW4, hbx, hb4⟩ := PrBox_new wr ⟨(i : Int), (j : Int)⟩ 66
      rw [hW4]
      obtain ⟨p0, p1, pz⟩ := hbx
      have OS4 := Lib.hid (OS.out.up hb4)
      have HR4 := Lib.hid (HRk.out.up hb4)
      clear hW4 hb4 g0 g1 hbb x0 x1 x2 x3 x4 x5 hz
      obtain ⟨x0, x1, x2, x3, x4, x5, hz⟩ := OS4.out.st.cells
      obtain ⟨rbk, ro, rfl, hrb, q0, q1, q2, q3, q4⟩ := reg_at OS4.out.st.R.regs HX.out
      obtain ⟨b2, o2, e2, hrb2, r0, r1, r2, r3, r4⟩ := reg_at OS4.out.st.R.regs HY.out
      obtain ⟨rfl, rfl⟩ : rbk = b2 ∧ ro = o2 := by simpa using e2
      clear e2
      generalize wr.heap.size = gp at p0 p1 pz ⊢
      refine wp_region_ext (by kernel_rfl) (by kernel_rfl) ?_
      repeat (go_big_quiet_step (fail))
      refine wpQuiet_nil ?_
      intro xq
      have OS5 := Lib.hid (OS4.out.up (ext_below _ xq))
      have HR5 := Lib.hid (HR4.out.up (ext_below _ xq))
      clear p0 p1 pz x0 x1 x2 x3 x4 x5 hz hrb q0 q1 q2 q3 q4 hrb2 r0 r1 r2 r3 r4
      generalize ext W4 xq = W5 at OS5 HR5 ⊢
      have HZ := Lib.hid (fun z => (congrFun HNX.out z).symm.trans (congrArg (fun u => pairsB c.regs p (L.take k) z || u) (HPT.out z)))
      rcases bool_cases (x.part == p) with ha | ha
      · obtain ⟨w6, hput, hm6, hg6, hs6⟩ := OS5.out.mp.put (show n < maxLen by unfold maxLen; omega) hyp
        have OS6 := Lib.hid (OS5.out.turn hm6 hg6)
        have HR6 := Lib.hid (Rd.grownS HR5.out hg6 (fun _ _ _ hc => OS5.out.mp.ne hc))
        clear hm6 hg6
        rcases bool_cases (y.part == p) with hb | hb
        · obtain ⟨w7, hput7, hm7, hg7, hs7⟩ := OS6.out.mp.put (show n + 1 < maxLen by unfold maxLen; omega) hxp
          have OS7 := Lib.hid (OS6.out.turn hm7 hg7)
          have HR7 := Lib.hid (Rd.grownS HR6.out hg7 (fun _ _ _ hc => OS6.out.mp.ne hc))
          have OSN := Lib.hid (OS7.out.same (S' := pairsB c.regs p (L.take (k + 1))) fun z => by rw [HZ.out z, ha, hb, Bool.true_and, Bool.true_and, BEq.comm (a := z) (b := y.part), BEq.comm (a := z) (b := x.part), Bool.or_assoc])
          clear hm7 hg7
          go_wp2
          go_roundw
          case rel => exact ⟨k + 1, n + 1 + 1, by omega, by omega, by go_num, OSN, HR7⟩
          case measure => simp [intOf]; omega
        · have OSN := Lib.hid (OS6.out.same (S' := pairsB c.regs p (L.take (k + 1))) fun z => by rw [HZ.out z, ha, hb, Bool.true_and, Bool.false_and, Bool.or_false, BEq.comm (a := z) (b := y.part)])
          go_wp2
          go_roundw
          case rel => exact ⟨k + 1, n + 1, by omega, by omega, by go_num, OSN, HR6⟩
          case measure => simp [intOf]; omega
      · rcases bool_cases (y.part == p) with hb | hb
        · obtain ⟨w7, hput7, hm7, hg7, hs7⟩ := OS5.out.mp.put (show n < maxLen by unfold maxLen; omega) hxp
          have OS7 := Lib.hid (OS5.out.turn hm7 hg7)
          have HR7 := Lib.hid (Rd.grownS HR5.out hg7 (fun _ _ _ hc => OS5.out.mp.ne hc))
          have OSN := Lib.hid (OS7.out.same (S' := pairsB c.regs p (L.take (k + 1))) fun z => by rw [HZ.out z, ha, hb, Bool.true_and, Bool.false_and, Bool.false_or, BEq.comm (a := z) (b := x.part)])
          clear hm7 hg7
          go_wp2
          go_roundw
          case rel => exact ⟨k + 1, n + 1, by omega, by omega, by go_num, OSN, HR7⟩
          case measure => simp [intOf]; omega
        · have OSN := Lib.hid (OS5.out.same (S' := pairsB c.regs p (L.take (k + 1))) fun z => by rw [HZ.out z, ha, hb, Bool.false_and, Bool.false_and, Bool.or_false, Bool.or_false])
          go_wp2
          go_roundw
          case rel => exact ⟨k + 1, n, by omega, by omega, by go_num, OSN, HR5⟩
          case measure => simp [intOf]; omega
    · obtain rfl : k = L.length := by omega
      obtain ⟨w6, hdel, hm6, hg6, hs6⟩ := OS.out.mp.del hp 0
      have OS6 := Lib.hid (OS.out.turn hm6 hg6)
      clear hm6 hg6 hs6
      go_wp2_with fail
      refine (keysU_ok b w6).mono ?_
      rintro e w7 ⟨rfl, rfl⟩
      have hb1 := below_one w6 (.cells #[.map (some b)] 63)
      have OS7 := Lib.hid (OS6.out.up hb1)
      have hm1 : (w6.alloc (.cells #[.map (some b)] 63)).cell? ⟨w6.heap.size, 0, none⟩ = some (.map (some b)) := by simp only [World.cell?, World.alloc_heap_new]; rfl
      have hlt1 : w6.heap.size < (w6.alloc (.cells #[.map (some b)] 63)).heap.size := by rw [World.size_alloc]; omega
      go_wp2_with fail
      refine (sortedU_ok hlt1 hm1 OS7.out.mp (by omega)).mono ?_
      rintro e w8 ⟨v, l2, rfl, hl2, hrow, hb2⟩
      have HE := Lib.hid (show l2 = l by
        rw [← hl.out]
        refine shared_eq HOK.out HSPR.out HL.out hl2.1 fun x => ?_
        have := hl2.2 x
        rw [List.take_length] at this
        exact this)
      have HRW := Lib.hid hrow
      have HZ := Lib.hid (OS7.out.st.bel.trans (hb2.mono (Nat.le_of_lt OS7.out.st.z)))
      have hsz := OS7.out.st.z
      clear hl2 hrow hb2 hm1 hlt1 hb1
      go_wp2
      go_ret
      exact ⟨v, rfl, by rw [← HE.out]; exact own_lessM HRW.out (by omega), HZ.out⟩
end Go.Proofs.YtoolcolbmkicpaaGreat
