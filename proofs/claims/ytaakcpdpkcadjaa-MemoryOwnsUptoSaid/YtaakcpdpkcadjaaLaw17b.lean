/-
  The laws MemoryOwners and MemoryOwns, walked.
-/
import Derived.WalkArith
import Derived.Test.YtaakcpdpkcadjaaLaw17a
namespace Go.Proofs.Ytaakcpdpkcadjaa
open Go.RowKit Go.Lib
attribute [local go_sem] ext_cell
set_option maxRecDepth 100000 in
set_option maxHeartbeats 8000000 in
theorem memoryOwners_ok (c : Cfg) (A1 A2 A3 A4 A5 : Option Addr) (c1 c2 c3 c4 c5 : Nat) (w : World) (hR : CfgR w w.heap.size c A1 A2 A3 A4 A5 c1 c2 c3 c4 c5) (hs : c.small) (hok : c.ok) (a : Int) (ha : wU64 a) : Calls Try.prog 4 #[cfgV c.frame A1 A2 A3 A4 A5 c.parts.length c.wins.length c.regs.length c.ports.length c.chans.length c1 c2 c3 c4 c5, .int .u64 a] w fun e w' => e = .returned (.bool true) ∧ Below w.heap.size w w' := by
  obtain ⟨W0, hW, st⟩ := St.start_any hR 29
  have HW := Lib.hid hW
  have ST0 := Lib.hid st
  have HOK := Lib.hid hok
  have hbd := hs.bd
  have br := hbd.r
  obtain ⟨x0, x1, x2, x3, x4, x5, hz⟩ := st.cells
  clear hR hW st hok hbd
  rcases bool_cases (goodM c) with h1 | h1
  · have H1 := Lib.hid h1
    have HRT := Lib.hid (goodM_right h1)
    have HSP := Lib.hid (rightM_sp HOK.out (goodM_right h1))
    clear h1
    obtain ⟨L, hL⟩ : ∃ L, ownL c a = L := ⟨_, rfl⟩
    have hll : L.length ≤ 1048576 := by rw [← hL]; exact Nat.le_trans (ownTo_len c a _) br
    have HLL := Lib.hid hL
    clear hL
    go_enter Try.func4, Try.ntmps4
    go_upto_region 1 with (fail)
    rw [HW.out]
    go_wp2_with fail
    refine (goodM_ok c _ _ _ _ _ _ _ _ _ _ _ ST0.out.R hs HOK.out true H1).mono ?_
    rintro e w1 ⟨rfl, hb1⟩
    have ST1 := Lib.hid (ST0.out.up hb1)
    clear hb1 x0 x1 x2 x3 x4 x5 hz
    obtain ⟨x0, x1, x2, x3, x4, x5, hz⟩ := ST1.out.cells
    go_wp2_with fail
    refine (memOwners_ok c _ _ _ _ _ _ _ _ _ _ _ ST1.out.R hs HOK.out a ha).mono ?_
    rw [HLL.out]
    rintro e w2 ⟨v2, rfl, ho2, hb2⟩
    have ST2 := Lib.hid (ST1.out.up hb2)
    obtain ⟨RA, ra, rfl, _, _, hrA⟩ := own_form ho2
    have HRA := Lib.hid hrA
    clear hb2 ho2 hrA x0 x1 x2 x3 x4 x5 hz
    obtain ⟨x0, x1, x2, x3, x4, x5, hz⟩ := ST2.out.cells
    go_wp2_with fail
    refine (rOwners_ok c _ _ _ _ _ _ _ _ _ _ _ ST2.out.R hs HSP.out a).mono ?_
    rw [HLL.out]
    rintro e w3 ⟨v3, rfl, ho3, hb3⟩
    have ST3 := Lib.hid (ST2.out.up hb3)
    obtain ⟨RB, rb, rfl, _, _, hrB⟩ := own_form ho3
    have HRB := Lib.hid hrB
    have HRA3 := Lib.hid (HRA.out.up hb3)
    clear hb3 ho3 hrB x0 x1 x2 x3 x4 x5 hz
    go_wp2_with fail
    refine (eqInt_same L RA RB ra rb w3 (by omega) HRA3.out HRB.out).mono ?_
    rintro e w4 ⟨rfl, hb4⟩
    have ST4 := Lib.hid (ST3.out.up hb4)
    have HRA4 := Lib.hid (HRA3.out.up hb4)
    clear hb4
    go_wp2
    go_loopw [23] (fun i wr => ∃ (k : Nat), k ≤ L.length ∧ i = .int .i64 k ∧ Hid (Below w4.heap.size w4 wr)) (fun i _ => L.length - (intOf i).toNat)
    case atStart => exact ⟨0, Nat.zero_le _, rfl, Lib.hid (Below.refl _ _)⟩
    case round =>
      obtain ⟨k, hk, rfl, HB⟩ := hrel
      have ST := Lib.hid (ST4.out.up HB.out)
      by_cases hlt : k < L.length
      · obtain ⟨x, hx⟩ := get_lt hlt
        obtain ⟨j, r, rfl, hj, hown⟩ := ownL_mem.1 (show x ∈ ownL c a by rw [HLL.out]; exact List.mem_of_getElem? hx)
        obtain ⟨b1, o1, rfl, h1, g1⟩ := int_at (HRA4.out.up HB.out) hx
        have hjl : j < c.regs.length := (List.getElem?_eq_some_iff.1 hj).1
        have hmem : ((j : Nat) : Int) ∈ ownL c a := by rw [HLL.out]; exact List.mem_of_getElem? hx
        obtain ⟨x0, x1, x2, x3, x4, x5, hz⟩ := ST.out.cells
        have k0 : (0 : Int) ≤ (k : Int) := by omega
        have k1 : (k : Int) < (L.length : Int) := by omega
        have j0 : (0 : Int) ≤ (j : Int) := by omega
        have j1 : (j : Int) < (c.regs.length : Int) := by omega
        by_cases hn : 1 < L.length
        · have hsh := owners_shared HOK.out HRT.out (show 1 < (ownL c a).length by rw [HLL.out]; exact hn) hmem hj
          obtain ⟨bb, o, rfl, hbb, g0, _, _, _, g4⟩ := reg_at ST.out.R.regs hj
          rw [hsh] at g4
          have hn2 : (1 : Int) < (L.length : Int) := by omega
          clear hx hj hown hmem hsh x0 x1 x2 x4 x5 g0
          go_wp2
          go_roundw
          case rel => exact ⟨k + 1, by omega, by go_num, HB⟩
          case measure => simp [intOf]; omega
        · have hn2 : ¬ (1 : Int) < (L.length : Int) := by omega
          clear hx hj hown hmem x0 x1 x2 x4 x5
          go_wp2
          go_roundw
          case rel => exact ⟨k + 1, by omega, by go_num, HB⟩
          case measure => simp [intOf]; omega
      · obtain rfl : k = L.length := by omega
        go_wp2_with fail
        refine (alive_ok _).mono ?_
        rintro e w5 ⟨rfl, hb5⟩
        have HZ := Lib.hid (ST.out.up hb5).bel
        clear hb5
        go_wp2
        go_ret
        exact ⟨rfl, HZ.out⟩
  · have H1 := Lib.hid h1
    clear h1
    go_enter Try.func4, Try.ntmps4
    go_upto_region 1 with (fail)
    rw [HW.out]
    go_wp2_with fail
    refine (goodM_ok c _ _ _ _ _ _ _ _ _ _ _ ST0.out.R hs HOK.out false H1).mono ?_
    rintro e w1 ⟨rfl, hb1⟩
    have HB1 := Lib.hid (ST0.out.up hb1).bel
    clear hb1 x0 x1 x2 x3 x4 x5 hz
    go_wp2_with fail
    refine (alive_ok _).mono ?_
    rintro e w2 ⟨rfl, hb2⟩
    have HZ := Lib.hid (Below.then_ HB1.out hb2)
    clear hb2
    go_wp2
    go_ret
    exact ⟨rfl, HZ.out⟩
theorem anyOwn_next {c : Cfg} {p m a : Int} {L : List Int} {k j : Nat} {r : Reg} (hx : L[k]? = some ((j : Nat) : Int)) (hj : c.regs[j]? = some r) : anyOwn c p m a (L.take (k + 1)) = (anyOwn c p m a (L.take k) || keepR p m r) := by
  unfold anyOwn
  rw [take_next hx, List.any_append]
  simp [hj]
/-- the box of a pair of numbers -/
structure PpBox (w : World) (g : Nat) (p q : Int) : Prop where
  p0 : w.cell? ⟨g, 0, none⟩ = some (.int .u16 p)
  p1 : w.cell? ⟨g, 1, none⟩ = some (.int .u16 q)
  gl : g < w.heap.size
theorem PpBox.up {w w' : World} {g : Nat} {p q : Int} (h : PpBox w g p q) (hb : Below w.heap.size w w') : PpBox w' g p q := by
  have q : ∀ j, w'.cell? ⟨g, j, none⟩ = w.cell? ⟨g, j, none⟩ := fun j => hb.cell (p := ⟨g, j, none⟩) h.gl
  exact ⟨(q 0).trans h.p0, (q 1).trans h.p1, Nat.lt_of_lt_of_le h.gl hb.size⟩
theorem PpBox.new (w : World) (p q : Int) (t : TypeId) : ∃ W, w.alloc (.cells #[.int .u16 p, .int .u16 q] t) = W ∧ PpBox W w.heap.size p q ∧ Below w.heap.size w W := ⟨_, rfl, ⟨by simp, by simp, by simp⟩, below_one _ _⟩
/-- where MemoryOwns stands: the boxes of its three arguments -/
structure OwnsSt (w W : World) (c : Cfg) (A1 A2 A3 A4 A5 : Option Addr) (c1 c2 c3 c4 c5 : Nat) (p q b z m : Int) : Prop where
  st : St w W c A1 A2 A3 A4 A5 c1 c2 c3 c4 c5
  pp : PpBox W (w.heap.size + 1) p q
  ax : AxBox W (w.heap.size + 1 + 1) b z m
theorem OwnsSt.up {w W V : World} {c : Cfg} {A1 A2 A3 A4 A5 : Option Addr} {c1 c2 c3 c4 c5 : Nat} {p q b z m : Int} (h : OwnsSt w W c A1 A2 A3 A4 A5 c1 c2 c3 c4 c5 p q b z m) (hb : Below W.heap.size W V) : OwnsSt w V c A1 A2 A3 A4 A5 c1 c2 c3 c4 c5 p q b z m :=
  ⟨h.st.up hb, h.pp.up hb, h.ax.up hb⟩
set_option maxRecDepth 100000 in
set_option maxHeartbeats 16000000 in
theorem memoryOwns_ok (c : Cfg) (A1 A2 A3 A4 A5 : Option Addr) (c1 c2 c3 c4 c5 : Nat) (w : World) (hR : CfgR w w.heap.size c A1 A2 A3 A4 A5 c1 c2 c3 c4 c5) (hs : c.small) (hok : c.ok) (p q b z m : Int) (hq : wU16 q) (hb : wU64 b) (hzz : wU64 z) : Calls Try.prog 6 #[cfgV c.frame A1 A2 A3 A4 A5 c.parts.length c.wins.length c.regs.length c.ports.length c.chans.length c1 c2 c3 c4 c5, .agg #[.int .u16 p, .int .u16 q], .agg #[.int .u64 b, .int .u64 z, .int .u8 m]] w fun e w' => e = .returned (.bool true) ∧ Below w.heap.size w w' := by
  obtain ⟨W0, hW, st⟩ := St.start_any hR 29
  have HW := Lib.hid hW
  have e0 : W0.heap.size = w.heap.size + 1 := by rw [← hW]; simp
  obtain ⟨W1, hW1, pp, hb1⟩ := PpBox.new W0 p q 49
  have e1 : W1.heap.size = w.heap.size + 1 + 1 := by rw [← hW1]; simp [e0]
  obtain ⟨W2, hW2, ax, hb2⟩ := AxBox.new W1 b z m 46
  have HW1 := Lib.hid hW1
  have HW2 := Lib.hid hW2
  have ost : OwnsSt w W2 c A1 A2 A3 A4 A5 c1 c2 c3 c4 c5 p q b z m := ⟨(st.up hb1).up hb2, by rw [← e0]; exact pp.up hb2, by rw [← e1]; exact ax⟩
  have OS0 := Lib.hid ost
  have HOK := Lib.hid hok
  have hbd := hs.bd
  have br := hbd.r
  have bq := Go.bounds_u16 hq
  have bb := Go.bounds_u64 hb
  have bz := Go.bounds_u64 hzz
  obtain ⟨x0, x1, x2, x3, x4, x5, hz⟩ := ost.st.cells
  clear hR hW st hok hb1 hb2 hW1 hW2 ax pp ost hbd e0 e1 hq
  rcases bool_cases (goodM c) with h1 | h1
  · have H1 := Lib.hid h1
    clear h1
    obtain ⟨L, hL⟩ : ∃ L, ownL c b = L := ⟨_, rfl⟩
    have hll : L.length ≤ 1048576 := by rw [← hL]; exact Nat.le_trans (ownTo_len c b _) br
    have HLL := Lib.hid hL
    obtain ⟨v1, hv1⟩ : ∃ v1, anyOwn c p m b L = v1 := ⟨_, rfl⟩
    have HV1 := Lib.hid (show allowB b 1 (covB (ofL c p m) b 1) = v1 by rw [allow_one bb.1 (by have := bb.2; omega), hL]; exact hv1)
    have HV1' := Lib.hid hv1
    clear hL hv1
    go_enter Try.func6, Try.ntmps6
    go_upto_region 1 with (fail)
    rw [HW.out, HW1.out, HW2.out]
    go_wp2_with fail
    refine (goodM_ok c _ _ _ _ _ _ _ _ _ _ _ OS0.out.st.R hs HOK.out true H1).mono ?_
    rintro e w1 ⟨rfl, hb1⟩
    have OS1 := Lib.hid (OS0.out.up hb1)
    clear hb1 x0 x1 x2 x3 x4 x5 hz
    obtain ⟨x0, x1, x2, x3, x4, x5, hz⟩ := OS1.out.st.cells
    obtain ⟨q0, q1, gl1⟩ := OS1.out.pp
    obtain ⟨p0, p1, p2, gl2⟩ := OS1.out.ax
    go_wp2_with fail
    refine (memOwners_ok c _ _ _ _ _ _ _ _ _ _ _ OS1.out.st.R hs HOK.out b hb).mono ?_
    rw [HLL.out]
    rintro e w2 ⟨v2, rfl, ho2, hb2⟩
    have OS2 := Lib.hid (OS1.out.up hb2)
    obtain ⟨RA, ra, rfl, _, _, hrA⟩ := own_form ho2
    have HRA := Lib.hid hrA
    clear hb2 ho2 hrA x0 x1 x2 x3 x4 x5 hz q0 q1 gl1 p0 p1 p2 gl2
    go_wp2
    go_loopw [8, 25] (fun o i wr => ∃ (k : Nat), k ≤ L.length ∧ i = .int .i64 k ∧ o = .bool (anyOwn c p m b (L.take k)) ∧ Hid (Below w2.heap.size w2 wr)) (fun _ i _ => L.length - (intOf i).toNat)
    case atStart => exact ⟨0, Nat.zero_le _, rfl, by simp [anyOwn], Lib.hid (Below.refl _ _)⟩
    case round =>
      obtain ⟨k, hk, rfl, rfl, HB⟩ := hrel
      have OS := Lib.hid (OS2.out.up HB.out)
      obtain ⟨x0, x1, x2, x3, x4, x5, hz⟩ := OS.out.st.cells
      obtain ⟨q0, q1, gl1⟩ := OS.out.pp
      obtain ⟨p0, p1, p2, gl2⟩ := OS.out.ax
      by_cases hlt : k < L.length
      · obtain ⟨x, hx⟩ := get_lt hlt
        obtain ⟨j, r, rfl, hj, hown⟩ := ownL_mem.1 (show x ∈ ownL c b by rw [HLL.out]; exact List.mem_of_getElem? hx)
        obtain ⟨b1, o1, rfl, h1, g1⟩ := int_at (HRA.out.up HB.out) hx
        have hjl : j < c.regs.length := (List.getElem?_eq_some_iff.1 hj).1
        have k0 : (0 : Int) ≤ (k : Int) := by omega
        have k1 : (k : Int) < (L.length : Int) := by omega
        have j0 : (0 : Int) ≤ (j : Int) := by omega
        have j1 : (j : Int) < (c.regs.length : Int) := by omega
        have HN := Lib.hid (anyOwn_next (p := p) (m := m) (a := b) hx hj)
        obtain ⟨bb', o, rfl, hbb, g0', g1', g2', g3', g4'⟩ := reg_at OS.out.st.R.regs hj
        obtain ⟨W4, hW4, rb, hb4⟩ := RgBox.new wr r 43
        have HW4 := Lib.hid hW4
        have OS4 := Lib.hid (OS.out.up hb4)
        have HB4 := Lib.hid (Below.then_ HB.out hb4)
        have HRB := Lib.hid rb
        obtain ⟨vk, hvk⟩ : ∃ v, anyOwn c p m b (L.take k) = v := ⟨_, rfl⟩
        rw [hvk]
        rw [hvk] at HN
        clear hx hj hown hW4 hb4 rb hvk
        go_upto_region 11 with (fail)
        rw [HW4.out]
        clear g0' g1' g2' g3' g4' hbb x0 x1 x2 x3 x4 x5 hz q0 q1 gl1 p0 p1 p2 gl2 g1 h1
        obtain ⟨r0, r1, r2, r3, r4, hg⟩ := HRB.out
        obtain ⟨p0, p1, p2, gl2⟩ := OS4.out.ax
        rcases bool_cases vk with rfl | rfl
        · go_wp2
          go_roundw
          case rel => exact ⟨k + 1, by omega, by go_num, by rw [HN.out, Bool.true_or], HB4⟩
          case measure => simp [intOf]; omega
        · by_cases h1 : r.part = p
          · by_cases h2 : bits .and .u8 r.rights m = m
            · have HK := Lib.hid (show keepR p m r = true by unfold keepR; simp [h1, h2])
              rw [h1] at r2
              clear h1
              go_wp2
              go_roundw
              case rel => exact ⟨k + 1, by omega, by go_num, by rw [HN.out, HK.out]; rfl, HB4⟩
              case measure => simp [intOf]; omega
            · have HK := Lib.hid (show keepR p m r = false by unfold keepR; simp [h2])
              rw [h1] at r2
              clear h1
              go_wp2
              go_roundw
              case rel => exact ⟨k + 1, by omega, by go_num, by rw [HN.out, HK.out]; simp [h2], HB4⟩
              case measure => simp [intOf]; omega
          · have HK := Lib.hid (show keepR p m r = false by unfold keepR; simp [h1])
            go_wp2
            go_roundw
            case rel => exact ⟨k + 1, by omega, by go_num, by rw [HN.out, HK.out]; rfl, HB4⟩
            case measure => simp [intOf]; omega
      · obtain rfl : k = L.length := by omega
        rw [List.take_length, HV1'.out]
        clear gl1 gl2
        go_wp2_with fail
        refine (memAllowed_val c _ _ _ _ _ _ _ _ _ _ _ OS.out.st.R hs HOK.out p m b 1 hb (by unfold wU64; decide) v1 HV1).mono ?_
        rintro e w5 ⟨rfl, hb5⟩
        have OS5 := Lib.hid (OS.out.up hb5)
        clear hb5 x0 x1 x2 x3 x4 x5 hz q0 q1 p0 p1 p2
        obtain ⟨q0, q1, gl1⟩ := OS5.out.pp
        obtain ⟨p0, p1, p2, gl2⟩ := OS5.out.ax
        obtain ⟨x0, x1, x2, x3, x4, x5, hz⟩ := OS5.out.st.cells
        obtain ⟨mn, hmn, hmn1, hmn2⟩ : ∃ mn, min q z = mn ∧ 0 ≤ mn ∧ mn ≤ z := ⟨_, rfl, by omega, by omega⟩
        have hwq : IntKind.u64.wrap q = q := by rw [IntKind.wrap_u64]; omega
        go_upto_region 16 with (fail)
        by_cases hA : 18446744073709551616 ≤ b + z
        · have hw : IntKind.u64.wrap (b + z) = b + z - 18446744073709551616 := by rw [IntKind.wrap_u64]; omega
          have hlt2 : b + z - 18446744073709551616 < b := by omega
          go_wp2_with fail
          refine (alive_ok _).mono ?_
          rintro e w6 ⟨rfl, hb6⟩
          have HZ := Lib.hid (OS5.out.up hb6).st.bel
          clear hb6 x0 x1 x2 x3 x4 x5 hz q0 q1 gl1 p0 p1 p2 gl2
          go_wp2
          go_ret
          exact ⟨rfl, HZ.out⟩
        · have hw : IntKind.u64.wrap (b + z) = b + z := by rw [IntKind.wrap_u64]; omega
          have hlt2 : ¬ b + z < b := by omega
          by_cases hm0 : mn = 0
          · subst hm0
            go_wp2_with fail
            refine (alive_ok _).mono ?_
            rintro e w6 ⟨rfl, hb6⟩
            have HZ := Lib.hid (OS5.out.up hb6).st.bel
            clear hb6 x0 x1 x2 x3 x4 x5 hz q0 q1 gl1 p0 p1 p2 gl2
            go_wp2
            go_ret
            exact ⟨rfl, HZ.out⟩
          · have hm1 : 0 < mn := by omega
            have hsp := allow_split (l := ofL c p m) bb.1 hm1 hmn2 (by omega)
            obtain ⟨vw, hvw⟩ : ∃ v, allowB b z (covB (ofL c p m) b z) = v := ⟨_, rfl⟩
            obtain ⟨va, hva⟩ : ∃ v, allowB b mn (covB (ofL c p m) b mn) = v := ⟨_, rfl⟩
            obtain ⟨vb, hvb⟩ : ∃ v, allowB (b + mn) (z - mn) (covB (ofL c p m) (b + mn) (z - mn)) = v := ⟨_, rfl⟩
            rw [hvw, hva, hvb] at hsp
            have HVW := Lib.hid hvw
            have HVA := Lib.hid hva
            have HVB := Lib.hid hvb
            have hw3 : IntKind.u64.wrap (b + mn) = b + mn := by rw [IntKind.wrap_u64]; omega
            have hw4 : IntKind.u64.wrap (z - mn) = z - mn := by rw [IntKind.wrap_u64]; omega
            have hne2 : (mn == 0) = false := by rw [beq_eq_false_iff_ne]; exact hm0
            have hu1 : wU64 mn := Go.WalkArith.wf_u64 ⟨by omega, by omega⟩
            have hu2 : wU64 (b + mn) := Go.WalkArith.wf_u64 ⟨by omega, by omega⟩
            have hu3 : wU64 (z - mn) := Go.WalkArith.wf_u64 ⟨by omega, by omega⟩
            clear hvw hva hvb
            go_wp2_with fail
            refine (memAllowed_val c _ _ _ _ _ _ _ _ _ _ _ OS5.out.st.R hs HOK.out p m b z hb hzz vw HVW).mono ?_
            rintro e w6 ⟨rfl, hb6⟩
            have OS6 := Lib.hid (OS5.out.up hb6)
            clear hb6 x0 x1 x2 x3 x4 x5 hz q0 q1 gl1 p0 p1 p2 gl2
            go_wp2_with fail
            refine (alive_ok _).mono ?_
            rintro e w7 ⟨rfl, hb7⟩
            have OS7 := Lib.hid (OS6.out.up hb7)
            clear hb7
            obtain ⟨p0, p1, p2, gl2⟩ := OS7.out.ax
            obtain ⟨x0, x1, x2, x3, x4, x5, hz⟩ := OS7.out.st.cells
            go_wp2_with fail
            refine (memAllowed_val c _ _ _ _ _ _ _ _ _ _ _ OS7.out.st.R hs HOK.out p m b mn hb hu1 va HVA).mono ?_
            rintro e w8 ⟨rfl, hb8⟩
            have OS8 := Lib.hid (OS7.out.up hb8)
            clear hb8 x0 x1 x2 x3 x4 x5 hz p0 p1 p2 gl2
            obtain ⟨p0, p1, p2, gl2⟩ := OS8.out.ax
            obtain ⟨x0, x1, x2, x3, x4, x5, hz⟩ := OS8.out.st.cells
            rcases bool_cases va with rfl | rfl
            · rw [Bool.true_and] at hsp
              subst hsp
              go_wp2_with fail
              refine (memAllowed_val c _ _ _ _ _ _ _ _ _ _ _ OS8.out.st.R hs HOK.out p m (b + mn) (z - mn) hu2 hu3 vw HVB).mono ?_
              rintro e w9 ⟨rfl, hb9⟩
              have HZ := Lib.hid (OS8.out.up hb9).st.bel
              clear hb9 x0 x1 x2 x3 x4 x5 hz p0 p1 p2 gl2
              go_wp2
              go_ret
              exact ⟨by simp, HZ.out⟩
            · rw [Bool.false_and] at hsp
              subst hsp
              have HZ := Lib.hid OS8.out.st.bel
              go_wp2
              go_ret
              exact ⟨rfl, HZ.out⟩
  · have H1 := Lib.hid h1
    clear h1
    go_enter Try.func6, Try.ntmps6
    go_upto_region 1 with (fail)
    rw [HW.out, HW1.out, HW2.out]
    go_wp2_with fail
    refine (goodM_ok c _ _ _ _ _ _ _ _ _ _ _ OS0.out.st.R hs HOK.out false H1).mono ?_
    rintro e w1 ⟨rfl, hb1⟩
    have HB1 := Lib.hid (OS0.out.up hb1).st.bel
    clear hb1 x0 x1 x2 x3 x4 x5 hz
    go_wp2_with fail
    refine (alive_ok _).mono ?_
    rintro e w2 ⟨rfl, hb2⟩
    have HZ := Lib.hid (Below.then_ HB1.out hb2)
    clear hb2
    go_wp2
    go_ret
    exact ⟨rfl, HZ.out⟩
end Go.Proofs.Ytaakcpdpkcadjaa
