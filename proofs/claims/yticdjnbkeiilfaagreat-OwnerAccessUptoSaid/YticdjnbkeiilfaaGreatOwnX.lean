/-
  Access of a map of owners, walked; what it has to do with Allowed of package memory. No condition but on sizes.
-/
import Derived.BigQuiet
import Derived.Test.YticdjnbkeiilfaaGreatOwnI
import Derived.Test.YticdjnbkeiilfaaGreatMemB
import Derived.Test.YticdjnbkeiilfaaGreatMemP
namespace Go.Proofs.YticdjnbkeiilfaaGreat
open Go.RowKit
theorem accFn_ok (x : Reg) (p m : Int) (bp bm : Nat) (w : World) (hB : PmBox w bp bm p m) :
    Calls Tryz.prog 55 #[.agg #[.int .u64 x.base, .int .u64 x.size, .int .u16 x.part, .int .u8 x.rights, .bool x.shared], .pointer (some ⟨bp, 0, none⟩), .pointer (some ⟨bm, 0, none⟩)] w fun e w' => e = .returned (.bool (keepR p m x)) ∧ Below w.heap.size w w' := by
  obtain ⟨W1, hW, rb, hb1⟩ := RgBox.new w x 41
  obtain ⟨hp1, hm1, _, _⟩ := hB.up hb1
  have HW := Lib.hid hW
  obtain ⟨p0, p1, p2, p3, p4, hz⟩ := rb
  clear hW
  by_cases h1 : x.part = p
  · by_cases h2 : bits .and .u8 x.rights m = m
    · have HV := Lib.hid (show keepR p m x = true by unfold keepR; simp [h1, h2])
      rw [h1] at p2
      clear h1
      go_enter Tryz.func55, Tryz.ntmps55
      go_upto_region 1 with (fail)
      rw [HW.out]
      go_wp2
      go_ret
      exact ⟨ret_bool HV.out.symm, hb1⟩
    · have HV := Lib.hid (show keepR p m x = false by unfold keepR; simp [h2])
      rw [h1] at p2
      clear h1
      go_enter Tryz.func55, Tryz.ntmps55
      go_upto_region 1 with (fail)
      rw [HW.out]
      go_wp2
      go_ret
      exact ⟨ret_bool (by rw [HV.out]; simp [h2]), hb1⟩
  · have HV := Lib.hid (show keepR p m x = false by unfold keepR; simp [h1])
    go_enter Tryz.func55, Tryz.ntmps55
    go_upto_region 1 with (fail)
    rw [HW.out]
    go_wp2
    go_ret
    exact ⟨ret_bool HV.out.symm, hb1⟩
theorem accFn_val (x : Reg) (p m : Int) (bp bm : Nat) (w : World) (hB : PmBox w bp bm p m) (v : Bool) (hv : Hid (keepR p m x = v)) :
    Calls Tryz.prog 55 #[.agg #[.int .u64 x.base, .int .u64 x.size, .int .u16 x.part, .int .u8 x.rights, .bool x.shared], .pointer (some ⟨bp, 0, none⟩), .pointer (some ⟨bm, 0, none⟩)] w fun e w' => e = .returned (.bool v) ∧ Below w.heap.size w w' := by
  have h := accFn_ok x p m bp bm w hB
  rwa [hv.out] at h
set_option maxRecDepth 100000 in
set_option maxHeartbeats 2000000 in
theorem indexAcc_ok (l : List Reg) (A : Option Addr) (c : Nat) (p m : Int) (bp bm : Nat) (w : World) (hl : l.length ≤ 4194304) (hB : PmBox w bp bm p m) (hP : Rd w w.heap.size 5 A l.length (l.flatMap Reg.cells)) :
    Calls Tryz.prog 110 #[.slice A l.length c, .func (.func 55) #[] #[.pointer (some ⟨bp, 0, none⟩), .pointer (some ⟨bm, 0, none⟩)]] w
      fun e w' => (∃ k : Int, e = .returned (.int .i64 k) ∧ ((k = -1 ∧ l.any (keepR p m) = false) ∨ (0 ≤ k ∧ l.any (keepR p m) = true))) ∧ Below w.heap.size w w' := by
  have hent : ∀ a w, (callFunc 55 a).run Tryz.prog w = .ok (.enter 55 a) w := enters_of Tryz.func55 (by kernel_rfl) rfl
  have HP := Lib.hid hP
  have HB := Lib.hid hB
  clear hP hB
  go_enter Tryz.func110, Tryz.ntmps110
  go_wp2
  go_loopw [8] (fun i wr => ∃ k : Nat, k ≤ l.length ∧ i = .int .i64 k ∧ Hid (∀ x ∈ l.take k, keepR p m x = false) ∧ Hid (Below w.heap.size w wr)) (fun i _ => l.length - (intOf i).toNat)
  case atStart => exact ⟨0, Nat.zero_le _, rfl, Lib.hid (by simp), Lib.hid (Below.refl _ _)⟩
  case round =>
    obtain ⟨k, hk, rfl, HK, HW⟩ := hrel
    by_cases hkl : k < l.length
    · obtain ⟨x, hx⟩ := get_lt hkl
      have HX := Lib.hid hx
      obtain ⟨bb, o, rfl, hbb, g0, g1, g2, g3, g4⟩ := reg_at (HP.out.up HW.out) hx
      have HBk := Lib.hid (HB.out.up HW.out)
      have n0 : (0 : Int) ≤ (k : Int) := by omega
      have n1 : (k : Int) < (l.length : Int) := by omega
      obtain ⟨v, hv⟩ : ∃ v, keepR p m x = v := ⟨_, rfl⟩
      have HV := Lib.hid hv
      clear hx hv
      go_wp2_with fail
      refine (accFn_val x p m bp bm wr HBk.out v HV).mono ?_
      rintro e w2 ⟨rfl, hb2⟩
      have HW2 := Lib.hid (Below.then_ HW.out hb2)
      clear hb2 g0 g1 g2 g3 g4 hbb
      cases v
      · go_wp2
        go_roundw
        case rel => exact ⟨k + 1, by omega, by go_num, Lib.hid (by rw [take_next HX.out]; intro y hy; rcases List.mem_append.1 hy with hy | hy; exact HK.out y hy; rw [List.mem_singleton] at hy; rw [hy]; exact HV.out), HW2⟩
        case measure => simp [intOf]; omega
      · have HT := Lib.hid (show l.any (keepR p m) = true from List.any_eq_true.2 ⟨x, List.mem_of_getElem? HX.out, HV.out⟩)
        go_wp2
        go_ret
        exact ⟨⟨_, rfl, .inr ⟨n0, HT.out⟩⟩, HW2.out⟩
    · obtain rfl : k = l.length := by omega
      have HT := Lib.hid (show l.any (keepR p m) = false from by
        have h := HK.out
        rw [List.take_length] at h
        rw [List.any_eq_false]
        intro y hy
        rw [h y hy]
        decide)
      go_wp2
      go_ret
      exact ⟨⟨_, rfl, .inl ⟨rfl, HT.out⟩⟩, HW.out⟩
theorem contAcc_ok (l : List Reg) (A : Option Addr) (c : Nat) (p m : Int) (bp bm : Nat) (w : World) (v : Bool) (hv : Hid (l.any (keepR p m) = v)) (hl : l.length ≤ 4194304) (hB : PmBox w bp bm p m) (hP : Rd w w.heap.size 5 A l.length (l.flatMap Reg.cells)) :
    Calls Tryz.prog 54 #[.slice A l.length c, .func (.func 55) #[] #[.pointer (some ⟨bp, 0, none⟩), .pointer (some ⟨bm, 0, none⟩)]] w fun e w' => e = .returned (.bool v) ∧ Below w.heap.size w w' := by
  have HI := Lib.hid (indexAcc_ok l A c p m bp bm w hl hB hP)
  clear hB hP
  go_enter Tryz.func54, Tryz.ntmps54
  go_wp2_with fail
  refine HI.out.mono ?_
  rintro e w1 ⟨⟨k, rfl, hk⟩, hb⟩
  have HB := Lib.hid hb
  rcases hk with ⟨rfl, hk⟩ | ⟨h0, hk⟩
  · have HV := Lib.hid (hv.out.symm.trans hk)
    clear hb hk
    go_wp2
    go_ret
    exact ⟨by rw [HV.out]; rfl, HB.out⟩
  · have HV := Lib.hid (hv.out.symm.trans hk)
    clear hb hk
    go_wp2
    go_ret
    exact ⟨by rw [HV.out]; first | rfl | (simp; omega), HB.out⟩
set_option maxRecDepth 100000 in
set_option maxHeartbeats 2000000 in
theorem cAccess_ok {W : World} {lo mb : Nat} {l : List Reg} (h : MapC W lo mb l) (p x m : Int) (h0 : 0 ≤ x) (h1 : x ≤ 18446744073709551615) (v : Bool) (hv : Hid ((l.filter (fun r => covR r x)).any (keepR p m) = v)) :
    Calls Tryz.prog 25 #[.pointer (some ⟨mb, 0, none⟩), .int .u16 p, .int .u64 x, .int .u8 m] W fun r w' => r = .returned (.bool v) ∧ Below W.heap.size W w' := by
  have hb1 := below_one W (.cells #[.int .u16 p] 37)
  have hb2 := below_one (W.alloc (.cells #[.int .u16 p] 37)) (.cells #[.int .u8 m] 5)
  have k1 := (Blk.new W 37 #[.int .u16 p]).alloc (.cells #[.int .u8 m] 5)
  have k2 := Blk.new (W.alloc (.cells #[.int .u16 p] 37)) 5 #[.int .u8 m]
  have H := Lib.hid ((h.up hb1).up hb2)
  have HB := Lib.hid (Below.then_ hb1 hb2)
  have hz : (W.alloc (.cells #[.int .u16 p] 37)).heap.size = W.heap.size + 1 := by simp
  rw [hz] at k2
  have hlen := h.len
  obtain ⟨R, hR⟩ : ∃ R, l.filter (fun r => covR r x) = R := ⟨_, rfl⟩
  have HR := Lib.hid hR
  have hrl : R.length ≤ 4194304 := by rw [← hR]; have := List.length_filter_le (fun r => covR r x) l; omega
  have HV := Lib.hid (show R.any (keepR p m) = v by rw [← hR]; exact hv.out)
  clear h hb1 hb2 hz hR hv
  go_enter Tryz.func25, Tryz.ntmps25
  go_upto_region 1 with (fail)
  generalize World.alloc (World.alloc W _) _ = W1 at k1 k2 H HB ⊢
  have K1 := Lib.hid k1
  have K2 := Lib.hid k2
  generalize hgx : W.heap.size = gx at *
  clear k1 k2
  go_wp2_with fail
  refine (cAll_ok H.out x h0 h1 R HR).mono ?_
  rintro r w2 ⟨v2, rfl, ho2, hb2⟩
  obtain ⟨D2, d2, rfl, _, _, hr2⟩ := own_form ho2
  have HR2 := Lib.hid hr2
  have HB2 := Lib.hid (show Below gx W w2 from HB.out.trans (hb2.mono (by have := HB.out.size; omega)))
  have HPM := Lib.hid (show PmBox w2 gx (gx + 1) p m from by
    have q0 := (K1.out.below hb2 K1.out.lt).cell 0
    have q1 := (K2.out.below hb2 K2.out.lt).cell 0
    simp at q0 q1
    exact ⟨q0, q1, (K1.out.below hb2 K1.out.lt).lt, (K2.out.below hb2 K2.out.lt).lt⟩)
  clear ho2 hb2 hr2
  go_wp2_with fail
  refine (contAcc_ok R D2 d2 p m gx (gx + 1) w2 v HV hrl HPM.out HR2.out).mono ?_
  rintro r w3 ⟨rfl, hb3⟩
  have HB3 := Lib.hid (show Below gx W w3 from HB2.out.trans (hb3.mono (by have := HB2.out.size; omega)))
  clear hb3
  go_wp2
  go_ret
  exact ⟨rfl, by rw [hgx]; exact HB3.out⟩
/-- Access is what Allowed says of one address -/
theorem access_allow {c : Cfg} {l : List Reg} (hp : l.Perm c.regs) (p x m : Int) (h0 : 0 ≤ x) (h1 : x ≤ 18446744073709551615) : allowB x 1 (covB (ofL c p m) x 1) = (l.filter (fun r => covR r x)).any (keepR p m) := by
  have hv : validB x 1 = true := decide_eq_true ⟨by omega, by omega⟩
  unfold allowB
  rw [if_neg (by decide), hv, Bool.true_and, Bool.eq_iff_iff, covB_iff, List.any_eq_true]
  constructor
  · intro h
    obtain ⟨r, hr, ho⟩ := h x (Int.le_refl _) (by omega)
    have h2 := ownsB_iff.1 ho
    obtain ⟨h3, h4⟩ := List.mem_filter.1 hr
    exact ⟨r, List.mem_filter.2 ⟨hp.mem_iff.2 h3, covR_iff.2 ⟨h2.1, by unfold lastR; omega⟩⟩, h4⟩
  · rintro ⟨r, hr, hk⟩ a ha1 ha2
    obtain rfl : a = x := by omega
    obtain ⟨h3, h4⟩ := List.mem_filter.1 hr
    have h5 := covR_iff.1 h4
    unfold lastR at h5
    exact ⟨r, List.mem_filter.2 ⟨hp.mem_iff.1 h3, hk⟩, ownsB_iff.2 ⟨h5.1, by omega⟩⟩
end Go.Proofs.YticdjnbkeiilfaaGreat
