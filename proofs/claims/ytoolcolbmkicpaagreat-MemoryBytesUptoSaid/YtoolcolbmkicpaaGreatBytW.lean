/-
  Bytes of package memory, walked: the addresses of a partition, counted.
-/
import Derived.BigQuiet
import Derived.Test.YtoolcolbmkicpaaGreatGapW
import Derived.Test.YtoolcolbmkicpaaGreatMemP
namespace Go.Proofs.YtoolcolbmkicpaaGreat
open Go.RowKit
attribute [local go_sem] ext_cell
/-- a span that has the last address -/
def topS (s : Spn) : Bool := decide (s.lo + s.len = 18446744073709551616)
theorem chkTop_ok (s : Spn) (w : World) (hs : okSp s.lo s.len) (v : Bool) (hv : Hid (topS s = v)) : Calls Tryz.prog 22 #[.agg #[.int .u64 s.lo, .int .u64 s.len]] w fun e w' => e = .returned (.bool v) ∧ Below w.heap.size w w' := by
  have h0 := hs.1
  have h1 := hs.2.1
  have h2 := hs.2.2
  have hb := below_one w (.cells #[.int .u64 s.lo, .int .u64 s.len] 57)
  have HB := Lib.hid hb
  have hd : (IntKind.u64.wrap (s.lo + s.len) == 0) = v := by
    rw [← hv.out]
    unfold topS
    rw [Bool.eq_iff_iff, beq_iff_eq, decide_eq_true_iff, IntKind.wrap_u64]
    omega
  have HD := Lib.hid hd
  clear hb hd hv
  go_enter Tryz.func22, Tryz.ntmps22
  go_wp2
  go_ret
  exact ⟨ret_bool (by first | exact HD.out | simpa using HD.out), HB.out⟩
set_option maxRecDepth 100000 in
set_option maxHeartbeats 2000000 in
theorem idxTop_ok (l : List Spn) (A : Option Addr) (cp : Nat) (w : World) (hl : l.length ≤ 4194304) (hsp : ∀ s ∈ l, okSp s.lo s.len) (hR : Rd w w.heap.size 2 A l.length (l.flatMap Spn.cells)) (v : Int) (hv : Hid (idx topS l = v)) :
    Calls Tryz.prog 44 #[.slice A l.length cp, .func (.func 22) #[] #[]] w fun e w' => e = .returned (.int .i64 v) ∧ Below w.heap.size w w' := by
  have hent : ∀ a w, (callFunc 22 a).run Tryz.prog w = .ok (.enter 22 a) w := enters_of Tryz.func22 (by kernel_rfl) rfl
  have HR := Lib.hid hR
  have HSP := Lib.hid hsp
  clear hR hsp
  go_enter Tryz.func44, Tryz.ntmps44
  go_wp2
  go_loopw [8] (fun i wr => ∃ k : Nat, k ≤ l.length ∧ i = .int .i64 k ∧ Hid (v = idxFrom topS k (l.drop k)) ∧ Hid (Below w.heap.size w wr)) (fun i _ => l.length - (intOf i).toNat)
  case atStart => exact ⟨0, Nat.zero_le _, rfl, Lib.hid (by rw [← hv.out]; rfl), Lib.hid (Below.refl _ _)⟩
  case round =>
    obtain ⟨k, hk, rfl, HI, HW⟩ := hrel
    by_cases hlt : k < l.length
    · obtain ⟨x, hx⟩ := get_lt hlt
      obtain ⟨b, o, rfl, hb, g0, g1⟩ := spn_at (HR.out.up HW.out) hx
      have k0 : (0 : Int) ≤ (k : Int) := by omega
      have k1 : (k : Int) < (l.length : Int) := by omega
      have HX := Lib.hid hx
      have HOX := Lib.hid (HSP.out x (List.mem_of_getElem? hx))
      obtain ⟨u, hu⟩ : ∃ u, topS x = u := ⟨_, rfl⟩
      have HU := Lib.hid hu
      clear hx hu
      go_wp2_with fail
      refine (chkTop_ok x _ HOX.out u HU).mono ?_
      rintro e w1 ⟨rfl, hb1⟩
      have HB1 := Lib.hid (Below.then_ HW.out hb1)
      clear hb1 g0 g1
      cases u
      · go_wp2
        go_roundw
        case rel => exact ⟨k + 1, by omega, by go_num, Lib.hid (idx_miss HI.out HX.out HU.out), HB1⟩
        case measure => simp [intOf]; omega
      · have HV := Lib.hid (idx_hit HI.out HX.out HU.out)
        go_wp2
        go_ret
        exact ⟨by rw [HV.out]; rfl, HB1.out⟩
    · obtain rfl : k = l.length := by omega
      have HV := Lib.hid (idx_end HI.out)
      go_wp2
      go_ret
      exact ⟨by rw [HV.out]; rfl, HW.out⟩
theorem idx_any {α : Type} (p : α → Bool) : ∀ (l : List α) (i : Nat), 0 ≤ idxFrom p i l ↔ l.any p = true
  | [], i => by simp [idxFrom]
  | a :: r, i => by
    unfold idxFrom
    cases hp : p a with
    | true => simp [hp]
    | false => rw [if_neg (by simp), idx_any p r (i + 1)]; simp [hp]
theorem idx_big {α : Type} (p : α → Bool) : ∀ (l : List α) (i : Nat), -1 ≤ idxFrom p i l ∧ idxFrom p i l ≤ (i + l.length : Nat)
  | [], i => by simp [idxFrom]
  | a :: r, i => by
    unfold idxFrom
    have := idx_big p r (i + 1)
    split <;> simp <;> omega
set_option maxRecDepth 100000 in
set_option maxHeartbeats 2000000 in
theorem contTop_ok (l : List Spn) (A : Option Addr) (cp : Nat) (w : World) (hl : l.length ≤ 4194304) (hsp : ∀ s ∈ l, okSp s.lo s.len) (hR : Rd w w.heap.size 2 A l.length (l.flatMap Spn.cells)) (v : Bool) (hv : Hid (l.any topS = v)) :
    Calls Tryz.prog 21 #[.slice A l.length cp, .func (.func 22) #[] #[]] w fun e w' => e = .returned (.bool v) ∧ Below w.heap.size w w' := by
  obtain ⟨u, hu⟩ : ∃ u, idx topS l = u := ⟨_, rfl⟩
  have HU := Lib.hid hu
  have hd : decide (0 ≤ u) = v := by
    rw [← hv.out, ← hu, Bool.eq_iff_iff, decide_eq_true_iff]
    exact idx_any topS l 0
  have HD := Lib.hid hd
  clear hu hd hv
  go_enter Tryz.func21, Tryz.ntmps21
  go_wp2_with fail
  refine (idxTop_ok l A cp _ hl hsp hR u HU).mono ?_
  rintro e w1 ⟨rfl, hb1⟩
  have HB := Lib.hid hb1
  clear hb1
  go_wp2
  go_ret
  exact ⟨ret_bool (by first | exact HD.out | (rw [← HD.out]; simp)), HB.out⟩
theorem own_top {l : List Reg} (hsp : ∀ r ∈ l, okSp r.base r.size) {T : Nat} (hT : (T : Int) = 18446744073709551615) : (l.map spnOf).any topS = ownedB l (T : Int) := by
  unfold ownedB
  rw [List.any_map, Bool.eq_iff_iff, List.any_eq_true, List.any_eq_true]
  have key : ∀ r ∈ l, (topS ∘ spnOf) r = ownsB r (T : Int) := fun r hr => by
    have h := hsp r hr
    have h0 := h.1; have h1 := h.2.1; have h2 := h.2.2
    show topS (spnOf r) = ownsB r (T : Int)
    rw [Bool.eq_iff_iff, ← ownsB_has, hasS_iff]
    unfold topS spnOf lastS
    simp only [decide_eq_true_eq]
    omega
  constructor
  · rintro ⟨r, hr, h⟩; exact ⟨r, hr, by rw [← key r hr]; exact h⟩
  · rintro ⟨r, hr, h⟩; exact ⟨r, hr, by rw [key r hr]; exact h⟩
theorem sum_take {o : List Spn} (h : ∀ x ∈ o, okS x) {k : Nat} {x : Spn} (hx : o[k]? = some x) : ((o.take (k + 1)).map (·.len)).sum = ((o.take k).map (·.len)).sum + x.len ∧ 0 ≤ ((o.take k).map (·.len)).sum ∧ ((o.take k).map (·.len)).sum + x.len ≤ (o.map (·.len)).sum := by
  have e : ((o.take (k + 1)).map (·.len)).sum = ((o.take k).map (·.len)).sum + x.len := by
    rw [take_next hx, List.map_append, List.sum_append]; simp
  have h1 := sum_nonneg (o := o.take k) (fun y hy => h y (List.mem_of_mem_take hy))
  have h2 := sum_nonneg (o := o.drop (k + 1)) (fun y hy => h y (List.mem_of_mem_drop hy))
  have h3 : (o.map (·.len)).sum = ((o.take (k + 1)).map (·.len)).sum + ((o.drop (k + 1)).map (·.len)).sum := by
    rw [← List.sum_append, ← List.map_append, List.take_append_drop]
  exact ⟨e, by omega, by omega⟩
set_option maxRecDepth 100000 in
set_option maxHeartbeats 8000000 in
theorem memBytes_ok (c : Cfg) (A1 A2 A3 A4 A5 : Option Addr) (c1 c2 c3 c4 c5 : Nat) (w : World) (hR : CfgR w w.heap.size c A1 A2 A3 A4 A5 c1 c2 c3 c4 c5) (hs : c.small) (hsp : ∀ x ∈ c.regs, okSp x.base x.size) (p n : Int) (b : Bool) (hv : Hid (bytV (ofL c p 0) = (n, b))) : Calls Tryz.prog 6 #[cfgV c.frame A1 A2 A3 A4 A5 c.parts.length c.wins.length c.regs.length c.ports.length c.chans.length c1 c2 c3 c4 c5, .int .u16 p] w fun e w' => e = .returned (.tuple #[.int .u64 n, .bool b]) ∧ Below w.heap.size w w' := by
  obtain ⟨W0, hW, st⟩ := St.start_any hR 29
  have HW := Lib.hid hW
  have ST0 := Lib.hid st
  obtain ⟨L, hL⟩ : ∃ L, ofL c p 0 = L := ⟨_, rfl⟩
  have HL := Lib.hid hL
  have hLsub : ∀ r ∈ L, r ∈ c.regs := fun r hr => by rw [← hL] at hr; exact (List.mem_filter.1 hr).1
  have HSPL := Lib.hid (show ∀ r ∈ L, okSp r.base r.size from fun r hr => hsp r (hLsub r hr))
  have HSPM := Lib.hid (show ∀ s ∈ L.map spnOf, okSp s.lo s.len from fun s hs => by obtain ⟨r, hr, rfl⟩ := List.mem_map.1 hs; exact HSPL.out r hr)
  have hLl : L.length ≤ 1048576 := by rw [← hL]; exact Nat.le_trans (List.length_filter_le _ _) hs.bd.r
  obtain ⟨T, hT⟩ : ∃ T : Nat, T = 18446744073709551615 := ⟨_, rfl⟩
  have hTi : (T : Int) = 18446744073709551615 := by rw [hT]; rfl
  have HTI := Lib.hid hTi
  have HOL := Lib.hid (own_last L (T := T) (by rw [hT]; rfl))
  have HTOP := Lib.hid (own_top HSPL.out hTi)
  have hvv := hv.out
  rw [hL] at hvv
  have HVV := Lib.hid hvv
  obtain ⟨x0, x1, x2, x3, x4, x5, hz⟩ := st.cells
  clear hR hW st hL hT hTi hv hvv hsp hLsub
  go_enter Tryz.func6, Tryz.ntmps6
  go_upto_region 1 with (fail)
  rw [HW.out]
  go_wp2_with fail
  refine (memOf_ok c _ _ _ _ _ _ _ _ _ _ _ ST0.out.R hs p 0).mono ?_
  rintro e w1 ⟨v1, rfl, ho1, hb1⟩
  rw [HL.out] at ho1
  obtain ⟨RA, ra, rfl, _, _, hrd1⟩ := own_form ho1
  have HZ1 := Lib.hid (ST0.out.up hb1).bel
  clear hb1 ho1 x0 x1 x2 x3 x4 x5 hz
  go_wp2_with fail
  refine (memSpans_ok L RA ra w1 hLl hrd1).mono ?_
  rintro e w2 ⟨v2, rfl, ho2, hb2⟩
  obtain ⟨RB, rb, rfl, _, _, hrd2⟩ := own_form ho2
  have HRD2 := Lib.hid (show Rd w2 w2.heap.size 2 RB (L.map spnOf).length ((L.map spnOf).flatMap Spn.cells) by rw [List.length_map]; exact hrd2)
  have HZ2 := Lib.hid (Below.then_ HZ1.out hb2)
  have HLM := Lib.hid (show (L.map spnOf).length = L.length by simp)
  clear hb2 ho2 hrd1 hrd2
  have hgap := gaps_ok (cp := rb) (by rw [HLM.out]; exact hLl) HSPM.out HRD2.out
  rw [HLM.out] at hgap
  go_wp2_with fail
  refine hgap.mono ?_
  rintro e w3 ⟨v3, o, d, rfl, ho3, hp3, hd3, hb3⟩
  obtain ⟨RC, rc, rfl, _, _, hrd3⟩ := own_form ho3
  have HSUM := Lib.hid (gaps_sum HTI.out hp3 hd3)
  have HOK := Lib.hid (show ∀ y ∈ o, okS y from fun y hy => (hd3.1 y hy).1)
  have hol : o.length ≤ 1048577 := by have h1 := hd3.2.2.1; have h2 := hp3.length_eq; rw [itemsOf_len, List.length_map] at h2; omega
  have HRD3 := Lib.hid hrd3
  have HRE3 := Lib.hid (HRD2.out.up hb3)
  have HZ3 := Lib.hid (Below.then_ HZ2.out hb3)
  have HN0 := Lib.hid (cntB_le (ownedB L) T)
  obtain ⟨N0, hN0⟩ : ∃ N0, cntB (ownedB L) T = N0 := ⟨_, rfl⟩
  rw [hN0] at HSUM HN0 HOL
  clear hb3 ho3 hp3 hd3 hrd3 hN0 hgap
  go_wp2
  go_loopw [7, 18] (fun m i wr => ∃ k : Nat, k ≤ o.length ∧ i = .int .i64 k ∧ m = .int .u64 (18446744073709551615 - ((o.take k).map (·.len)).sum) ∧ Hid (Below w3.heap.size w3 wr)) (fun _ i _ => o.length - (intOf i).toNat)
  case atStart => exact ⟨0, Nat.zero_le _, rfl, by simp, Lib.hid (Below.refl _ _)⟩
  case round =>
    obtain ⟨k, hk, rfl, rfl, HB⟩ := hrel
    by_cases hlt : k < o.length
    · obtain ⟨x, hx⟩ := get_lt hlt
      obtain ⟨bb, of, rfl, hbb, g0, g1⟩ := spn_at (HRD3.out.up HB.out) hx
      have k0 : (0 : Int) ≤ (k : Int) := by omega
      have k1 : (k : Int) < (o.length : Int) := by omega
      obtain ⟨e1, e2, e3⟩ := sum_take HOK.out hx
      have hs1 := HSUM.out
      have hn1 := HN0.out
      have ht1 := HTI.out
      obtain ⟨S, hS⟩ : ∃ S, ((o.take k).map (·.len)).sum = S := ⟨_, rfl⟩
      rw [hS] at e1 e2 e3 ⊢
      have hxl := (HOK.out x (List.mem_of_getElem? hx)).2.1
      have hw : IntKind.u64.wrap (18446744073709551615 - S - x.len) = 18446744073709551615 - S - x.len := by rw [IntKind.wrap_u64]; omega
      have HE := Lib.hid e1
      have hba := below_one wr (.cells #[.int .u64 x.lo, .int .u64 x.len] 57)
      have HB2 := Lib.hid (Below.then_ HB.out hba)
      clear hx e1 e2 e3 hs1 hn1 ht1 hS hba hxl
      go_wp2
      go_roundw
      case rel => exact ⟨k + 1, by omega, by go_num, by rw [HE.out]; congr 1; omega, HB2⟩
      case measure => simp [intOf]; omega
    · obtain rfl : k = o.length := by omega
      rw [List.take_length]
      have hN : (18446744073709551615 : Int) - (o.map (·.len)).sum = (N0 : Int) := by have h1 := HSUM.out; have h2 := HTI.out; omega
      rw [hN]
      have HB' := Lib.hid (HRE3.out.up HB.out)
      have HZ4 := Lib.hid (Below.then_ HZ3.out HB.out)
      have hn1 := HN0.out
      have ht1 := HTI.out
      obtain ⟨t, ht⟩ : ∃ t, (L.map spnOf).any topS = t := ⟨_, rfl⟩
      have HT := Lib.hid ht
      have hol2 := HOL.out
      rw [← HTOP.out, ht] at hol2
      have HOL2 := Lib.hid hol2
      have hcon := contTop_ok (L.map spnOf) RB rb wr (by rw [HLM.out]; omega) HSPM.out HB'.out t HT
      rw [HLM.out] at hcon
      clear hN ht hol2
      go_wp2_with fail
      refine hcon.mono ?_
      rintro e w5 ⟨rfl, hb5⟩
      have HZ5 := Lib.hid (Below.then_ HZ4.out hb5)
      clear hb5 hcon
      have hbig := big64_int
      cases t
      · have hon : ownN L = N0 := by have := HOL2.out; simpa using this
        have hvv := HVV.out
        unfold bytV at hvv
        rw [hon, if_neg (by omega)] at hvv
        injection hvv with hv1 hv2
        subst hv1 hv2
        go_wp2
        go_ret2
        exact ⟨rfl, HZ5.out⟩
      · have hon : ownN L = N0 + 1 := by have := HOL2.out; simpa using this
        have hvv := HVV.out
        unfold bytV at hvv
        rw [hon] at hvv
        by_cases hfull : N0 + 1 = big64
        · rw [if_pos hfull] at hvv
          injection hvv with hv1 hv2
          subst hv1 hv2
          have hw : IntKind.u64.wrap ((N0 : Int) + 1) = 0 := by rw [IntKind.wrap_u64]; omega
          clear hfull hbig
          go_wp2
          go_ret2
          exact ⟨rfl, HZ5.out⟩
        · rw [if_neg hfull] at hvv
          injection hvv with hv1 hv2
          subst hv1 hv2
          have hw : IntKind.u64.wrap ((N0 : Int) + 1) = (N0 : Int) + 1 := by rw [IntKind.wrap_u64]; omega
          have hne : ((N0 : Int) + 1 == 0) = false := by rw [beq_eq_false_iff_ne]; omega
          clear hfull hbig
          go_wp2
          go_ret2
          exact ⟨by simp; omega, HZ5.out⟩
end Go.Proofs.YtoolcolbmkicpaaGreat
