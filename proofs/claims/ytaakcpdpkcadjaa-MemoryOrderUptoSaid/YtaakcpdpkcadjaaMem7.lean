/-
  Allowed of package memory, walked: every address of the range belongs to one of the regions.
-/
import Derived.Test.YtaakcpdpkcadjaaMem4
import Derived.Test.YtaakcpdpkcadjaaMem6
namespace Go.Proofs.Ytaakcpdpkcadjaa
open Go.RowKit
def Cov (l : List Reg) (b s : Int) : Prop := ∀ a, b ≤ a → a < b + s → ∃ r ∈ l, ownsB r a = true
noncomputable def covB (l : List Reg) (b s : Int) : Bool := @decide (Cov l b s) (Classical.propDecidable _)
theorem covB_yes {l : List Reg} {b s : Int} (h : Cov l b s) : covB l b s = true := by unfold covB; exact @decide_eq_true _ (Classical.propDecidable _) h
theorem covB_no {l : List Reg} {b s : Int} (h : ¬ Cov l b s) : covB l b s = false := by unfold covB; exact @decide_eq_false _ (Classical.propDecidable _) h
/-- f is how far the regions of l reach from b -/
def Far (l : List Reg) (b f : Int) : Prop := 0 ≤ f ∧ (f = 0 → ∀ r ∈ l, ownsB r b = false) ∧ (0 < f → ∃ r ∈ l, ownsB r b = true ∧ f = r.size - (b - r.base))
theorem Far.nil {b : Int} : Far [] b 0 := ⟨Int.le_refl _, fun _ r hr => by simp at hr, fun h => absurd h (Int.lt_irrefl _)⟩
theorem Far.skip {l : List Reg} {b f : Int} {r : Reg} (h : Far l b f) (hr : ownsB r b = false) : Far (l ++ [r]) b f :=
  ⟨h.1, fun h0 x hx => by rcases List.mem_append.1 hx with hx | hx; exact h.2.1 h0 x hx; rw [List.mem_singleton] at hx; rw [hx]; exact hr,
    fun h0 => by obtain ⟨x, hx, h1⟩ := h.2.2 h0; exact ⟨x, by simp [hx], h1⟩⟩
theorem ownsB_iff {r : Reg} {a : Int} : ownsB r a = true ↔ r.base ≤ a ∧ a - r.base < r.size := by
  unfold ownsB; simp
theorem Far.take_ {l : List Reg} {b : Int} {r : Reg} (hr : ownsB r b = true) : Far (l ++ [r]) b (r.size - (b - r.base)) := by
  have := ownsB_iff.1 hr
  exact ⟨by omega, fun h0 => by omega, fun _ => ⟨r, by simp, hr, rfl⟩⟩
theorem Far.keep {l : List Reg} {b f : Int} {r : Reg} (h : Far l b f) (hr : ownsB r b = true) (hf : r.size - (b - r.base) ≤ f) : Far (l ++ [r]) b f := by
  have := ownsB_iff.1 hr
  refine ⟨h.1, fun h0 => by omega, fun h0 => ?_⟩
  obtain ⟨x, hx, h1⟩ := h.2.2 h0
  exact ⟨x, by simp [hx], h1⟩
theorem Far.none_ {l : List Reg} {b s : Int} (h : Far l b 0) (hs : 0 < s) : ¬ Cov l b s := fun hc => by
  obtain ⟨r, hr, ho⟩ := hc b (Int.le_refl _) (by omega)
  rw [h.2.1 rfl r hr] at ho
  cases ho
theorem Far.reach {l : List Reg} {b f : Int} (h : Far l b f) (hf : 0 < f) : Cov l b f := by
  obtain ⟨r, hr, ho, e⟩ := h.2.2 hf
  have := ownsB_iff.1 ho
  intro a h1 h2
  exact ⟨r, hr, ownsB_iff.2 ⟨by omega, by omega⟩⟩
theorem Cov.join {l : List Reg} {b s f : Int} (h : Cov l b f) (k : Cov l (b + f) s) : Cov l b (f + s) := fun a h1 h2 => by
  rcases Int.lt_or_le a (b + f) with h3 | h3
  · exact h a h1 h3
  · exact k a h3 (by omega)
theorem Cov.tail {l : List Reg} {b s f : Int} (h : Cov l b s) (hf : 0 ≤ f) : Cov l (b + f) (s - f) := fun a h1 h2 => h a (by omega) (by omega)
theorem Cov.less {l : List Reg} {b s f : Int} (h : Cov l b s) (hf : f ≤ s) : Cov l b f := fun a h1 h2 => h a h1 (by omega)
theorem Cov.empty {l : List Reg} {b s : Int} (h : s ≤ 0) : Cov l b s := fun a h1 h2 => by omega
def allowB (b s : Int) (v : Bool) : Bool := if s = 0 then true else validB b s && v
set_option maxRecDepth 100000 in
set_option maxHeartbeats 4000000 in
theorem memAllowed_ok (c : Cfg) (A1 A2 A3 A4 A5 : Option Addr) (c1 c2 c3 c4 c5 : Nat) (w : World) (hR : CfgR w w.heap.size c A1 A2 A3 A4 A5 c1 c2 c3 c4 c5) (hs : c.small) (hok : c.ok) (p m b s : Int) (hb : wU64 b) (hz : wU64 s) : Calls Try.prog 16 #[cfgV c.frame A1 A2 A3 A4 A5 c.parts.length c.wins.length c.regs.length c.ports.length c.chans.length c1 c2 c3 c4 c5, .int .u16 p, .int .u64 b, .int .u64 s, .int .u8 m] w fun e w' => e = .returned (.bool (allowB b s (covB (ofL c p m) b s))) ∧ Below w.heap.size w w' := by
  obtain ⟨W0, hW, st⟩ := St.start_any hR 29
  have HW := Lib.hid hW
  have ST0 := Lib.hid st
  have hbd := hs.bd
  have br := hbd.r
  have HOK := Lib.hid hok
  have bb := Go.bounds_u64 hb
  have bz := Go.bounds_u64 hz
  obtain ⟨x0, x1, x2, x3, x4, x5, hzz⟩ := st.cells
  clear hR hW st hbd hok
  by_cases h0 : s = 0
  · subst h0
    have HV := Lib.hid (show allowB b 0 (covB (ofL c p m) b 0) = true by unfold allowB; rw [if_pos rfl])
    have hb1 := below_one W0 (.cells #[.int .u64 b, .int .u64 0] 75)
    have HB1 := Lib.hid (ST0.out.up hb1).bel
    clear hb1
    go_enter Try.func16, Try.ntmps16
    go_upto_region 1 with (fail)
    rw [HW.out]
    go_wp2
    go_ret
    exact ⟨ret_bool HV.out.symm, HB1.out⟩
  · have hb1 := below_one W0 (.cells #[.int .u64 b, .int .u64 s] 75)
    have ST1 := Lib.hid (ST0.out.up hb1)
    clear hb1
    by_cases hv : validB b s = true
    · have hok2 := validB_ok bb.1 hv
      have hsum := hok2.2.2
      have HVB := Lib.hid hv
      have HAL := Lib.hid (show allowB b s (covB (ofL c p m) b s) = covB (ofL c p m) b s by unfold allowB; rw [if_neg h0, hv, Bool.true_and])
      have hlreg : ∀ r ∈ ofL c p m, wU64 r.base ∧ wU64 r.size := fun r hr => ⟨(HOK.out.regs r (List.mem_filter.1 hr).1).base, (HOK.out.regs r (List.mem_filter.1 hr).1).size⟩
      have HLR := Lib.hid hlreg
      have hll : (ofL c p m).length ≤ 1048576 := Nat.le_trans (List.length_filter_le _ _) br
      have hs0 : 0 < s := by omega
      clear hv hok2 hlreg
      rw [HAL.out]
      clear HAL
      obtain ⟨l, hl⟩ : ∃ l, ofL c p m = l := ⟨_, rfl⟩
      rw [hl] at HLR hll ⊢
      have HL := Lib.hid hl
      clear hl
      go_enter Try.func16, Try.ntmps16
      go_upto_region 1 with (fail)
      rw [HW.out]
      go_wp2_with fail
      refine (swpValid_ok b s _ hb hz).mono ?_
      rw [HVB.out]
      rintro e w2 ⟨rfl, hb2⟩
      have ST2 := Lib.hid (ST1.out.up hb2)
      clear hb2 x0 x1 x2 x3 x4 x5 hzz
      obtain ⟨x0, x1, x2, x3, x4, x5, hzz⟩ := ST2.out.cells
      go_wp2_with fail
      refine (memOf_ok c _ _ _ _ _ _ _ _ _ _ _ ST2.out.R hs p m).mono ?_
      rw [HL.out]
      rintro e w3 ⟨v, rfl, ho, hb3⟩
      have HB3 := Lib.hid (ST2.out.up hb3).bel
      obtain ⟨RA, rc, rfl, _, _, hrd⟩ := own_form ho
      have HRD := Lib.hid hrd
      clear ho hrd hb3 x0 x1 x2 x3 x4 x5 hzz hb hz
      go_wp2
      go_loopw [2, 3] (fun vb vs wr => ∃ b' s' : Int, vb = .int .u64 b' ∧ vs = .int .u64 s' ∧ 0 < s' ∧ b ≤ b' ∧ b' + s' = b + s ∧ Hid (Cov l b (b' - b)) ∧ Hid (Below w3.heap.size w3 wr)) (fun _ vs _ => (intOf vs).toNat)
      case atStart => exact ⟨b, s, rfl, rfl, hs0, Int.le_refl _, rfl, Lib.hid (Cov.empty (by omega)), Lib.hid (Below.refl _ _)⟩
      case round =>
        obtain ⟨b', s', rfl, rfl, hs1, hbb1, hbs, HC, HB⟩ := hrel
        generalize hwo : wr = wo at HB ⊢
        clear hwo
        go_wp2
        go_loopw [13, 30] (fun vf vi wr => ∃ (k : Nat) (f : Int), k ≤ l.length ∧ vi = .int .i64 k ∧ vf = .int .u64 f ∧ f ≤ 18446744073709551615 ∧ Hid (Far (l.take k) b' f) ∧ Hid (Below w3.heap.size w3 wr)) (fun _ vi _ => l.length - (intOf vi).toNat)
        case atStart => exact ⟨0, 0, Nat.zero_le _, rfl, rfl, by omega, Lib.hid Far.nil, HB⟩
        case round =>
          obtain ⟨k, f, hk, rfl, rfl, hf1, HF, HBk⟩ := hrel
          have hf0 := HF.out.1
          by_cases hkl : k < l.length
          · obtain ⟨x, hx⟩ := get_lt hkl
            obtain ⟨hxb, hxs⟩ := HLR.out x (List.mem_of_getElem? hx)
            have yb := Go.bounds_u64 hxb
            have ys := Go.bounds_u64 hxs
            have HTK := Lib.hid (take_next hx)
            obtain ⟨bk, o, rfl, hbk, g0, g1, g2, g3, g4⟩ := reg_at (HRD.out.up HBk.out) hx
            have n0 : (0 : Int) ≤ (k : Int) := by omega
            have n1 : (k : Int) < (l.length : Int) := by omega
            clear hx hxb hxs
            go_upto_region 11 with (fail)
            obtain ⟨W4, hW4, rb, hb4⟩ := RgBox.new wr x 43
            rw [hW4]
            have HB4 := Lib.hid (Below.then_ HBk.out hb4)
            obtain ⟨p0, p1, p2, p3, p4, hg⟩ := rb
            clear hW4 hb4 g0 g1 g2 g3 g4 hbk
            by_cases h1 : x.base ≤ b'
            · have hw1 : IntKind.u64.wrap (b' - x.base) = b' - x.base := by rw [IntKind.wrap_u64]; omega
              by_cases h2 : b' - x.base < x.size
              · have hw2 : IntKind.u64.wrap (x.size - (b' - x.base)) = x.size - (b' - x.base) := by rw [IntKind.wrap_u64]; omega
                have ho : ownsB x b' = true := ownsB_iff.2 ⟨h1, h2⟩
                rcases Int.lt_or_le f (x.size - (b' - x.base)) with h3 | h3
                · have HN := Lib.hid (show Far (l.take (k + 1)) b' (x.size - (b' - x.base)) by rw [HTK.out]; exact Far.take_ ho)
                  have hmx : max f (x.size - (b' - x.base)) = x.size - (b' - x.base) := Int.max_eq_right (by omega)
                  clear ho
                  go_wp2
                  go_roundw
                  case rel => exact ⟨k + 1, _, by omega, by go_num, rfl, by omega, HN, HB4⟩
                  case measure => simp [intOf]; omega
                · have HN := Lib.hid (show Far (l.take (k + 1)) b' f by rw [HTK.out]; exact HF.out.keep ho h3)
                  have hmx : max f (x.size - (b' - x.base)) = f := Int.max_eq_left (by omega)
                  clear ho
                  go_wp2
                  go_roundw
                  case rel => exact ⟨k + 1, f, by omega, by go_num, rfl, hf1, HN, HB4⟩
                  case measure => simp [intOf]; omega
              · have HN := Lib.hid (show Far (l.take (k + 1)) b' f by rw [HTK.out]; exact HF.out.skip (by unfold ownsB; rw [decide_eq_false h2, Bool.and_false]))
                go_wp2
                go_roundw
                case rel => exact ⟨k + 1, f, by omega, by go_num, rfl, hf1, HN, HB4⟩
                case measure => simp [intOf]; omega
            · have HN := Lib.hid (show Far (l.take (k + 1)) b' f by rw [HTK.out]; exact HF.out.skip (by unfold ownsB; rw [decide_eq_false h1, Bool.false_and]))
              go_wp2
              go_roundw
              case rel => exact ⟨k + 1, f, by omega, by go_num, rfl, hf1, HN, HB4⟩
              case measure => simp [intOf]; omega
          · obtain rfl : k = l.length := by omega
            have hfar : Far l b' f := by have := HF.out; rwa [List.take_length] at this
            have HZ := Lib.hid (Below.trans HB3.out (HBk.out.mono HB3.out.size))
            by_cases hfz : f = 0
            · subst hfz
              have HV := Lib.hid (covB_no (l := l) (b := b) (s := s) (fun hc => hfar.none_ hs1 (by
                have h := hc.tail (f := b' - b) (by omega)
                rwa [show b + (b' - b) = b' from by omega, show s - (b' - b) = s' from by omega] at h)))
              clear hfar
              go_wp2
              go_ret
              exact ⟨ret_bool HV.out.symm, HZ.out⟩
            · have hfp : 0 < f := by omega
              have hreach := hfar.reach hfp
              by_cases hfs : s' ≤ f
              · have HV := Lib.hid (covB_yes (l := l) (b := b) (s := s) (by
                  have h := Cov.join HC.out (s := s') (by rw [show b + (b' - b) = b' from by omega]; exact hreach.less hfs)
                  rwa [show b' - b + s' = s from by omega] at h))
                clear hfar hreach
                go_wp2
                go_ret
                exact ⟨ret_bool HV.out.symm, HZ.out⟩
              · have HCN := Lib.hid (show Cov l b (b' + f - b) by
                  have h := Cov.join HC.out (s := f) (by rw [show b + (b' - b) = b' from by omega]; exact hreach)
                  rwa [show b' - b + f = b' + f - b from by omega] at h)
                have hw1 : IntKind.u64.wrap (b' + f) = b' + f := by rw [IntKind.wrap_u64]; omega
                have hw2 : IntKind.u64.wrap (s' - f) = s' - f := by rw [IntKind.wrap_u64]; omega
                clear hfar hreach
                go_wp2
                go_roundw
                case rel => exact ⟨b' + f, s' - f, rfl, rfl, by omega, by omega, by omega, HCN, HBk⟩
                case measure => simp [intOf]; omega
    · have hv2 : validB b s = false := by simpa using hv
      have HV := Lib.hid (show allowB b s (covB (ofL c p m) b s) = false by unfold allowB; rw [if_neg h0, hv2]; rfl)
      have HVB := Lib.hid hv2
      clear hv hv2
      go_enter Try.func16, Try.ntmps16
      go_upto_region 1 with (fail)
      rw [HW.out]
      go_wp2_with fail
      refine (swpValid_ok b s _ hb hz).mono ?_
      rw [HVB.out]
      rintro e w2 ⟨rfl, hb2⟩
      have HB2 := Lib.hid (ST1.out.up hb2).bel
      clear hb2
      go_wp2
      go_ret
      exact ⟨ret_bool HV.out.symm, HB2.out⟩
end Go.Proofs.Ytaakcpdpkcadjaa
