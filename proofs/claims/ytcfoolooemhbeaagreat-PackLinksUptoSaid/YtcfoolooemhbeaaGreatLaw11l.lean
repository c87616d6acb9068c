/-
  The law PackLinks, walked.
-/
import Derived.BigQuiet
import Derived.Test.YtcfoolooemhbeaaGreatAlive11
import Derived.Test.YtcfoolooemhbeaaGreatRefH
namespace Go.Proofs.YtcfoolooemhbeaaGreat
open Go.RowKit Go.Lib
/-- a configuration of channels alone -/
def lC (l : List Chn) : Cfg := ⟨0, [], [], [], [], l⟩
theorem lR {l : List Chn} {cs : List Value} {A : Option Addr} {c : Nat} {w : World} (hC : ChnsC w w.heap.size l cs) (hr : Rd w w.heap.size 3 A l.length cs) (hc1 : l.length ≤ c) (hc2 : c ≤ maxLen) : CfgR w w.heap.size (lC l) none none none none A 0 0 0 0 c :=
  ⟨Rd.nil, Rd.nil, Rd.nil, Rd.nil, ⟨cs, hC, hr⟩, ⟨Nat.le_refl _, by unfold maxLen; omega⟩, ⟨Nat.le_refl _, by unfold maxLen; omega⟩, ⟨Nat.le_refl _, by unfold maxLen; omega⟩, ⟨Nat.le_refl _, by unfold maxLen; omega⟩, ⟨hc1, hc2⟩⟩
theorem chns_up {w w' : World} {l : List Chn} {cs : List Value} (h : ChnsC w w.heap.size l cs) (hb : Below w.heap.size w w') : ChnsC w' w'.heap.size l cs := ChnsC.more hb.size (ChnsC.keep (fun b o hk => hb.cell (p := ⟨b, o, none⟩) hk) h)
theorem hd_at {w : World} {B n : Nat} {A : Option Addr} {l : List Chn} (h : Rd w B 3 A n ((l.map hdT).flatMap hdC)) (hn : n = l.length) {k : Nat} {x : Chn} (hk : l[k]? = some x) :
    ∃ b o, A = some ⟨b, o, none⟩ ∧ b < B ∧ w.cell? ⟨b, o + k * 3, none⟩ = some (.int .u16 x.id) ∧ w.cell? ⟨b, o + k * 3 + 1, none⟩ = some (.int .u16 x.source) ∧ w.cell? ⟨b, o + k * 3 + 2, none⟩ = some (.int .u16 (IntKind.u16.wrap (x.dests.length : Int))) := by
  have h2 : Rd w B 3 A (l.map hdT).length ((l.map hdT).flatMap hdC) := by rw [List.length_map, ← hn]; exact h
  obtain ⟨b, o, e, hb, hc⟩ := Rd.get (f := hdC) (fun _ => rfl) h2 (k := k) (x := hdT x) (by rw [List.getElem?_map, hk]; rfl)
  exact ⟨b, o, e, hb, by have := hc 0 _ rfl; rwa [Nat.add_zero] at this, hc 1 _ rfl, hc 2 _ rfl⟩
theorem lk_at {w : World} {B : Nat} {A : Option Addr} {l : List (Int × Int)} (h : Rd w B 2 A l.length (l.flatMap lkC)) {k : Nat} {x : Int × Int} (hk : l[k]? = some x) :
    ∃ b o, A = some ⟨b, o, none⟩ ∧ b < B ∧ w.cell? ⟨b, o + k * 2, none⟩ = some (.int .u16 x.1) ∧ w.cell? ⟨b, o + k * 2 + 1, none⟩ = some (.int .u16 x.2) := by
  obtain ⟨b, o, e, hb, hc⟩ := Rd.get (f := lkC) (fun _ => rfl) h hk
  exact ⟨b, o, e, hb, by have := hc 0 _ rfl; rwa [Nat.add_zero] at this, hc 1 _ rfl⟩
set_option maxRecDepth 100000 in
set_option maxHeartbeats 16000000 in
theorem packLinks_ok (l : List Chn) (cs : List Value) (A : Option Addr) (c : Nat) (w : World) (hC : ChnsC w w.heap.size l cs) (hr : Rd w w.heap.size 3 A l.length cs) (hc1 : l.length ≤ c) (hc2 : c ≤ maxLen) (hs : (lC l).small) : Calls Tryz.prog 4 #[.slice A l.length c] w fun e w' => e = .returned (.bool true) ∧ Below w.heap.size w w' := by
  have HC := Lib.hid hC
  have HR := Lib.hid hr
  have HF := Lib.hid (lR hC hr hc1 hc2)
  have ht := hs.tot
  have hl : l.length ≤ 4194304 := by unfold Cfg.total lC at ht; simp at ht; omega
  have hsd : sumDests l ≤ 4194304 := by unfold Cfg.total lC at ht; simp at ht; omega
  have HDS := Lib.hid (dests_le (c := lC l) ht)
  clear hC hr ht hc1 hc2
  rcases bool_cases (few (lC l)) with h1 | h1
  rotate_left
  · have H1 := Lib.hid h1
    clear h1
    go_enter Tryz.func4, Tryz.ntmps4
    go_wp2_with fail
    refine (few_valB (lC l) none none none none A 0 0 0 0 c w HF.out hs false H1).mono ?_
    rintro e w1 ⟨rfl, hb1⟩
    have HB1 := Lib.hid hb1
    clear hb1
    go_wp2_with fail
    refine (alive11_ok _).mono ?_
    rintro e w2 ⟨rfl, hb2⟩
    have HZ := Lib.hid (Below.then_ HB1.out hb2)
    clear hb2
    go_wp2
    go_ret
    exact ⟨rfl, HZ.out⟩
  · have H1 := Lib.hid h1
    clear h1
    go_enter Tryz.func4, Tryz.ntmps4
    go_wp2_with fail
    refine (few_valB (lC l) none none none none A 0 0 0 0 c w HF.out hs true H1).mono ?_
    rintro e w1 ⟨rfl, hb1⟩
    have HB1 := Lib.hid hb1
    have HC1 := Lib.hid (chns_up HC.out hb1)
    have HR1 := Lib.hid (HR.out.up hb1)
    clear hb1
    go_wp2_with fail
    refine (pLinks_ok l cs A c w1 HC1.out HR1.out hl hsd HDS.out).mono ?_
    rintro e w2 ⟨v1, v2, rfl, hv1, hv2, hb2⟩
    obtain ⟨D1, e1, rfl, _, _, hr1⟩ := own_form hv1
    obtain ⟨D2, e2, rfl, _, _, hr2⟩ := own_form hv2
    have HX1 := Lib.hid hr1
    have HX2 := Lib.hid hr2
    have HB2 := Lib.hid (Below.then_ HB1.out hb2)
    have HC2 := Lib.hid (chns_up HC1.out hb2)
    have HR2 := Lib.hid (HR1.out.up hb2)
    clear hb2 hv1 hv2 hr1 hr2
    go_wp2_with fail
    refine (rHeads_ok l cs A c w2 HC2.out HR2.out hl HDS.out).mono ?_
    rintro e w3 ⟨v3, rfl, hv3, hb3⟩
    obtain ⟨D3, e3, rfl, _, _, hr3⟩ := own_form hv3
    have HX3 := Lib.hid hr3
    have HX13 := Lib.hid (HX1.out.up hb3)
    have HX23 := Lib.hid (HX2.out.up hb3)
    have HB3 := Lib.hid (Below.then_ HB2.out hb3)
    have HC3 := Lib.hid (chns_up HC2.out hb3)
    have HR3 := Lib.hid (HR2.out.up hb3)
    clear hb3 hv3 hr3
    go_wp2_with fail
    refine (rLinks_ok l cs A c w3 HC3.out HR3.out hl hsd HDS.out).mono ?_
    rintro e w4 ⟨v4, rfl, hv4, hb4⟩
    obtain ⟨D4, e4, rfl, _, _, hr4⟩ := own_form hv4
    have HX44 := Lib.hid hr4
    have HX14 := Lib.hid (HX13.out.up hb4)
    have HX24 := Lib.hid (HX23.out.up hb4)
    have HX34 := Lib.hid (HX3.out.up hb4)
    have HB4 := Lib.hid (Below.then_ HB3.out hb4)
    clear hb4 hv4 hr4 HX1 HX2 HX13 HX23 HX3 HC1 HC2 HC3 HR1 HR2 HR3 HB1 HB2 HB3
    have hlk : (lksOf l).length ≤ 4194304 := by rw [lksOf_len]; exact hsd
    generalize lksOf l = ks at *
    go_wp2
    go_loopw [37] (fun i wr => ∃ k : Nat, k ≤ l.length ∧ i = .int .i64 k ∧ Hid (Below w4.heap.size w4 wr)) (fun i _ => l.length - (intOf i).toNat)
    case atStart => exact ⟨0, Nat.zero_le _, rfl, Lib.hid (Below.refl _ _)⟩
    case round =>
      obtain ⟨k, hk, rfl, HB⟩ := hrel
      by_cases hlt : k < l.length
      · obtain ⟨x, hx⟩ := get_lt hlt
        obtain ⟨b1, o1, rfl, hz1, g0, g1, g2⟩ := hd_at (HX14.out.up HB.out) rfl hx
        obtain ⟨b2, o2, rfl, hz2, f0, f1, f2⟩ := hd_at (HX34.out.up HB.out) rfl hx
        have k0 : (0 : Int) ≤ (k : Int) := by omega
        have k1 : (k : Int) < (l.length : Int) := by omega
        generalize IntKind.u16.wrap (x.dests.length : Int) = m0 at *
        clear hx
        go_wp2
        go_quiet (fail)
        go_wp2
        go_roundw
        case rel => exact ⟨k + 1, by omega, by go_num, Lib.hid (below_drewN HB.out _)⟩
        case measure => simp [intOf]; omega
      · obtain rfl : k = l.length := by omega
        have HBX := HB
        generalize wr = wo at *
        go_wp2
        go_loopw [52] (fun i wr => ∃ k : Nat, k ≤ ks.length ∧ i = .int .i64 k ∧ Hid (Below w4.heap.size w4 wr)) (fun i _ => ks.length - (intOf i).toNat)
        case atStart => exact ⟨0, Nat.zero_le _, rfl, HBX⟩
        case round =>
          obtain ⟨k, hk, rfl, HB⟩ := hrel
          by_cases hlt : k < ks.length
          · obtain ⟨x, hx⟩ := get_lt hlt
            obtain ⟨b1, o1, rfl, hz1, g0, g1⟩ := lk_at (HX24.out.up HB.out) hx
            obtain ⟨b2, o2, rfl, hz2, f0, f1⟩ := lk_at (HX44.out.up HB.out) hx
            have k0 : (0 : Int) ≤ (k : Int) := by omega
            have k1 : (k : Int) < (ks.length : Int) := by omega
            clear hx
            go_wp2
            go_quiet (fail)
            go_wp2
            go_roundw
            case rel => exact ⟨k + 1, by omega, by go_num, Lib.hid (below_drewN HB.out _)⟩
            case measure => simp [intOf]; omega
          · obtain rfl : k = ks.length := by omega
            go_wp2_with fail
            refine (alive11_ok _).mono ?_
            rintro e w5 ⟨rfl, hb5⟩
            have HZ := Lib.hid (Below.then_ (Below.then_ HB4.out HB.out) hb5)
            clear hb5
            go_wp2
            go_ret
            exact ⟨rfl, HZ.out⟩
end Go.Proofs.YtcfoolooemhbeaaGreat
