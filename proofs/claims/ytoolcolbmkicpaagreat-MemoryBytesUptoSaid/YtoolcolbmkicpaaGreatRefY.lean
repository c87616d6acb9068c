/-
  The reference of layer 17: Bytes, walked.
-/
import Derived.BigQuiet
import Derived.Test.YtoolcolbmkicpaaGreatLeft17
import Derived.Test.YtoolcolbmkicpaaGreatBytW
namespace Go.Proofs.YtoolcolbmkicpaaGreat
open Go.RowKit
attribute [local go_sem] ext_cell
theorem cntB_mono {p q : Int → Bool} : ∀ {n : Nat}, (∀ a : Nat, a < n → p a = true → q a = true) → cntB p n ≤ cntB q n
  | 0, _ => Nat.le_refl _
  | n + 1, h => by
    have h1 := cntB_mono (p := p) (q := q) (n := n) fun a ha => h a (by omega)
    have h2 := h n (by omega)
    unfold cntB
    cases hp : p (n : Int)
    · simp; split <;> omega
    · rw [h2 hp]; simp; omega
theorem LeftOk.sum_le {s : Spn} {l : List Reg} {o : List Spn} (h : LeftOk s l o) (hs : okS s) : (o.map (·.len)).sum ≤ s.len := by
  have h0 := hs.1
  have h1 := hs.2.1
  obtain ⟨n, hn⟩ : ∃ n : Nat, s.lo + s.len ≤ (n : Int) := ⟨(s.lo + s.len).toNat, by omega⟩
  rw [h.sum hn, ← cntB_span s h0 (by omega) hn]
  have := cntB_mono (p := fun a => hasS s a && !ownedB l a) (q := hasS s) (n := n) (fun a _ q => by rw [Bool.and_eq_true] at q; exact q.1)
  omega
def halfS (k : Nat) : Spn := ⟨(k : Int) * 9223372036854775808, 9223372036854775808⟩
def sumS (o : List Spn) : Int := (o.map (·.len)).sum
/-- where the reference stands behind k halves -/
structure RBk (l : List Reg) (k : Nat) (n : Int) (f : Bool) (os : List (List Spn)) : Prop where
  len : os.length = k
  ok : ∀ (j : Nat) (o : List Spn), os[j]? = some o → LeftOk (halfS j) l o
  n_ : n = ((k : Int) * 9223372036854775808 - (os.map sumS).sum) % 18446744073709551616
  f_ : f = os.all fun o => o.isEmpty
theorem RBk.start (l : List Reg) : RBk l 0 0 true [] := ⟨rfl, by simp, by simp, rfl⟩
theorem RBk.next {l : List Reg} {k : Nat} {n : Int} {f : Bool} {os : List (List Spn)} (h : RBk l k n f os) {o : List Spn} (ho : LeftOk (halfS k) l o) : RBk l (k + 1) ((n + (9223372036854775808 - sumS o)) % 18446744073709551616) (f && decide (o.length = 0)) (os ++ [o]) := by
  refine ⟨by simp [h.len], fun j x hx => ?_, ?_, ?_⟩
  · by_cases hj : j < os.length
    · rw [List.getElem?_append_left hj] at hx; exact h.ok j x hx
    · rw [List.getElem?_append_right (by omega)] at hx
      have hl := h.len
      rcases hk : j - os.length with _ | m
      · rw [hk] at hx
        simp at hx
        subst hx
        obtain rfl : j = k := by omega
        exact ho
      · rw [hk] at hx; simp at hx
  · rw [h.n_, List.map_append, List.sum_append]
    simp only [List.map_cons, List.map_nil, List.sum_cons, List.sum_nil]
    push_cast
    omega
  · rw [h.f_, List.all_append]
    cases o <;> simp
theorem RBk.final {l : List Reg} {n : Int} {f : Bool} {os : List (List Spn)} (h : RBk l 2 n f os) : (f = true ∧ bytV l = (0, false)) ∨ (f = false ∧ bytV l = (n, true)) := by
  obtain ⟨o0, o1, rfl⟩ : ∃ o0 o1, os = [o0, o1] := by
    have hl := h.len
    match os, hl with
    | [a, b], _ => exact ⟨a, b, rfl⟩
  have h0 := h.ok 0 o0 rfl
  have h1 := h.ok 1 o1 rfl
  have e0 : halfS 0 = ⟨0, 9223372036854775808⟩ := by unfold halfS; simp
  have e1 : halfS 1 = ⟨9223372036854775808, 9223372036854775808⟩ := by unfold halfS; simp
  rw [e0] at h0
  rw [e1] at h1
  have hf := halves_full h0 h1
  have hs := halves h0 h1
  have hle := ownN_le l
  have hb := big64_int
  have hn := h.n_
  have hff := h.f_
  unfold bytV
  by_cases hful : ownN l = big64
  · left
    obtain ⟨rfl, rfl⟩ := hf.1 hful
    exact ⟨by rw [hff]; rfl, by rw [if_pos hful]⟩
  · right
    refine ⟨?_, ?_⟩
    · rw [hff]
      rcases hq : ([o0, o1].all fun o => o.isEmpty) with _ | _
      · rfl
      · exfalso
        simp at hq
        exact hful (hf.2 hq)
    · rw [if_neg hful, hn]
      congr 1
      simp only [List.map_cons, List.map_nil, List.sum_cons, List.sum_nil]
      unfold sumS
      omega
theorem halfS_ok {k : Nat} (h : k < 2) : okS (halfS k) := by
  unfold halfS
  exact ⟨by simp only; omega, by simp only; omega, by simp only; omega⟩
set_option maxRecDepth 100000 in
set_option maxHeartbeats 8000000 in
theorem rBytes_ok (c : Cfg) (A1 A2 A3 A4 A5 : Option Addr) (c1 c2 c3 c4 c5 : Nat) (w : World) (hR : CfgR w w.heap.size c A1 A2 A3 A4 A5 c1 c2 c3 c4 c5) (hs : c.small) (hsp : ∀ x ∈ c.regs, okSp x.base x.size) (p n : Int) (b : Bool) (hv : Hid (bytV (ofL c p 0) = (n, b))) : Calls Tryz.prog 7 #[cfgV c.frame A1 A2 A3 A4 A5 c.parts.length c.wins.length c.regs.length c.ports.length c.chans.length c1 c2 c3 c4 c5, .int .u16 p] w fun e w' => e = .returned (.tuple #[.int .u64 n, .bool b]) ∧ Below w.heap.size w w' := by
  obtain ⟨W0, hW, st⟩ := St.start_any hR 29
  have HW := Lib.hid hW
  have ST0 := Lib.hid st
  have HSP := Lib.hid hsp
  have hLl : (ofL c p 0).length ≤ 1048576 := Nat.le_trans (List.length_filter_le _ _) hs.bd.r
  obtain ⟨L, hL⟩ : ∃ L, ofL c p 0 = L := ⟨_, rfl⟩
  have HL := Lib.hid hL
  have hvv := hv.out
  rw [hL] at hvv hLl
  have HVV := Lib.hid hvv
  clear hR hW st hL hv hvv hsp
  go_enter Tryz.func7, Tryz.ntmps7
  go_upto_region 1 with (fail)
  rw [HW.out]
  go_wp2
  go_loopw [6, 8, 9] (fun nv fv kv wr => ∃ (k : Nat) (m : Int) (f : Bool) (os : List (List Spn)), k ≤ 2 ∧ kv = .int .u64 k ∧ nv = .int .u64 m ∧ fv = .bool f ∧ Hid (RBk L k m f os) ∧ Hid (St w (wr) c A1 A2 A3 A4 A5 c1 c2 c3 c4 c5)) (fun _ _ kv _ => 2 - (intOf kv).toNat)
  case atStart => exact ⟨0, 0, true, [], Nat.zero_le _, rfl, rfl, rfl, Lib.hid (RBk.start L), ST0⟩
  case round =>
    obtain ⟨k, m, f, os, hk, rfl, rfl, rfl, HR, ST⟩ := hrel
    obtain ⟨x0, x1, x2, x3, x4, x5, hz⟩ := ST.out.cells
    by_cases hlt : k < 2
    · have n0 : (0 : Int) ≤ (k : Int) := by omega
      have n1 : (k : Int) < 2 := by omega
      have hw : IntKind.u64.wrap ((k : Int) * 9223372036854775808) = (k : Int) * 9223372036854775808 := by rw [IntKind.wrap_u64]; omega
      have HOKS := Lib.hid (halfS_ok hlt)
      have hcall := rLeft_ok c _ _ _ _ _ _ _ _ _ _ _ ST.out.R hs HSP.out p 0 (halfS k) HOKS.out
      rw [HL.out] at hcall
      simp only [halfS] at hcall
      generalize hwo : wr = wp at ST x0 x1 x2 x3 x4 x5 hz hcall ⊢
      clear hwo
      go_wp2_with fail
      refine hcall.mono ?_
      rintro e w2 ⟨v, o, rfl, ho, hlo, hb2⟩
      obtain ⟨RA, ra, rfl, _, _, hrd⟩ := own_form ho
      have HLO := Lib.hid (show LeftOk (halfS k) L o from hlo)
      have HRD := Lib.hid hrd
      have ST2 := Lib.hid (ST.out.up hb2)
      have hol : o.length ≤ 1048577 := by have := hlo.len; omega
      have HSL := Lib.hid (hlo.sum_le HOKS.out)
      have HOK := Lib.hid hlo.ok
      clear hcall ho hlo hrd hb2 x0 x1 x2 x3 x4 x5 hz hw
      go_wp2
      go_loopw [8, 11, 12] (fun fv mv iv wr => ∃ j : Nat, j ≤ o.length ∧ iv = .int .i64 j ∧ mv = .int .u64 (9223372036854775808 - ((o.take j).map (·.len)).sum) ∧ fv = .bool (f && decide (j = 0)) ∧ Hid (St w (wr) c A1 A2 A3 A4 A5 c1 c2 c3 c4 c5) ∧ Hid (Below w2.heap.size w2 wr)) (fun _ _ iv _ => o.length - (intOf iv).toNat)
      case atStart => exact ⟨0, Nat.zero_le _, rfl, by simp, by simp, ST2, Lib.hid (Below.refl _ _)⟩
      case round =>
        obtain ⟨j, hj, rfl, rfl, rfl, STj, HBj⟩ := hrel
        by_cases hjl : j < o.length
        · obtain ⟨x, hx⟩ := get_lt hjl
          obtain ⟨bb, of, rfl, hbb, g0, g1⟩ := spn_at (HRD.out.up HBj.out) hx
          have j0 : (0 : Int) ≤ (j : Int) := by omega
          have j1 : (j : Int) < (o.length : Int) := by omega
          obtain ⟨e1, e2, e3⟩ := sum_take HOK.out hx
          have hsl := HSL.out
          obtain ⟨S, hS⟩ : ∃ S, ((o.take j).map (·.len)).sum = S := ⟨_, rfl⟩
          rw [hS] at e1 e2 e3 ⊢
          have hxl := (HOK.out x (List.mem_of_getElem? hx)).2.1
          have hw : IntKind.u64.wrap (9223372036854775808 - S - x.len) = 9223372036854775808 - S - x.len := by
            have hsl : (o.map (·.len)).sum ≤ (9223372036854775808 : Int) := hsl
            rw [IntKind.wrap_u64]; omega
          have HE := Lib.hid e1
          clear hx e1 e2 e3 hsl hS hxl
          go_wp2
          go_roundw
          case rel => exact ⟨j + 1, by omega, by go_num, by rw [HE.out]; congr 1; omega, by simp, STj, HBj⟩
          case measure => simp [intOf]; omega
        · obtain rfl : j = o.length := by omega
          rw [List.take_length]
          have HNX := Lib.hid (HR.out.next HLO.out)
          have hw : IntKind.u64.wrap (m + (9223372036854775808 - (o.map (·.len)).sum)) = (m + (9223372036854775808 - sumS o)) % 18446744073709551616 := by rw [IntKind.wrap_u64]; rfl
          have HWW := Lib.hid hw
          clear hw
          go_wp2
          go_roundw
          case rel => exact ⟨k + 1, _, _, _, by omega, by go_num, by rw [HWW.out], rfl, HNX, STj⟩
          case measure => simp [intOf]; omega
    · obtain rfl : k = 2 := by omega
      have hfin := HR.out.final
      rw [HVV.out] at hfin
      clear HR
      rcases hfin with ⟨rfl, hq⟩ | ⟨rfl, hq⟩
      · injection hq with q1 q2
        subst q1 q2
        go_wp2
        go_ret2
        exact ⟨rfl, ST.out.bel⟩
      · injection hq with q1 q2
        subst q1 q2
        go_wp2
        go_ret2
        exact ⟨rfl, ST.out.bel⟩
end Go.Proofs.YtoolcolbmkicpaaGreat
