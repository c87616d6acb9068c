/-
  sweep.First as memory.Check calls it, walked.
-/
import Derived.Test.YtaakcpdpkcadjaaFirstP
import Derived.Test.YtaakcpdpkcadjaaMem2
namespace Go.Proofs.Ytaakcpdpkcadjaa
open Go.RowKit Go.Shelf
theorem PrBox_new (w : World) (p : Pr) (t : TypeId) : ∃ W, w.alloc (.cells #[.int .i64 p.i, .int .i64 p.j] t) = W ∧ (W.cell? ⟨w.heap.size, 0, none⟩ = some (.int .i64 p.i) ∧ W.cell? ⟨w.heap.size, 1, none⟩ = some (.int .i64 p.j) ∧ w.heap.size < W.heap.size) ∧ Below w.heap.size w W :=
  ⟨_, rfl, ⟨by simp, by simp, by simp⟩, below_one _ _⟩
/-- a pair of places, with the regions there -/
theorem pair_regs {l : List Reg} {L : List Pr} (hsp : ∀ s ∈ l.map spnOf, okSp s.lo s.len) (h : PairsOf (itemsOf (l.map spnOf)) L) {p : Pr} (hp : p ∈ L) : ∃ (i j : Nat) (x y : Reg), p = ⟨(i : Int), (j : Int)⟩ ∧ l[i]? = some x ∧ l[j]? = some y ∧ alP l p = regAl x y := by
  obtain ⟨i, j, sx, sy, hx, hy, _, _, rfl⟩ := (pairs_meet hsp h).1 hp
  rw [List.getElem?_map] at hx hy
  obtain ⟨x, gx, _⟩ := Option.map_eq_some_iff.1 hx
  obtain ⟨y, gy, _⟩ := Option.map_eq_some_iff.1 hy
  refine ⟨i, j, x, y, rfl, gx, gy, ?_⟩
  unfold alP
  simp only [Int.toNat_natCast]
  rw [gx, gy]
theorem memAllow_val (c : Cfg) (A : Option Addr) (cp cb : Nat) (w : World) (hc : w.cell? ⟨cb, 3, none⟩ = some (.slice A c.regs.length cp)) (hlt : cb < w.heap.size) (hl : c.regs.length ≤ 1048576) (hR : Rd w w.heap.size 5 A c.regs.length (c.regs.flatMap Reg.cells)) {i j : Nat} {x y : Reg} (hx : c.regs[i]? = some x) (hy : c.regs[j]? = some y) (v : Bool) (hv : Hid (regAl x y = v)) :
    Calls Try.prog 27 #[.int .i64 i, .int .i64 j, .pointer (some ⟨cb, 0, none⟩)] w fun e w' => e = .returned (.bool v) ∧ Below w.heap.size w w' := by
  have h := memAllow_ok c A cp cb w hc hlt hl hR hx hy
  rwa [hv.out] at h
set_option maxRecDepth 100000 in
set_option maxHeartbeats 4000000 in
theorem swpFirst_ok {w : World} {c : Cfg} {A A3 : Option Addr} {cp cb c3 : Nat} (hl : c.regs.length ≤ 1048576) (hsp : ∀ s ∈ c.regs.map spnOf, okSp s.lo s.len) (hR : Rd w w.heap.size 2 A c.regs.length ((c.regs.map spnOf).flatMap Spn.cells))
    (hcb : w.cell? ⟨cb, 3, none⟩ = some (.slice A3 c.regs.length c3)) (hlt : cb < w.heap.size) (hG : Rd w w.heap.size 5 A3 c.regs.length (c.regs.flatMap Reg.cells)) :
    Calls Try.prog 28 #[.slice A c.regs.length cp, .func (.func 27) #[] #[.pointer (some ⟨cb, 0, none⟩)]] w fun e w' => ∃ a : Int, e = .returned (.tuple #[.int .i64 a, .int .i64 (clashJ c.regs)]) ∧ Below w.heap.size w w' := by
  have hpairs := pairs_ok (w := w) (l := c.regs.map spnOf) (A := A) (cp := cp) (by simpa using hl) hsp (by simpa using hR)
  rw [List.length_map] at hpairs
  have hent : ∀ a w, (callFunc 27 a).run Try.prog w = .ok (.enter 27 a) w := enters_of Try.func27 (by kernel_rfl) rfl
  have hnf : ∀ W, (binOp .neq 70 (.func (.func 27) #[] #[.pointer (some ⟨cb, 0, none⟩)]) .nilFunc).run Try.prog W = .ok (.bool true) W := fun W => by kernel_rfl
  have HG := Lib.hid hG
  have HCB := Lib.hid hcb
  have HSP := Lib.hid hsp
  clear hR hG hcb hsp
  go_enter Try.func28, Try.ntmps28
  go_wp2_with fail
  refine hpairs.mono ?_
  rintro e w1 ⟨v, L, rfl, ⟨hL, hLl⟩, ho, hb1⟩
  obtain ⟨RA, rc, rfl, hr1, hr2, hrd⟩ := own_form ho
  have HL := Lib.hid hL
  have HRD := Lib.hid hrd
  have HB1 := Lib.hid hb1
  clear hpairs hL ho hrd hb1
  go_wp2
  go_loopw [6, 7, 13] (fun a m i wr => ∃ (k : Nat) (a' m' : Int), k ≤ L.length ∧ i = .int .i64 k ∧ a = .int .i64 a' ∧ m = .int .i64 m' ∧ Hid (FJ c.regs (L.take k) m') ∧ Hid (Below w1.heap.size w1 wr)) (fun _ _ i _ => L.length - (intOf i).toNat)
  case atStart => exact ⟨0, -1, -1, Nat.zero_le _, rfl, rfl, rfl, Lib.hid (.inl ⟨rfl, by simp⟩), Lib.hid (Below.refl _ _)⟩
  case round =>
    obtain ⟨k, a', m', hk, rfl, rfl, rfl, HF, HB⟩ := hrel
    by_cases hkl : k < L.length
    · obtain ⟨p, hp⟩ := get_lt hkl
      obtain ⟨i, j, x, y, rfl, hx, hy, hal⟩ := pair_regs HSP.out HL.out (List.mem_of_getElem? hp)
      have hbw := Below.then_ HB1.out HB.out
      have hrdk := HRD.out.up HB.out
      obtain ⟨bb, o, rfl, hbb, g0, g1⟩ := pr_at hrdk hp
      have HTK := Lib.hid (take_next hp)
      have HX := Lib.hid hx
      have HY := Lib.hid hy
      have HAL := Lib.hid hal
      have k0 : (0 : Int) ≤ (k : Int) := by omega
      have k1 : (k : Int) < (L.length : Int) := by omega
      have j0 : (0 : Int) ≤ (j : Int) := by omega
      clear hp hrdk hx hy hal
      go_upto_region 5 with (fail)
      obtain ⟨W4, hW4, hbx, hb4⟩ := PrBox_new wr ⟨(i : Int), (j : Int)⟩ 106
      rw [hW4]
      obtain ⟨p0, p1, pz⟩ := hbx
      have HB4 := Lib.hid (Below.then_ HB.out hb4)
      have HBW := Lib.hid (Below.then_ hbw hb4)
      have hcb4 := (HBW.out.cell (p := ⟨cb, 3, none⟩) hlt).trans HCB.out
      have hlt4 : cb < W4.heap.size := Nat.lt_of_lt_of_le hlt HBW.out.size
      have HG4 := Lib.hid (HG.out.up HBW.out)
      have HCB4 := Lib.hid hcb4
      have HP1 := Lib.hid p1
      have HP0 := Lib.hid p0
      clear hW4 hb4 g0 g1 hbb hbw hcb4
      rcases bool_cases (regAl x y) with hv | hv
      · have HV := Lib.hid hv
        have HN := Lib.hid (show FJ c.regs (L.take (k + 1)) m' by rw [HTK.out]; exact HF.out.skip (HAL.out.trans hv))
        clear hv
        go_wp2_with fail
        refine (memAllow_val c A3 c3 cb W4 HCB4.out hlt4 hl HG4.out HX.out HY.out true HV).mono ?_
        rintro e w5 ⟨rfl, hb5⟩
        have HB5 := Lib.hid (Below.then_ HB4.out hb5)
        clear hb5 p0 p1
        go_wp2
        go_roundw
        case rel => exact ⟨k + 1, a', m', by omega, by go_num, rfl, rfl, HN, HB5⟩
        case measure => simp [intOf]; omega
      · have HV := Lib.hid hv
        have HNA := Lib.hid (HAL.out.trans hv)
        clear hv
        have q0 := fun (V : World) (h : Below W4.heap.size W4 V) => (h.cell (p := ⟨wr.heap.size, 0, none⟩) pz).trans p0
        have q1 := fun (V : World) (h : Below W4.heap.size W4 V) => (h.cell (p := ⟨wr.heap.size, 1, none⟩) pz).trans p1
        have Q0 := Lib.hid q0
        have Q1 := Lib.hid q1
        clear q0 q1
        by_cases hm : m' < 0
        · have HN := Lib.hid (show FJ c.regs (L.take (k + 1)) (j : Int) by rw [HTK.out]; exact HF.out.take_ HNA.out j0 (.inl hm))
          go_wp2_with fail
          refine (memAllow_val c A3 c3 cb W4 HCB4.out hlt4 hl HG4.out HX.out HY.out false HV).mono ?_
          rintro e w5 ⟨rfl, hb5⟩
          have HB5 := Lib.hid (Below.then_ HB4.out hb5)
          have r0 := Q0.out w5 hb5
          have r1 := Q1.out w5 hb5
          clear hb5 p0 p1
          go_wp2
          go_quiet (fail)
          go_wp2
          go_roundw
          case rel => exact ⟨k + 1, (i : Int), (j : Int), by omega, by go_num, rfl, rfl, HN, Lib.hid (below_drewN HB5.out _)⟩
          case measure => simp [intOf]; omega
        · by_cases hjm : (j : Int) < m'
          · have HN := Lib.hid (show FJ c.regs (L.take (k + 1)) (j : Int) by rw [HTK.out]; exact HF.out.take_ HNA.out j0 (.inr hjm))
            go_wp2_with fail
            refine (memAllow_val c A3 c3 cb W4 HCB4.out hlt4 hl HG4.out HX.out HY.out false HV).mono ?_
            rintro e w5 ⟨rfl, hb5⟩
            have HB5 := Lib.hid (Below.then_ HB4.out hb5)
            have r0 := Q0.out w5 hb5
            have r1 := Q1.out w5 hb5
            clear hb5 p0 p1
            go_wp2
            go_quiet (fail)
            go_wp2
            go_roundw
            case rel => exact ⟨k + 1, (i : Int), (j : Int), by omega, by go_num, rfl, rfl, HN, Lib.hid (below_drewN HB5.out _)⟩
            case measure => simp [intOf]; omega
          · have HN := Lib.hid (show FJ c.regs (L.take (k + 1)) m' by rw [HTK.out]; exact HF.out.keep hm hjm)
            go_wp2_with fail
            refine (memAllow_val c A3 c3 cb W4 HCB4.out hlt4 hl HG4.out HX.out HY.out false HV).mono ?_
            rintro e w5 ⟨rfl, hb5⟩
            have HB5 := Lib.hid (Below.then_ HB4.out hb5)
            have r0 := Q0.out w5 hb5
            have r1 := Q1.out w5 hb5
            clear hb5 p0 p1
            go_wp2
            go_roundw
            case rel => exact ⟨k + 1, a', m', by omega, by go_num, rfl, rfl, HN, HB5⟩
            case measure => simp [intOf]; omega
    · obtain rfl : k = L.length := by omega
      have hfin := first_val HSP.out HL.out (by have := HF.out; rwa [List.take_length] at this)
      go_wp2
      go_ret2
      exact ⟨a', by rw [← hfin]; rfl, Below.then_ HB1.out HB.out⟩
end Go.Proofs.Ytaakcpdpkcadjaa
