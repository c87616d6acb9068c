/-
  The walk of the law UniqRepeats: it returns true, and nothing that was there turns.
-/
import Derived.Test.YtgkodbejnbfakaaRuns
import Derived.Deep.Cut
namespace Go.Proofs.Ytgkodbejnbfakaa
open Go.RowKit
set_option maxRecDepth 100000 in
set_option maxHeartbeats 4000000 in
theorem uniqRepeats_ok (l : List Int) (A : Option Addr) (cp : Nat) (w : World) (hl : l.length ≤ 1048576) (hu : ∀ x ∈ l, wU16 x) (hP : Rd w w.heap.size 1 A l.length (l.map (Value.int .u16))) :
    Calls Try.prog 7 #[.slice A l.length cp] w fun e w' => e = .returned (.bool true) ∧ Below w.heap.size w w' := by
  obtain ⟨i0, hi, hz0, hz1, hz2⟩ := info_parts info_u16
  have HP := Lib.hid hP
  clear hP
  by_cases hlong : 200 < l.length
  · have hli : (200 : Int) < (l.length : Int) := by omega
    go_enter Try.func7, Try.ntmps7
    go_wp2_with fail
    refine (alive_ok _).mono ?_
    rintro e w1 ⟨rfl, hb⟩
    go_wp2
    go_ret
    exact ⟨rfl, hb⟩
  · have hli : decide ((200 : Int) < (l.length : Int)) = false := decide_eq_false (by omega)
    go_enter Try.func7, Try.ntmps7
    go_wp2_with fail
    refine (repeated_ok l A cp hl hu w HP.out).mono ?_
    rintro e w1 ⟨rfl, hb1⟩
    have HB1 := Lib.hid hb1
    have HO := Lib.hid (World.ownsRow_made (e := 30) (size := 1) w1 #[] 0 (Nat.le_refl _) (Nat.zero_le _) rfl)
    have HR := Lib.hid (((HP.out.up hb1).alloc (Nat.le_refl _) (.cells #[] 30)))
    clear hb1
    go_upto_region 5 with (at_builtin; go_loud (refine wpList_append_rd _ rfl (.tmp 11) (.tmp 12) _ rfl w1.heap.size 30 i0 (.int .u16 0) 1 2 Try.underlying60 hi hz0 hz1 hz2 rfl (by decide) _ 0 [] rfl HO.out w1.heap.size A l.length cp _ rfl HR.out (ints_oneCell .u16 l) (by unfold maxLen; omega) (by omega) (by simp) ?_); intro v' w2 hown hg)
    have hb2 := below_own ((Below.refl w1.heap.size w1).alloc (Nat.le_refl _) _) hg HO.out (by simp)
    have HW := Lib.hid (show w2.ownsRow w1.heap.size 30 1 v' l.length (l.map (Value.int .u16)) by simpa using hown)
    have HB2 := Lib.hid (HB1.out.trans (hb2.mono HB1.out.size))
    have HB2' := Lib.hid hb2
    clear hown hg hb2 HO HR
    go_wp2_with fail
    refine (sort_own HW.out (by omega)).mono ?_
    rintro e w3 ⟨rfl, hs, ho, hb3⟩
    have HB3 := Lib.hid (HB2.out.trans (hb3.mono HB1.out.size))
    have HS := Lib.hid hs
    clear hs ho hb3
    go_wp2_with fail
    refine (alive_ok _).mono ?_
    rintro e w4 ⟨rfl, hb4⟩
    have HB4 := Lib.hid (HB3.out.trans (hb4.mono HB3.out.size))
    have HS4 := Lib.hid (own_below HS.out hb4)
    clear hb4
    go_wp2_with fail
    refine (rRepeated_ok l A cp _ hl (HP.out.up HB4.out)).mono ?_
    rintro e w5 ⟨rfl, hb5⟩
    have HB5 := Lib.hid (HB4.out.trans (hb5.mono HB4.out.size))
    have hs5 := own_below HS4.out hb5
    clear hb5
    have hlen := (sort_perm l).length_eq
    rw [← hlen] at hs5
    have HS5 := Lib.hid hs5
    have hrun := runs_rep l
    generalize hk : (Lib.compactUpTo (sortInts l).toArray (sortInts l).length).length = k at hrun
    have HK := Lib.hid hk
    clear hs5 hk
    have hlen2 := Lib.hid hlen
    clear hlen
    go_wp2_with fail
    refine (compact_own HS5.out (by rw [hlen2.out]; omega)).mono ?_
    rintro e w6 ⟨C, cc, rfl, hb6⟩
    rw [HK.out]
    have HB6 := Lib.hid (HB5.out.trans (hb6.mono HB1.out.size))
    clear hb6
    by_cases hneg : rep l < 0
    · have hkl : k = l.length := hrun.2 hneg
      clear hrun HK
      subst hkl
      go_wp2
      go_ret
      exact ⟨rfl, HB6.out⟩
    · have hkl : ((k : Int) == (l.length : Int)) = false := beq_eq_false_iff_ne.2 (fun e => hneg (hrun.1 (by omega)))
      have hnegd : decide (rep l < 0) = false := decide_eq_false hneg
      clear hneg hrun
      go_wp2
      go_ret
      exact ⟨rfl, HB6.out⟩
end Go.Proofs.Ytgkodbejnbfakaa
