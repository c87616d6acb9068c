/-
  The regions of a partition with some rights: of$1, slices.Clone, slices.IndexFunc at api.Region, walked.
-/
import Derived.BigQuiet
import Derived.Test.YtaakcpdpkcadjaaMem2
import Derived.Test.YtaakcpdpkcadjaaRegRow
namespace Go.Proofs.Ytaakcpdpkcadjaa
open Go.RowKit
def keepR (p m : Int) (r : Reg) : Bool := decide (r.part = p) && decide (bits .and .u8 r.rights m = m)
/-- the two boxes that of$1 is bound to -/
structure PmBox (w : World) (bp bm : Nat) (p m : Int) : Prop where
  hp : w.cell? ⟨bp, 0, none⟩ = some (.int .u16 p)
  hm : w.cell? ⟨bm, 0, none⟩ = some (.int .u8 m)
  lp : bp < w.heap.size
  lm : bm < w.heap.size
theorem PmBox.below {w w' : World} {bp bm B : Nat} {p m : Int} (h : PmBox w bp bm p m) (hb : Below B w w') (h1 : bp < B) (h2 : bm < B) : PmBox w' bp bm p m :=
  ⟨(hb.cell (p := ⟨bp, 0, none⟩) h1).trans h.hp, (hb.cell (p := ⟨bm, 0, none⟩) h2).trans h.hm, Nat.lt_of_lt_of_le h.lp hb.size, Nat.lt_of_lt_of_le h.lm hb.size⟩
theorem PmBox.up {w w' : World} {bp bm : Nat} {p m : Int} (h : PmBox w bp bm p m) (hb : Below w.heap.size w w') : PmBox w' bp bm p m := h.below hb h.lp h.lm
set_option maxRecDepth 100000 in
set_option maxHeartbeats 2000000 in
theorem ofFn_ok (x : Reg) (p m : Int) (bp bm : Nat) (w : World) (hB : PmBox w bp bm p m) :
    Calls Try.prog 51 #[.agg #[.int .u64 x.base, .int .u64 x.size, .int .u16 x.part, .int .u8 x.rights, .bool x.shared], .pointer (some ⟨bp, 0, none⟩), .pointer (some ⟨bm, 0, none⟩)] w fun e w' => e = .returned (.bool (!keepR p m x)) ∧ Below w.heap.size w w' := by
  obtain ⟨W1, hW, rb, hb1⟩ := RgBox.new w x 43
  obtain ⟨hp1, hm1, _, _⟩ := hB.up hb1
  have HW := Lib.hid hW
  obtain ⟨p0, p1, p2, p3, p4, hz⟩ := rb
  clear hW
  by_cases h1 : x.part = p
  · by_cases h2 : bits .and .u8 x.rights m = m
    · have HV := Lib.hid (show (!keepR p m x) = false by unfold keepR; simp [h1, h2])
      rw [h1] at p2
      clear h1
      go_enter Try.func51, Try.ntmps51
      go_upto_region 1 with (fail)
      rw [HW.out]
      go_wp2
      go_ret
      exact ⟨ret_bool HV.out.symm, hb1⟩
    · have HV := Lib.hid (show (!keepR p m x) = true by unfold keepR; simp [h1, h2])
      rw [h1] at p2
      clear h1
      go_enter Try.func51, Try.ntmps51
      go_upto_region 1 with (fail)
      rw [HW.out]
      go_wp2
      go_ret
      exact ⟨ret_bool (by rw [HV.out]; simp [h2]), hb1⟩
  · have HV := Lib.hid (show (!keepR p m x) = true by unfold keepR; simp [h1])
    go_enter Try.func51, Try.ntmps51
    go_upto_region 1 with (fail)
    rw [HW.out]
    go_wp2
    go_ret
    exact ⟨ret_bool HV.out.symm, hb1⟩
theorem ofFn_val (x : Reg) (p m : Int) (bp bm : Nat) (w : World) (hB : PmBox w bp bm p m) (v : Bool) (hv : Hid (keepR p m x = v)) :
    Calls Try.prog 51 #[.agg #[.int .u64 x.base, .int .u64 x.size, .int .u16 x.part, .int .u8 x.rights, .bool x.shared], .pointer (some ⟨bp, 0, none⟩), .pointer (some ⟨bm, 0, none⟩)] w fun e w' => e = .returned (.bool (!v)) ∧ Below w.heap.size w w' := by
  have h := ofFn_ok x p m bp bm w hB
  rwa [hv.out] at h
set_option maxRecDepth 100000 in
set_option maxHeartbeats 2000000 in
theorem cloneReg_ok (l : List Reg) (A : Option Addr) (c : Nat) (w : World) (hl : l.length ≤ 4194304) (hP : Rd w w.heap.size 5 A l.length (l.flatMap Reg.cells)) (hA : A = none → l = []) :
    Calls Try.prog 50 #[.slice A l.length c] w fun e w' => ∃ v, e = .returned v ∧ w'.ownsRow w.heap.size 43 5 v l.length (l.flatMap Reg.cells) ∧ Below w.heap.size w w' := by
  obtain ⟨i0, hi, hz0, hz1, hz2⟩ := info_parts infoRegion
  have qT : ∀ (w : World) (a : Option Addr) (n c n' c' : Nat), (binOp .eql 25 (.slice a n c) (.slice none n' c')).run Try.prog w = .ok (.bool a.isNone) w := fun w a n c n' c' => Lib.run_eql_slice_nil w _ _ a n c n' c' Try.underlying25
  rcases A with _ | ad
  · have hn := hA rfl
    subst hn
    go_enter Try.func50, Try.ntmps50
    go_wp2
    go_ret
    exact ⟨_, rfl, by simpa using World.ownsRow_nil _ _ _ _, Below.refl _ _⟩
  · have HO := Lib.hid (World.ownsRow_made (e := 43) (size := 5) w #[] 0 (Nat.le_refl _) (Nat.zero_le _) rfl)
    have HR := Lib.hid ((hP.alloc (Nat.le_refl _) (.cells #[] 43)))
    clear hP hA
    go_enter Try.func50, Try.ntmps50
    go_wp2_with (at_builtin; go_loud (refine wpList_append_rd _ rfl (.tmp 5) (.tmp 6) _ rfl w.heap.size 43 i0 (.agg #[.int .u64 0, .int .u64 0, .int .u16 0, .int .u8 0, .bool false]) 5 24 Try.underlying25 hi hz0 hz1 hz2 rfl (by decide) _ 0 [] rfl HO.out w.heap.size (some ad) l.length c _ rfl HR.out (oneReg l) (by unfold maxLen; omega) (by omega) (by simp) ?_); intro v' w1 hown hg)
    go_ret
    refine ⟨_, rfl, by simpa using hown, ?_⟩
    exact below_own ((Below.refl w.heap.size w).alloc (Nat.le_refl _) _) hg HO.out (by simp)
set_option maxRecDepth 100000 in
set_option maxHeartbeats 2000000 in
theorem indexReg_ok (l : List Reg) (A : Option Addr) (c : Nat) (p m : Int) (bp bm : Nat) (w : World) (hl : l.length ≤ 4194304) (hB : PmBox w bp bm p m) (hP : Rd w w.heap.size 5 A l.length (l.flatMap Reg.cells)) :
    Calls Try.prog 60 #[.slice A l.length c, .func (.func 51) #[] #[.pointer (some ⟨bp, 0, none⟩), .pointer (some ⟨bm, 0, none⟩)]] w
      fun e w' => (∃ k : Int, e = .returned (.int .i64 k) ∧ ((k = -1 ∧ ∀ x ∈ l, keepR p m x = true) ∨ ∃ (i : Nat) (y : Reg), k = (i : Int) ∧ l[i]? = some y ∧ keepR p m y = false ∧ ∀ x ∈ l.take i, keepR p m x = true)) ∧ Below w.heap.size w w' := by
  have hent : ∀ a w, (callFunc 51 a).run Try.prog w = .ok (.enter 51 a) w := enters_of Try.func51 (by kernel_rfl) rfl
  have HP := Lib.hid hP
  have HB := Lib.hid hB
  clear hP hB
  go_enter Try.func60, Try.ntmps60
  go_wp2
  go_loopw [8] (fun i wr => ∃ k : Nat, k ≤ l.length ∧ i = .int .i64 k ∧ Hid (∀ x ∈ l.take k, keepR p m x = true) ∧ Hid (Below w.heap.size w wr)) (fun i _ => l.length - (intOf i).toNat)
  case atStart => exact ⟨0, Nat.zero_le _, rfl, Lib.hid (by simp), Lib.hid (Below.refl _ _)⟩
  case round =>
    obtain ⟨k, hk, rfl, HK, HW⟩ := hrel
    by_cases hkl : k < l.length
    · obtain ⟨x, hx⟩ := get_lt hkl
      have HX := Lib.hid hx
      obtain ⟨bb, o, rfl, hbb, g0, g1, g2, g3, g4⟩ := reg_at (HP.out.up HW.out) hx
      have HBk := Lib.hid (HB.out.up HW.out)
      have n0 : (0 : Int) ≤ (k : Int) := by omega
      have n1 : (k : Int) < (l.length : Int) := by omega
      obtain ⟨v, hv⟩ : ∃ v, keepR p m x = v := ⟨_, rfl⟩
      have HV := Lib.hid hv
      clear hx hv
      go_wp2_with fail
      refine (ofFn_val x p m bp bm wr HBk.out v HV).mono ?_
      rintro e w2 ⟨rfl, hb2⟩
      have HW2 := Lib.hid (Below.then_ HW.out hb2)
      clear hb2 g0 g1 g2 g3 g4 hbb
      cases v
      · go_wp2
        go_ret
        exact ⟨⟨_, rfl, .inr ⟨k, x, rfl, HX.out, HV.out, HK.out⟩⟩, HW2.out⟩
      · go_wp2
        go_roundw
        case rel => exact ⟨k + 1, by omega, by go_num, Lib.hid (by rw [take_next HX.out]; intro y hy; rcases List.mem_append.1 hy with hy | hy; exact HK.out y hy; rw [List.mem_singleton] at hy; rw [hy]; exact HV.out), HW2⟩
        case measure => simp [intOf]; omega
    · obtain rfl : k = l.length := by omega
      go_wp2
      go_ret
      exact ⟨⟨_, rfl, .inl ⟨rfl, by have := HK.out; rwa [List.take_length] at this⟩⟩, HW.out⟩
end Go.Proofs.Ytaakcpdpkcadjaa
