/-
  slices.DeleteFunc at api.Region with of$1, and of of package memory, walked.
-/
import Derived.Test.YtaakcpdpkcadjaaMem5
import Derived.Test.YtaakcpdpkcadjaaRowK
namespace Go.Proofs.Ytaakcpdpkcadjaa
open Go.RowKit Go.Shelf
theorem run_clear_reg (w : World) (ty : TypeId) (b o n c : Nat) (hn : 0 < n) (hc : ∀ j, j < n * 5 → (w.cell? ⟨b, o + j, none⟩).isSome = true) (hf : ∀ j, j < n * 5 → w.frozen? ⟨b, o + j, none⟩ = false) :
    ∃ vs, (Builtin.clear_ #[25] ty #[.slice (some ⟨b, o, none⟩) n c]).run Try.prog w = .ok (.tuple #[]) (w.setCells b o vs) := by
  have hv : ∀ w, (zeroValue 43).run Try.prog w = .ok (.agg #[.int .u64 0, .int .u64 0, .int .u16 0, .int .u8 0, .bool false]) w := fun w => by kernel_rfl
  have hlen : (Builtin.zeroCells (Value.agg #[.int .u64 0, .int .u64 0, .int .u16 0, .int .u8 0, .bool false]).cells n).toList.length = n * 5 := by simp [Builtin.zeroCells, Value.cells]
  have h1 : ∀ v ∈ (Builtin.zeroCells (Value.agg #[.int .u64 0, .int .u64 0, .int .u16 0, .int .u8 0, .bool false]).cells n).toList, v.oneCell' = true := by
    intro v hv
    simp only [Builtin.zeroCells, Value.cells, Array.toList_map, List.mem_map] at hv
    obtain ⟨i, _, rfl⟩ := hv
    have hm : i % 5 < 5 := Nat.mod_lt _ (by decide)
    have : i % 5 = 0 ∨ i % 5 = 1 ∨ i % 5 = 2 ∨ i % 5 = 3 ∨ i % 5 = 4 := by omega
    show (#[Value.int .u64 0, .int .u64 0, .int .u16 0, .int .u8 0, .bool false][i % 5]!).oneCell' = true
    rcases this with h | h | h | h | h <;> rw [h] <;> rfl
  have hst := run_storeCells_cells (P := Try.prog) b o _ 0 w (by rw [hlen]; simpa using hc) (by rw [hlen]; simpa using hf) h1
  simp only [Nat.add_zero] at hst
  obtain ⟨m, rfl⟩ : ∃ m, n = m + 1 := ⟨n - 1, by omega⟩
  exact ⟨(Builtin.zeroCells (Value.agg #[.int .u64 0, .int .u64 0, .int .u16 0, .int .u8 0, .bool false]).cells (m + 1)).toList, by simp [Builtin.clear_, run_underlying Try.underlying25, hv, hst]⟩
/-- where DeleteFunc stands: the kept ones, J (spent), what is still to come -/
structure DSt (base B : Nat) (w W : World) (g n c : Nat) (l : List Reg) (p m : Int) (i j : Nat) (J : List Reg) : Prop where
  own : W.ownsRow base 43 5 (.slice (some ⟨g, 0, none⟩) n c) l.length (((l.take j).filter (keepR p m) ++ J ++ l.drop j).flatMap Reg.cells)
  il : i = ((l.take j).filter (keepR p m)).length
  jl : i + J.length = j
  jle : j ≤ l.length
  jp : 0 < J.length
  bel : Below B w W
theorem DSt.len {base B : Nat} {w W : World} {g n c : Nat} {l : List Reg} {p m : Int} {i j : Nat} {J : List Reg} (h : DSt base B w W g n c l p m i j J) : ((l.take j).filter (keepR p m) ++ J ++ l.drop j).length = l.length := by
  have := h.jl; have := h.jle; have := h.il
  rw [List.length_append, List.length_append, List.length_drop]
  omega
section
variable {base B : Nat} {w W V : World} {g n c : Nat} {l : List Reg} {p m : Int} {i j : Nat} {J : List Reg} {x : Reg}
theorem DSt.rd (h : DSt base B w W g n c l p m i j J) (hn : n = l.length) : Rd W W.heap.size 5 (some ⟨g, 0, none⟩) ((l.take j).filter (keepR p m) ++ J ++ l.drop j).length (((l.take j).filter (keepR p m) ++ J ++ l.drop j).flatMap Reg.cells) := by
  have := h.own
  rw [hn] at this
  have h2 := (own_slice this).2
  rwa [h.len]
theorem DSt.at_j (h : DSt base B w W g n c l p m i j J) (hx : l[j]? = some x) : ((l.take j).filter (keepR p m) ++ J ++ l.drop j)[j]? = some x := by
  have h1 := h.il
  have h2 := h.jl
  rw [List.getElem?_append_right (by rw [List.length_append]; omega), List.length_append, List.getElem?_drop]
  rw [show j + (j - (((l.take j).filter (keepR p m)).length + J.length)) = j from by omega]
  exact hx
theorem DSt.at_i (h : DSt base B w W g n c l p m i j J) : ∃ y, ((l.take j).filter (keepR p m) ++ J ++ l.drop j)[i]? = some y := by
  have h1 := h.len
  have h2 := h.jl
  have h3 := h.jle
  have h4 := h.jp
  exact get_lt (by rw [h1]; omega)
theorem DSt.up (h : DSt base B w W g n c l p m i j J) (hb : Below W.heap.size W V) (hB : B ≤ W.heap.size) : DSt base B w V g n c l p m i j J :=
  ⟨own_below h.own hb, h.il, h.jl, h.jle, h.jp, h.bel.trans (hb.mono hB)⟩
theorem DSt.skip (h : DSt base B w W g n c l p m i j J) (hx : l[j]? = some x) (hk : keepR p m x = false) : DSt base B w W g n c l p m i (j + 1) (J ++ [x]) := by
  have hjl : j < l.length := (List.getElem?_eq_some_iff.1 hx).1
  have e1 : (l.take (j + 1)).filter (keepR p m) = (l.take j).filter (keepR p m) := by rw [take_next hx, List.filter_append]; simp [hk]
  have e2 : l.drop j = x :: l.drop (j + 1) := drop_cons hx
  refine ⟨?_, by rw [e1]; exact h.il, by have := h.jl; simp; omega, hjl, by simp, h.bel⟩
  have := h.own
  rw [e2] at this
  rw [e1]
  simpa using this
theorem DSt.keep (h : DSt base B w W g n c l p m i j J) (hx : l[j]? = some x) (hk : keepR p m x = true) (hB : B ≤ g) : ∃ J', DSt base B w (setReg W g i x) g n c l p m (i + 1) (j + 1) J' := by
  have hjl : j < l.length := (List.getElem?_eq_some_iff.1 hx).1
  have e1 : (l.take (j + 1)).filter (keepR p m) = (l.take j).filter (keepR p m) ++ [x] := by rw [take_next hx, List.filter_append]; simp [hk]
  have e2 : l.drop j = x :: l.drop (j + 1) := drop_cons hx
  obtain ⟨y, J', rfl⟩ : ∃ y J', J = y :: J' := by
    rcases J with _ | ⟨y, J'⟩
    · have := h.jp; simp at this
    · exact ⟨y, J', rfl⟩
  have h1 := h.il
  have h2 := h.jl
  have hlen := h.len
  have hown := h.own
  rw [← hlen] at hown
  have hs := own_reg hown (by rw [hlen]; omega) x (i := i)
  refine ⟨J' ++ [x], ?_, by rw [e1, List.length_append, ← h1]; rfl, by simp at h2 ⊢; omega, hjl, by simp, below_setReg h.bel hB⟩
  have e3 : ((l.take j).filter (keepR p m) ++ y :: J' ++ l.drop j).set i x = (l.take (j + 1)).filter (keepR p m) ++ (J' ++ [x]) ++ l.drop (j + 1) := by
    rw [e1, e2, h1, List.append_assoc, List.set_append_right _ _ (Nat.le_refl _)]
    simp
  rw [e3, hlen] at hs
  exact hs
end
theorem own_rows {W : World} {base g n c : Nat} {t : TypeId} {xs : List Value} {k : Nat} (h : W.ownsRow base t 5 (.slice (some ⟨g, 0, none⟩) n c) k xs) : (∀ o, W.frozen? ⟨g, o, none⟩ = false) ∧ g < W.heap.size ∧ base ≤ g ∧ n ≤ c ∧ c ≤ maxLen ∧ ∀ o, o < n * 5 → (W.cell? ⟨g, o, none⟩).isSome = true := by
  rcases h.2 with ⟨e, _⟩ | ⟨g', cap, cur, e, hb, hh, h1, h2, h3, h4⟩
  · cases e
  · injection e with e e2 e3
    injection e with e
    injection e with e _
    subst e; subst e3; subst e2
    have hbk : Blk W g t cur := hh
    refine ⟨fun o => hbk.frozen o, hbk.lt, hb, h1, h2, fun o ho => ?_⟩
    have := hbk.cell o
    rw [this]
    have hle := Nat.mul_le_mul_right 5 h1
    rw [Array.getElem?_eq_getElem (by omega)]
    rfl
set_option maxRecDepth 100000 in
set_option maxHeartbeats 4000000 in
theorem deleteReg_ok (l : List Reg) (g c base B : Nat) (p m : Int) (bp bm : Nat) (w : World) (hl : l.length ≤ 4194304) (hbb : B ≤ base) (hBs : B ≤ w.heap.size) (hB : PmBox w bp bm p m) (lp : bp < B) (lm : bm < B) (ho : w.ownsRow base 43 5 (.slice (some ⟨g, 0, none⟩) l.length c) l.length (l.flatMap Reg.cells)) :
    Calls Try.prog 49 #[.slice (some ⟨g, 0, none⟩) l.length c, .func (.func 51) #[] #[.pointer (some ⟨bp, 0, none⟩), .pointer (some ⟨bm, 0, none⟩)]] w
      fun e w' => ∃ v, e = .returned v ∧ w'.ownsRow base 43 5 v (l.filter (keepR p m)).length ((l.filter (keepR p m)).flatMap Reg.cells) ∧ Below B w w' := by
  have hent : ∀ a w, (callFunc 51 a).run Try.prog w = .ok (.enter 51 a) w := enters_of Try.func51 (by kernel_rfl) rfl
  have HO := Lib.hid ho
  have HB := Lib.hid hB
  obtain ⟨_, hgl, hbg, hlc, hcm, _⟩ := own_rows ho
  have hrd := (own_slice ho).2
  have hBg : B ≤ g := Nat.le_trans hbb hbg
  clear ho hB
  go_enter Try.func49, Try.ntmps49
  go_wp2_with fail
  refine (indexReg_ok l (some ⟨g, 0, none⟩) c p m bp bm w hl HB.out hrd).mono ?_
  rintro e w1 ⟨⟨k, rfl, hk⟩, hb1⟩
  have HO1 := Lib.hid (own_below HO.out hb1)
  have HB1 := Lib.hid (HB.out.up hb1)
  have HW1 := Lib.hid (show Below B w w1 from hb1.mono hBs)
  clear hb1 hrd
  rcases hk with ⟨rfl, hall⟩ | ⟨i0, y, rfl, hy, hky, hpre⟩
  · have HF := Lib.hid (show l.filter (keepR p m) = l from List.filter_eq_self.2 hall)
    clear hall
    go_wp2
    go_ret
    exact ⟨_, rfl, by rw [HF.out]; exact HO1.out, HW1.out⟩
  · have hil : i0 < l.length := (List.getElem?_eq_some_iff.1 hy).1
    have hf0 : (l.take i0).filter (keepR p m) = l.take i0 := List.filter_eq_self.2 hpre
    have hD : DSt base B w w1 g l.length c l p m i0 i0.succ [y] := by
      have e1 : (l.take (i0 + 1)).filter (keepR p m) = l.take i0 := by rw [take_next hy, List.filter_append, hf0]; simp [hky]
      refine ⟨?_, by rw [e1, List.length_take]; omega, rfl, hil, by simp, HW1.out⟩
      rw [e1]
      have e2 : l.take i0 ++ [y] ++ l.drop (i0 + 1) = l := by
        rw [List.append_assoc]
        have := List.take_append_drop i0 l
        rw [drop_cons hy] at this
        simpa using this
      rw [e2]
      exact HO1.out
    have HD := Lib.hid hD
    have hne : ((i0 : Int) == -1) = false := by rw [beq_eq_false_iff_ne]; omega
    clear hD hf0 hpre hky hy
    go_wp2
    go_loopw [5, 6] (fun vi vj wr => ∃ (ia ib : Nat) (J : List Reg), ib ≤ l.length ∧ ia ≤ ib ∧ vi = .int .i64 ia ∧ vj = .int .i64 ib ∧ Hid (DSt base B w wr g l.length c l p m ia ib J)) (fun _ vj _ => l.length - (intOf vj).toNat)
    case atStart => exact ⟨i0, i0 + 1, _, hil, by omega, rfl, by first | rfl | go_num, HD⟩
    case round =>
      obtain ⟨ia, ib, J, hbl, hab, rfl, rfl, D⟩ := hrel
      have hrow := own_rows D.out.own
      have hBs2 : B ≤ wr.heap.size := Nat.le_trans hBs D.out.bel.size
      by_cases hlt : ib < l.length
      · obtain ⟨x, hx⟩ := get_lt hlt
        have HX := Lib.hid hx
        have hrd := D.out.rd rfl
        have hlen := D.out.len
        obtain ⟨_, _, e1, hbb1, g0, g1, g2, g3, g4⟩ := reg_at hrd (D.out.at_j hx)
        injection e1 with e1
        injection e1 with e1 e2 _
        subst e1; subst e2
        obtain ⟨y, hy⟩ := D.out.at_i
        obtain ⟨_, _, e1, _, k0, k1, k2, k3, k4⟩ := reg_at hrd hy
        injection e1 with e1
        injection e1 with e1 e2 _
        subst e1; subst e2
        simp only [Nat.zero_add] at g0 g1 g2 g3 g4 k0 k1 k2 k3 k4
        have hfz := hrow.1
        have n0 : (0 : Int) ≤ (ib : Int) := by omega
        have n1 : (ib : Int) < (l.length : Int) := by omega
        have a0 : (0 : Int) ≤ (ia : Int) := by omega
        have a1 : (ia : Int) < (l.length : Int) := by omega
        have HBk := Lib.hid (HB.out.below D.out.bel lp lm)
        clear hx hrd hlen hy hrow
        go_upto_region 8 with (fail)
        obtain ⟨W4, hW4, rb, hb4⟩ := RgBox.new wr x 43
        rw [hW4]
        have D4 := Lib.hid (D.out.up hb4 hBs2)
        have HB4 := Lib.hid (HBk.out.up hb4)
        have HRB := Lib.hid rb
        obtain ⟨p0, p1, p2, p3, p4, hz⟩ := rb
        clear hW4 g0 g1 g2 g3 g4 k0 k1 k2 k3 k4 hfz
        obtain ⟨v, hv⟩ : ∃ v, keepR p m x = v := ⟨_, rfl⟩
        have HV := Lib.hid hv
        clear hv
        go_wp2_with fail
        refine (ofFn_val x p m bp bm W4 HB4.out v HV).mono ?_
        rintro e w5 ⟨rfl, hb5⟩
        have D5 := Lib.hid (D4.out.up hb5 (Nat.le_trans hBs2 hb4.size))
        have HRB5 := Lib.hid (HRB.out.up hb5)
        clear hb5 hb4 p0 p1 p2 p3 p4 hz
        cases v
        · have D6 := Lib.hid (D5.out.skip HX.out HV.out)
          go_wp2
          go_roundw
          case rel => exact ⟨ia, ib + 1, _, hlt, by omega, by first | rfl | go_num, by first | rfl | go_num, D6⟩
          case measure => simp [intOf]; omega
        · obtain ⟨J', hD6⟩ := D5.out.keep HX.out HV.out hBg
          have D6 := Lib.hid hD6
          obtain ⟨y, hy⟩ := D5.out.at_i
          have hrd := D5.out.rd rfl
          obtain ⟨_, _, e1, _, k0, k1, k2, k3, k4⟩ := reg_at hrd hy
          injection e1 with e1
          injection e1 with e1 e2 _
          subst e1; subst e2
          simp only [Nat.zero_add] at k0 k1 k2 k3 k4
          have hfz := (own_rows D5.out.own).1
          obtain ⟨p0, p1, p2, p3, p4, hz⟩ := HRB5.out
          unfold setReg at D6
          clear hD6 hrd hy
          go_wp2
          go_roundw
          case rel => exact ⟨ia + 1, ib + 1, _, hlt, by omega, by first | rfl | go_num, by first | rfl | go_num, D6⟩
          case measure => simp [intOf]; omega
      · obtain rfl : ib = l.length := by omega
        have hjl := D.out.jl
        have hjp := D.out.jp
        have hD := D.out.own
        have hkept : (l.take l.length).filter (keepR p m) ++ J ++ l.drop l.length = l.filter (keepR p m) ++ J := by rw [List.take_length, List.drop_length, List.append_nil]
        rw [hkept] at hD
        have hlen : (l.filter (keepR p m) ++ J).length = l.length := by rw [← hkept]; exact D.out.len
        have hil2 : ia = (l.filter (keepR p m)).length := by have := D.out.il; rwa [List.take_length] at this
        rw [← hlen] at hD
        have hpre := own_pre hD
        rw [← hil2] at hpre
        have hn2 : 0 < l.length - ia := by omega
        obtain ⟨vs, hclr⟩ := run_clear_reg wr 0 g (ia * 5) (l.length - ia) (c - ia) hn2 (fun q hq => hrow.2.2.2.2.2 _ (by omega)) (fun q _ => hrow.1 _)
        have hcl2 := own_cleared (a := l.filter (keepR p m)) (vs := vs) (by rw [← hil2]; exact hpre)
        rw [← hil2] at hcl2
        have HC := Lib.hid hcl2
        have HBE := Lib.hid (below_setCells hBg vs (ia * 5) wr D.out.bel)
        have HIL := Lib.hid hil2
        have a0 : (0 : Int) ≤ (ia : Int) := by omega
        have a1 : (ia : Int) ≤ (l.length : Int) := by omega
        have a2 : (ia : Int) ≤ (c : Int) := by omega
        have a3 : ia ≤ l.length := by omega
        have a4 : ia ≤ c := by omega
        have a5 : l.length ≤ c := hlc
        clear hjl hjp hD hkept hlen hil2 hpre hcl2 hrow
        go_wp2
        go_ret
        refine ⟨_, rfl, ?_, HBE.out⟩
        have := HC.out
        rw [HIL.out] at this
        rw [HIL.out]
        exact this
set_option maxRecDepth 100000 in
set_option maxHeartbeats 1000000 in
theorem deleteNil_ok (p m : Int) (bp bm : Nat) (w : World) (hB : PmBox w bp bm p m) :
    Calls Try.prog 49 #[.slice none 0 0, .func (.func 51) #[] #[.pointer (some ⟨bp, 0, none⟩), .pointer (some ⟨bm, 0, none⟩)]] w
      fun e w' => e = .returned (.slice none 0 0) ∧ Below w.heap.size w w' := by
  have HB := Lib.hid hB
  clear hB
  go_enter Try.func49, Try.ntmps49
  go_wp2_with fail
  refine (indexReg_ok [] none 0 p m bp bm w (by simp) HB.out Rd.nil).mono ?_
  rintro e w1 ⟨⟨k, rfl, hk⟩, hb1⟩
  have HB1 := Lib.hid hb1
  rcases hk with ⟨rfl, _⟩ | ⟨i0, y, _, hy, _⟩
  · clear hb1
    go_wp2
    go_ret
    exact ⟨rfl, HB1.out⟩
  · simp at hy
def ofL (c : Cfg) (p m : Int) : List Reg := c.regs.filter (keepR p m)
set_option maxRecDepth 100000 in
set_option maxHeartbeats 4000000 in
theorem memOf_ok (c : Cfg) (A1 A2 A3 A4 A5 : Option Addr) (c1 c2 c3 c4 c5 : Nat) (w : World) (hR : CfgR w w.heap.size c A1 A2 A3 A4 A5 c1 c2 c3 c4 c5) (hs : c.small) (p m : Int) : Calls Try.prog 32 #[cfgV c.frame A1 A2 A3 A4 A5 c.parts.length c.wins.length c.regs.length c.ports.length c.chans.length c1 c2 c3 c4 c5, .int .u16 p, .int .u8 m] w fun e w' => ∃ v, e = .returned v ∧ w'.ownsRow w.heap.size 43 5 v (ofL c p m).length ((ofL c p m).flatMap Reg.cells) ∧ Below w.heap.size w w' := by
  obtain ⟨W0, hW, st⟩ := St.start_any hR 29
  have HW := Lib.hid hW
  have ST0 := Lib.hid st
  have hbd := hs.bd
  have br := hbd.r
  have e0 : W0.heap.size = w.heap.size + 1 := by rw [← hW]; simp
  have hb1 := below_one W0 (.cells #[.int .u16 p] 41)
  have hb2 := below_one (W0.alloc (.cells #[.int .u16 p] 41)) (.cells #[.int .u8 m] 5)
  have hPM : PmBox ((W0.alloc (.cells #[.int .u16 p] 41)).alloc (.cells #[.int .u8 m] 5)) (w.heap.size + 1) (w.heap.size + 1 + 1) p m := by
    rw [← e0]
    exact ⟨by simp, by simp, by rw [World.size_alloc, World.size_alloc]; omega, by rw [World.size_alloc, World.size_alloc]; omega⟩
  have hst2 := (st.up hb1).up hb2
  have hsz : ((W0.alloc (.cells #[.int .u16 p] 41)).alloc (.cells #[.int .u8 m] 5)).heap.size = w.heap.size + 1 + 1 + 1 := by simp [e0]
  obtain ⟨W2, hW2⟩ : ∃ W2, (W0.alloc (.cells #[.int .u16 p] 41)).alloc (.cells #[.int .u8 m] 5) = W2 := ⟨_, rfl⟩
  rw [hW2] at hPM hst2 hsz
  have HW2 := Lib.hid hW2
  have HPM := Lib.hid hPM
  have ST2 := Lib.hid hst2
  obtain ⟨x0, x1, x2, x3, x4, x5, hz⟩ := hst2.cells
  clear hR hW st hbd hb1 hb2 hPM hst2 hW2
  go_enter Try.func32, Try.ntmps32
  go_upto_region 1 with (fail)
  rw [HW.out, HW2.out]
  go_wp2_with fail
  refine (cloneReg_ok c.regs A3 c3 W2 (by omega) ST2.out.R.regs (fun e => ?_)).mono ?_
  · rcases Nat.eq_zero_or_pos c.regs.length with h | h
    · exact List.eq_nil_of_length_eq_zero h
    · obtain ⟨b, o, e2, _⟩ := ST2.out.R.regs.2 h
      rw [e] at e2; cases e2
  rintro e w3 ⟨v, rfl, ho, hb3⟩
  have HPM3 := Lib.hid (HPM.out.up hb3)
  have ST3 := Lib.hid (ST2.out.up hb3)
  have hs3 := hb3.size
  have hls := own_lessM ho (show w.heap.size ≤ W2.heap.size by omega)
  clear x0 x1 x2 x3 x4 x5 hz hb3
  rcases ho.2 with ⟨rfl, hn0⟩ | ⟨g, cap, cur, rfl, hbg, hh, hr⟩
  · have hnil : c.regs = [] := List.eq_nil_of_length_eq_zero hn0
    have HF := Lib.hid (show ofL c p m = [] by unfold ofL; rw [hnil]; rfl)
    clear ho hnil hn0 hls
    go_wp2_with fail
    refine (deleteNil_ok p m (w.heap.size + 1) (w.heap.size + 1 + 1) w3 HPM3.out).mono ?_
    rintro e w4 ⟨rfl, hb4⟩
    have HZ := Lib.hid (ST3.out.up hb4).bel
    clear hb4
    go_wp2
    go_ret
    exact ⟨_, rfl, by rw [HF.out]; exact World.ownsRow_nil _ _ _ _, HZ.out⟩
  · have HO := Lib.hid ho
    clear ho hls hh hr
    go_wp2_with fail
    refine (deleteReg_ok c.regs g cap W2.heap.size W2.heap.size p m (w.heap.size + 1) (w.heap.size + 1 + 1) w3 (by omega) (Nat.le_refl _) hs3 HPM3.out (by omega) (by omega) HO.out).mono ?_
    rintro e w4 ⟨v, rfl, ho4, hb4⟩
    have HO4 := Lib.hid (show w4.ownsRow w.heap.size 43 5 v (ofL c p m).length ((ofL c p m).flatMap Reg.cells) from own_lessM ho4 (by omega))
    have HZ := Lib.hid (show Below w.heap.size w w4 from ST3.out.bel.trans (hb4.mono (by omega)))
    clear ho4 hb4
    go_wp2
    go_ret
    exact ⟨_, rfl, HO4.out, HZ.out⟩
end Go.Proofs.Ytaakcpdpkcadjaa
