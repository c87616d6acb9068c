/-
  The windows of a partition: of$1 of package demand, slices.Clone, slices.IndexFunc and slices.DeleteFunc at api.Window, walked.
-/
import Derived.BigQuiet
import Derived.Test.YtpedlbjbbcbbkaaGreatFrmZ
import Derived.Test.YtpedlbjbbcbbkaaGreatMemA
import Derived.Test.YtpedlbjbbcbbkaaGreatCore
import Derived.Test.YtpedlbjbbcbbkaaGreatCmpG
import Derived.Test.YtpedlbjbbcbbkaaGreatLayDW
namespace Go.Proofs.YtpedlbjbbcbbkaaGreat
open Go.RowKit Go.Shelf
def keepW (p : Int) (x : Win) : Bool := x.part == p
/-- the box that of$1 is bound to: the partition's number is its first cell -/
structure PdBox (w : World) (bp : Nat) (p : Int) : Prop where
  hp : w.cell? ⟨bp, 0, none⟩ = some (.int .u16 p)
  lp : bp < w.heap.size
theorem PdBox.below {w w' : World} {bp B : Nat} {p : Int} (h : PdBox w bp p) (hb : Below B w w') (h1 : bp < B) : PdBox w' bp p :=
  ⟨(hb.cell (p := ⟨bp, 0, none⟩) h1).trans h.hp, Nat.lt_of_lt_of_le h.lp hb.size⟩
theorem PdBox.up {w w' : World} {bp : Nat} {p : Int} (h : PdBox w bp p) (hb : Below w.heap.size w w') : PdBox w' bp p := h.below hb h.lp
set_option maxRecDepth 100000 in
set_option maxHeartbeats 2000000 in
theorem wofFn_ok (x : Win) (p : Int) (bp : Nat) (w : World) (hB : PdBox w bp p) :
    Calls Tryz.prog 233 #[.agg #[.int .u64 x.start, .int .u64 x.len, .int .u16 x.part], .pointer (some ⟨bp, 0, none⟩)] w fun e w' => e = .returned (.bool (!keepW p x)) ∧ Below w.heap.size w w' := by
  obtain ⟨W1, hW, rb, hb1⟩ := WnBox.new w x 52
  obtain ⟨hp1, _⟩ := hB.up hb1
  have HW := Lib.hid hW
  obtain ⟨p0, p1, p2, hz⟩ := rb
  clear hW
  by_cases h1 : x.part = p
  · have HV := Lib.hid (show (!keepW p x) = false by unfold keepW; simp [h1])
    rw [h1] at p2
    clear h1
    go_enter Tryz.func233, Tryz.ntmps233
    go_upto_region 1 with (fail)
    rw [HW.out]
    go_wp2
    try go_quiet (fail)
    try go_wp2
    go_ret
    exact ⟨ret_bool HV.out.symm, by first | exact hb1 | exact below_drewN hb1 _⟩
  · have HV := Lib.hid (show (!keepW p x) = true by unfold keepW; simp [h1])
    have hne : (x.part == p) = false := beq_eq_false_iff_ne.2 h1
    clear h1
    go_enter Tryz.func233, Tryz.ntmps233
    go_upto_region 1 with (fail)
    rw [HW.out]
    go_wp2
    try go_quiet (fail)
    try go_wp2
    go_ret
    exact ⟨ret_bool (by rw [HV.out]; simp [hne, bne]), by first | exact hb1 | exact below_drewN hb1 _⟩
theorem wofFn_val (x : Win) (p : Int) (bp : Nat) (w : World) (hB : PdBox w bp p) (v : Bool) (hv : Hid (keepW p x = v)) :
    Calls Tryz.prog 233 #[.agg #[.int .u64 x.start, .int .u64 x.len, .int .u16 x.part], .pointer (some ⟨bp, 0, none⟩)] w fun e w' => e = .returned (.bool (!v)) ∧ Below w.heap.size w w' := by
  have h := wofFn_ok x p bp w hB
  rwa [hv.out] at h
set_option maxRecDepth 100000 in
set_option maxHeartbeats 2000000 in
theorem cloneWin_ok (l : List Win) (A : Option Addr) (c : Nat) (w : World) (hl : l.length ≤ 4194304) (hP : Rd w w.heap.size 3 A l.length (l.flatMap Win.cells)) (hA : A = none → l = []) :
    Calls Tryz.prog 232 #[.slice A l.length c] w fun e w' => ∃ v, e = .returned v ∧ w'.ownsRow w.heap.size 52 3 v l.length (l.flatMap Win.cells) ∧ Below w.heap.size w w' := by
  obtain ⟨i0, hi, hz0, hz1, hz2⟩ := info_parts infoWindow
  have qT : ∀ (w : World) (a : Option Addr) (n c n' c' : Nat), (binOp .eql 24 (.slice a n c) (.slice none n' c')).run Tryz.prog w = .ok (.bool a.isNone) w := fun w a n c n' c' => Lib.run_eql_slice_nil w _ _ a n c n' c' Tryz.underlying24
  rcases A with _ | ad
  · have hn := hA rfl
    subst hn
    go_enter Tryz.func232, Tryz.ntmps232
    go_wp2
    go_ret
    exact ⟨_, rfl, by simpa using World.ownsRow_nil _ _ _ _, Below.refl _ _⟩
  · have HO := Lib.hid (World.ownsRow_made (e := 52) (size := 3) w #[] 0 (Nat.le_refl _) (Nat.zero_le _) rfl)
    have HR := Lib.hid ((hP.alloc (Nat.le_refl _) (.cells #[] 52)))
    clear hP hA
    go_enter Tryz.func232, Tryz.ntmps232
    go_wp2_with (at_builtin; go_loud (refine wpList_append_rd _ rfl (.tmp 5) (.tmp 6) _ rfl w.heap.size 52 i0 (.agg #[.int .u64 0, .int .u64 0, .int .u16 0]) 3 24 Tryz.underlying24 hi hz0 hz1 hz2 rfl (by decide) _ 0 [] rfl HO.out w.heap.size (some ad) l.length c _ rfl HR.out (oneWin l) (by unfold maxLen; omega) (by omega) (by simp) ?_); intro v' w1 hown hg)
    go_ret
    refine ⟨_, rfl, by simpa using hown, ?_⟩
    exact below_own ((Below.refl w.heap.size w).alloc (Nat.le_refl _) _) hg HO.out (by simp)
set_option maxRecDepth 100000 in
set_option maxHeartbeats 2000000 in
theorem indexWin_ok (l : List Win) (A : Option Addr) (c : Nat) (p : Int) (bp : Nat) (w : World) (hl : l.length ≤ 4194304) (hB : PdBox w bp p) (hP : Rd w w.heap.size 3 A l.length (l.flatMap Win.cells)) :
    Calls Tryz.prog 294 #[.slice A l.length c, .func (.func 233) #[] #[.pointer (some ⟨bp, 0, none⟩)]] w
      fun e w' => (∃ k : Int, e = .returned (.int .i64 k) ∧ ((k = -1 ∧ ∀ x ∈ l, keepW p x = true) ∨ ∃ (i : Nat) (y : Win), k = (i : Int) ∧ l[i]? = some y ∧ keepW p y = false ∧ ∀ x ∈ l.take i, keepW p x = true)) ∧ Below w.heap.size w w' := by
  have hent : ∀ a w, (callFunc 233 a).run Tryz.prog w = .ok (.enter 233 a) w := enters_of Tryz.func233 (by kernel_rfl) rfl
  have HP := Lib.hid hP
  have HB := Lib.hid hB
  clear hP hB
  go_enter Tryz.func294, Tryz.ntmps294
  go_wp2
  go_loopw [8] (fun i wr => ∃ k : Nat, k ≤ l.length ∧ i = .int .i64 k ∧ Hid (∀ x ∈ l.take k, keepW p x = true) ∧ Hid (Below w.heap.size w wr)) (fun i _ => l.length - (intOf i).toNat)
  case atStart => exact ⟨0, Nat.zero_le _, rfl, Lib.hid (by simp), Lib.hid (Below.refl _ _)⟩
  case round =>
    obtain ⟨k, hk, rfl, HK, HW⟩ := hrel
    by_cases hkl : k < l.length
    · obtain ⟨x, hx⟩ := get_lt hkl
      have HX := Lib.hid hx
      obtain ⟨bb, o, rfl, hbb, g0, g1, g2⟩ := win_at (HP.out.up HW.out) hx
      have HBk := Lib.hid (HB.out.up HW.out)
      have n0 : (0 : Int) ≤ (k : Int) := by omega
      have n1 : (k : Int) < (l.length : Int) := by omega
      obtain ⟨v, hv⟩ : ∃ v, keepW p x = v := ⟨_, rfl⟩
      have HV := Lib.hid hv
      clear hx hv
      go_wp2_with fail
      refine (wofFn_val x p bp wr HBk.out v HV).mono ?_
      rintro e w2 ⟨rfl, hb2⟩
      have HW2 := Lib.hid (Below.then_ HW.out hb2)
      clear hb2 g0 g1 g2 hbb
      cases v
      · go_wp2
        go_ret
        exact ⟨⟨_, rfl, .inr ⟨k, x, rfl, HX.out, HV.out, HK.out⟩⟩, HW2.out⟩
      · go_wp2
        go_roundw
        case rel => exact ⟨k + 1, by omega, by go_num, Lib.hid (by rw [take_next HX.out]; intro y hy; rcases List.mem_append.1 hy with hy | hy; exact HK.out y hy; rw [List.mem_singleton] at hy; rw [hy]; exact HV.out), HW2⟩
        case measure => simp [intOf]; omega
    · obtain rfl : k = l.length := by omega
      go_wp2
      go_ret
      exact ⟨⟨_, rfl, .inl ⟨rfl, by have := HK.out; rwa [List.take_length] at this⟩⟩, HW.out⟩
theorem run_clear_win (w : World) (ty : TypeId) (b o n c : Nat) (hn : 0 < n) (hc : ∀ j, j < n * 3 → (w.cell? ⟨b, o + j, none⟩).isSome = true) (hf : ∀ j, j < n * 3 → w.frozen? ⟨b, o + j, none⟩ = false) :
    ∃ vs, (Builtin.clear_ #[24] ty #[.slice (some ⟨b, o, none⟩) n c]).run Tryz.prog w = .ok (.tuple #[]) (w.setCells b o vs) := by
  have hv : ∀ w, (zeroValue 52).run Tryz.prog w = .ok (.agg #[.int .u64 0, .int .u64 0, .int .u16 0]) w := fun w => by kernel_rfl
  have hlen : (Builtin.zeroCells (Value.agg #[.int .u64 0, .int .u64 0, .int .u16 0]).cells n).toList.length = n * 3 := by simp [Builtin.zeroCells, Value.cells]
  have h1 : ∀ v ∈ (Builtin.zeroCells (Value.agg #[.int .u64 0, .int .u64 0, .int .u16 0]).cells n).toList, v.oneCell' = true := by
    intro v hv
    simp only [Builtin.zeroCells, Value.cells, Array.toList_map, List.mem_map] at hv
    obtain ⟨i, _, rfl⟩ := hv
    have hm : i % 3 < 3 := Nat.mod_lt _ (by decide)
    have : i % 3 = 0 ∨ i % 3 = 1 ∨ i % 3 = 2 := by omega
    show (#[Value.int .u64 0, .int .u64 0, .int .u16 0][i % 3]!).oneCell' = true
    rcases this with h | h | h <;> rw [h] <;> rfl
  have hst := run_storeCells_cells (P := Tryz.prog) b o _ 0 w (by rw [hlen]; simpa using hc) (by rw [hlen]; simpa using hf) h1
  simp only [Nat.add_zero] at hst
  obtain ⟨m, rfl⟩ : ∃ m, n = m + 1 := ⟨n - 1, by omega⟩
  exact ⟨(Builtin.zeroCells (Value.agg #[.int .u64 0, .int .u64 0, .int .u16 0]).cells (m + 1)).toList, by simp [Builtin.clear_, run_underlying Tryz.underlying24, hv, hst]⟩
/-- where DeleteFunc stands: the kept ones, J (spent), what is still to come -/
structure DWt (base B : Nat) (w W : World) (g n c : Nat) (l : List Win) (p : Int) (i j : Nat) (J : List Win) : Prop where
  own : W.ownsRow base 52 3 (.slice (some ⟨g, 0, none⟩) n c) l.length (((l.take j).filter (keepW p) ++ J ++ l.drop j).flatMap Win.cells)
  il : i = ((l.take j).filter (keepW p)).length
  jl : i + J.length = j
  jle : j ≤ l.length
  jp : 0 < J.length
  bel : Below B w W
theorem DWt.len {base B : Nat} {w W : World} {g n c : Nat} {l : List Win} {p : Int} {i j : Nat} {J : List Win} (h : DWt base B w W g n c l p i j J) : ((l.take j).filter (keepW p) ++ J ++ l.drop j).length = l.length := by
  have := h.jl; have := h.jle; have := h.il
  rw [List.length_append, List.length_append, List.length_drop]
  omega
section
variable {base B : Nat} {w W V : World} {g n c : Nat} {l : List Win} {p : Int} {i j : Nat} {J : List Win} {x : Win}
theorem DWt.rd (h : DWt base B w W g n c l p i j J) (hn : n = l.length) : Rd W W.heap.size 3 (some ⟨g, 0, none⟩) ((l.take j).filter (keepW p) ++ J ++ l.drop j).length (((l.take j).filter (keepW p) ++ J ++ l.drop j).flatMap Win.cells) := by
  have := h.own
  rw [hn] at this
  have h2 := (own_slice this).2
  rwa [h.len]
theorem DWt.at_j (h : DWt base B w W g n c l p i j J) (hx : l[j]? = some x) : ((l.take j).filter (keepW p) ++ J ++ l.drop j)[j]? = some x := by
  have h1 := h.il
  have h2 := h.jl
  rw [List.getElem?_append_right (by rw [List.length_append]; omega), List.length_append, List.getElem?_drop]
  rw [show j + (j - (((l.take j).filter (keepW p)).length + J.length)) = j from by omega]
  exact hx
theorem DWt.at_i (h : DWt base B w W g n c l p i j J) : ∃ y, ((l.take j).filter (keepW p) ++ J ++ l.drop j)[i]? = some y := by
  have h1 := h.len
  have h2 := h.jl
  have h3 := h.jle
  have h4 := h.jp
  exact get_lt (by rw [h1]; omega)
theorem DWt.up (h : DWt base B w W g n c l p i j J) (hb : Below W.heap.size W V) (hB : B ≤ W.heap.size) : DWt base B w V g n c l p i j J :=
  ⟨own_below h.own hb, h.il, h.jl, h.jle, h.jp, h.bel.trans (hb.mono hB)⟩
theorem DWt.skip (h : DWt base B w W g n c l p i j J) (hx : l[j]? = some x) (hk : keepW p x = false) : DWt base B w W g n c l p i (j + 1) (J ++ [x]) := by
  have hjl : j < l.length := (List.getElem?_eq_some_iff.1 hx).1
  have e1 : (l.take (j + 1)).filter (keepW p) = (l.take j).filter (keepW p) := by rw [take_next hx, List.filter_append]; simp [hk]
  have e2 : l.drop j = x :: l.drop (j + 1) := drop_cons hx
  refine ⟨?_, by rw [e1]; exact h.il, by have := h.jl; simp; omega, hjl, by simp, h.bel⟩
  have := h.own
  rw [e2] at this
  rw [e1]
  simpa using this
theorem DWt.keep (h : DWt base B w W g n c l p i j J) (hx : l[j]? = some x) (hk : keepW p x = true) (hB : B ≤ g) : ∃ J', DWt base B w (setWin W g i x) g n c l p (i + 1) (j + 1) J' := by
  have hjl : j < l.length := (List.getElem?_eq_some_iff.1 hx).1
  have e1 : (l.take (j + 1)).filter (keepW p) = (l.take j).filter (keepW p) ++ [x] := by rw [take_next hx, List.filter_append]; simp [hk]
  have e2 : l.drop j = x :: l.drop (j + 1) := drop_cons hx
  obtain ⟨y, J', rfl⟩ : ∃ y J', J = y :: J' := by
    rcases J with _ | ⟨y, J'⟩
    · have := h.jp; simp at this
    · exact ⟨y, J', rfl⟩
  have h1 := h.il
  have h2 := h.jl
  have hlen := h.len
  have hown := h.own
  rw [← hlen] at hown
  have hs := own_win hown (by rw [hlen]; omega) x (i := i)
  refine ⟨J' ++ [x], ?_, by rw [e1, List.length_append, ← h1]; rfl, by simp at h2 ⊢; omega, hjl, by simp, below_setWin h.bel hB⟩
  have e3 : ((l.take j).filter (keepW p) ++ y :: J' ++ l.drop j).set i x = (l.take (j + 1)).filter (keepW p) ++ (J' ++ [x]) ++ l.drop (j + 1) := by
    rw [e1, e2, h1, List.append_assoc, List.set_append_right _ _ (Nat.le_refl _)]
    simp
  rw [e3, hlen] at hs
  exact hs
end
theorem own_rowsW {W : World} {base g n c : Nat} {t : TypeId} {xs : List Value} {k : Nat} (h : W.ownsRow base t 3 (.slice (some ⟨g, 0, none⟩) n c) k xs) : (∀ o, W.frozen? ⟨g, o, none⟩ = false) ∧ g < W.heap.size ∧ base ≤ g ∧ n ≤ c ∧ c ≤ maxLen ∧ ∀ o, o < n * 3 → (W.cell? ⟨g, o, none⟩).isSome = true := by
  rcases h.2 with ⟨e, _⟩ | ⟨g', cap, cur, e, hb, hh, h1, h2, h3, h4⟩
  · cases e
  · injection e with e e2 e3
    injection e with e
    injection e with e _
    subst e; subst e3; subst e2
    have hbk : Blk W g t cur := hh
    refine ⟨fun o => hbk.frozen o, hbk.lt, hb, h1, h2, fun o ho => ?_⟩
    have := hbk.cell o
    rw [this]
    have hle := Nat.mul_le_mul_right 5 h1
    rw [Array.getElem?_eq_getElem (by omega)]
    rfl
set_option maxRecDepth 100000 in
set_option maxHeartbeats 4000000 in
theorem deleteWin_ok (l : List Win) (g c base B : Nat) (p : Int) (bp : Nat) (w : World) (hl : l.length ≤ 4194304) (hbb : B ≤ base) (hBs : B ≤ w.heap.size) (hB : PdBox w bp p) (lp : bp < B) (ho : w.ownsRow base 52 3 (.slice (some ⟨g, 0, none⟩) l.length c) l.length (l.flatMap Win.cells)) :
    Calls Tryz.prog 231 #[.slice (some ⟨g, 0, none⟩) l.length c, .func (.func 233) #[] #[.pointer (some ⟨bp, 0, none⟩)]] w
      fun e w' => ∃ v, e = .returned v ∧ w'.ownsRow base 52 3 v (l.filter (keepW p)).length ((l.filter (keepW p)).flatMap Win.cells) ∧ Below B w w' := by
  have hent : ∀ a w, (callFunc 233 a).run Tryz.prog w = .ok (.enter 233 a) w := enters_of Tryz.func233 (by kernel_rfl) rfl
  have HO := Lib.hid ho
  have HB := Lib.hid hB
  obtain ⟨_, hgl, hbg, hlc, hcm, _⟩ := own_rowsW ho
  have hrd := (own_slice ho).2
  have hBg : B ≤ g := Nat.le_trans hbb hbg
  clear ho hB
  go_enter Tryz.func231, Tryz.ntmps231
  go_wp2_with fail
  refine (indexWin_ok l (some ⟨g, 0, none⟩) c p bp w hl HB.out hrd).mono ?_
  rintro e w1 ⟨⟨k, rfl, hk⟩, hb1⟩
  have HO1 := Lib.hid (own_below HO.out hb1)
  have HB1 := Lib.hid (HB.out.up hb1)
  have HW1 := Lib.hid (show Below B w w1 from hb1.mono hBs)
  clear hb1 hrd
  rcases hk with ⟨rfl, hall⟩ | ⟨i0, y, rfl, hy, hky, hpre⟩
  · have HF := Lib.hid (show l.filter (keepW p) = l from List.filter_eq_self.2 hall)
    clear hall
    go_wp2
    go_ret
    exact ⟨_, rfl, by rw [HF.out]; exact HO1.out, HW1.out⟩
  · have hil : i0 < l.length := (List.getElem?_eq_some_iff.1 hy).1
    have hf0 : (l.take i0).filter (keepW p) = l.take i0 := List.filter_eq_self.2 hpre
    have hD : DWt base B w w1 g l.length c l p i0 i0.succ [y] := by
      have e1 : (l.take (i0 + 1)).filter (keepW p) = l.take i0 := by rw [take_next hy, List.filter_append, hf0]; simp [hky]
      refine ⟨?_, by rw [e1, List.length_take]; omega, rfl, hil, by simp, HW1.out⟩
      rw [e1]
      have e2 : l.take i0 ++ [y] ++ l.drop (i0 + 1) = l := by
        rw [List.append_assoc]
        have := List.take_append_drop i0 l
        rw [drop_cons hy] at this
        simpa using this
      rw [e2]
      exact HO1.out
    have HD := Lib.hid hD
    have hne : ((i0 : Int) == -1) = false := by rw [beq_eq_false_iff_ne]; omega
    clear hD hf0 hpre hky hy
    go_wp2
    go_loopw [5, 6] (fun vi vj wr => ∃ (ia ib : Nat) (J : List Win), ib ≤ l.length ∧ ia ≤ ib ∧ vi = .int .i64 ia ∧ vj = .int .i64 ib ∧ Hid (DWt base B w wr g l.length c l p ia ib J)) (fun _ vj _ => l.length - (intOf vj).toNat)
    case atStart => exact ⟨i0, i0 + 1, _, hil, by omega, rfl, by first | rfl | go_num, HD⟩
    case round =>
      obtain ⟨ia, ib, J, hbl, hab, rfl, rfl, D⟩ := hrel
      have hrow := own_rowsW D.out.own
      have hBs2 : B ≤ wr.heap.size := Nat.le_trans hBs D.out.bel.size
      by_cases hlt : ib < l.length
      · obtain ⟨x, hx⟩ := get_lt hlt
        have HX := Lib.hid hx
        have hrd := D.out.rd rfl
        have hlen := D.out.len
        obtain ⟨_, _, e1, hbb1, g0, g1, g2⟩ := win_at hrd (D.out.at_j hx)
        injection e1 with e1
        injection e1 with e1 e2 _
        subst e1; subst e2
        obtain ⟨y, hy⟩ := D.out.at_i
        obtain ⟨_, _, e1, _, k0, k1, k2⟩ := win_at hrd hy
        injection e1 with e1
        injection e1 with e1 e2 _
        subst e1; subst e2
        simp only [Nat.zero_add] at g0 g1 g2 k0 k1 k2
        have hfz := hrow.1
        have n0 : (0 : Int) ≤ (ib : Int) := by omega
        have n1 : (ib : Int) < (l.length : Int) := by omega
        have a0 : (0 : Int) ≤ (ia : Int) := by omega
        have a1 : (ia : Int) < (l.length : Int) := by omega
        have HBk := Lib.hid (HB.out.below D.out.bel lp)
        clear hx hrd hlen hy hrow
        go_upto_region 8 with (fail)
        obtain ⟨W4, hW4, rb, hb4⟩ := WnBox.new wr x 52
        rw [hW4]
        have D4 := Lib.hid (D.out.up hb4 hBs2)
        have HB4 := Lib.hid (HBk.out.up hb4)
        have HRB := Lib.hid rb
        obtain ⟨p0, p1, p2, hz⟩ := rb
        clear hW4 g0 g1 g2 k0 k1 k2 hfz
        obtain ⟨v, hv⟩ : ∃ v, keepW p x = v := ⟨_, rfl⟩
        have HV := Lib.hid hv
        clear hv
        go_wp2_with fail
        refine (wofFn_val x p bp W4 HB4.out v HV).mono ?_
        rintro e w5 ⟨rfl, hb5⟩
        have D5 := Lib.hid (D4.out.up hb5 (Nat.le_trans hBs2 hb4.size))
        have HRB5 := Lib.hid (HRB.out.up hb5)
        clear hb5 hb4 p0 p1 p2 hz
        cases v
        · have D6 := Lib.hid (D5.out.skip HX.out HV.out)
          go_wp2
          go_roundw
          case rel => exact ⟨ia, ib + 1, _, hlt, by omega, by first | rfl | go_num, by first | rfl | go_num, D6⟩
          case measure => simp [intOf]; omega
        · obtain ⟨J', hD6⟩ := D5.out.keep HX.out HV.out hBg
          have D6 := Lib.hid hD6
          obtain ⟨y, hy⟩ := D5.out.at_i
          have hrd := D5.out.rd rfl
          obtain ⟨_, _, e1, _, k0, k1, k2⟩ := win_at hrd hy
          injection e1 with e1
          injection e1 with e1 e2 _
          subst e1; subst e2
          simp only [Nat.zero_add] at k0 k1 k2
          have hfz := (own_rowsW D5.out.own).1
          obtain ⟨p0, p1, p2, hz⟩ := HRB5.out
          unfold setWin at D6
          clear hD6 hrd hy
          go_wp2
          go_roundw
          case rel => exact ⟨ia + 1, ib + 1, _, hlt, by omega, by first | rfl | go_num, by first | rfl | go_num, D6⟩
          case measure => simp [intOf]; omega
      · obtain rfl : ib = l.length := by omega
        have hjl := D.out.jl
        have hjp := D.out.jp
        have hD := D.out.own
        have hkept : (l.take l.length).filter (keepW p) ++ J ++ l.drop l.length = l.filter (keepW p) ++ J := by rw [List.take_length, List.drop_length, List.append_nil]
        rw [hkept] at hD
        have hlen : (l.filter (keepW p) ++ J).length = l.length := by rw [← hkept]; exact D.out.len
        have hil2 : ia = (l.filter (keepW p)).length := by have := D.out.il; rwa [List.take_length] at this
        rw [← hlen] at hD
        have hpre := own_preW hD
        rw [← hil2] at hpre
        have hn2 : 0 < l.length - ia := by omega
        obtain ⟨vs, hclr⟩ := run_clear_win wr 0 g (ia * 3) (l.length - ia) (c - ia) hn2 (fun q hq => hrow.2.2.2.2.2 _ (by omega)) (fun q _ => hrow.1 _)
        have hcl2 := own_clearedW (a := l.filter (keepW p)) (vs := vs) (by rw [← hil2]; exact hpre)
        rw [← hil2] at hcl2
        have HC := Lib.hid hcl2
        have HBE := Lib.hid (below_setCells hBg vs (ia * 3) wr D.out.bel)
        have HIL := Lib.hid hil2
        have a0 : (0 : Int) ≤ (ia : Int) := by omega
        have a1 : (ia : Int) ≤ (l.length : Int) := by omega
        have a2 : (ia : Int) ≤ (c : Int) := by omega
        have a3 : ia ≤ l.length := by omega
        have a4 : ia ≤ c := by omega
        have a5 : l.length ≤ c := hlc
        clear hjl hjp hD hkept hlen hil2 hpre hcl2 hrow
        go_wp2
        go_ret
        refine ⟨_, rfl, ?_, HBE.out⟩
        have := HC.out
        rw [HIL.out] at this
        rw [HIL.out]
        exact this
set_option maxRecDepth 100000 in
set_option maxHeartbeats 1000000 in
theorem deleteNilW_ok (p : Int) (bp : Nat) (w : World) (hB : PdBox w bp p) :
    Calls Tryz.prog 231 #[.slice none 0 0, .func (.func 233) #[] #[.pointer (some ⟨bp, 0, none⟩)]] w
      fun e w' => e = .returned (.slice none 0 0) ∧ Below w.heap.size w w' := by
  have HB := Lib.hid hB
  clear hB
  go_enter Tryz.func231, Tryz.ntmps231
  go_wp2_with fail
  refine (indexWin_ok [] none 0 p bp w (by simp) HB.out Rd.nil).mono ?_
  rintro e w1 ⟨⟨k, rfl, hk⟩, hb1⟩
  have HB1 := Lib.hid hb1
  rcases hk with ⟨rfl, _⟩ | ⟨i0, y, _, hy, _⟩
  · clear hb1
    go_wp2
    go_ret
    exact ⟨rfl, HB1.out⟩
  · simp at hy
end Go.Proofs.YtpedlbjbbcbbkaaGreat
namespace Go.Proofs.YtpedlbjbbcbbkaaGreat
open Go.RowKit Go.Shelf Go.Sort
instance : Inhabited Win := ⟨⟨0, 0, 0⟩⟩
def cmpSt (x y : Win) : Int := Lib.compareInt x.start y.start
theorem cmpSt_lt (x y : Win) : ltOf cmpSt x y = decide (x.start < y.start) := by
  unfold ltOf cmpSt Lib.compareInt
  by_cases h1 : x.start < y.start
  · simp [h1]
  · by_cases h2 : y.start < x.start <;> simp [h1, h2]
theorem stSWO : SWO (ltOf cmpSt) where
  irrefl x := by rw [cmpSt_lt]; simp
  trans x y z h1 h2 := by rw [cmpSt_lt] at *; simp at *; omega
  ntrans x y z h1 h2 := by rw [cmpSt_lt] at *; simp at *; omega
theorem ofCmp_ok (x y : Win) (W : World) : Calls Tryz.prog 234 #[.agg #[.int .u64 x.start, .int .u64 x.len, .int .u16 x.part], .agg #[.int .u64 y.start, .int .u64 y.len, .int .u16 y.part]] W fun e w' => e = .returned (.int .i64 (cmpSt x y)) ∧ Grown W w' := by
  have hcmp := cmpU64_ok
  unfold cmpSt
  generalize Lib.compareInt = cI at hcmp ⊢
  go_enter Tryz.func234, Tryz.ntmps234
  go_wp2_with (go_at_call 87; refine (hcmp _ _ _).mono ?_; rintro e w' ⟨rfl, rfl⟩)
  go_ret
  exact ⟨rfl, ((Grown.refl W).alloc _).alloc _⟩
theorem permIn_listD {α : Type} [Inhabited α] {d d' : Array α} (h : PermIn 0 d.size d d') : d'.toList.Perm d.toList := by
  obtain ⟨h1, _, h3⟩ := h
  have e1 : d'.extract 0 d.size = d' := by rw [← h1]; exact Array.extract_size
  have e2 : d.extract 0 d.size = d := Array.extract_size
  rw [e1, e2] at h3
  exact h3
theorem sorted_starts {d : Array Win} {n : Nat} (hn : d.size = n) (hs : SortedIn (ltOf cmpSt) 0 n d) : d.toList.Pairwise fun a b => a.start ≤ b.start := by
  rw [List.pairwise_iff_getElem]
  intro i j hi hj hij
  have hi' : i < d.size := by simpa using hi
  have hj' : j < d.size := by simpa using hj
  have := hs i j (Nat.zero_le _) hij (by omega)
  rw [cmpSt_lt, decide_eq_false_iff_not, getElem!_pos d j hj', getElem!_pos d i hi'] at this
  simp only [Array.getElem_toList]
  omega
theorem sortWn_ok {L : List Win} {A : Option Addr} {c base : Nat} {w : World} (hbase : base ≤ w.heap.size) (hL : L.length ≤ 4194304) (h : w.ownsRow base 52 3 (.slice A L.length c) L.length (L.flatMap Win.cells)) :
    Calls Tryz.prog 150 #[.slice A L.length c, .func (.func 234) #[] #[]] w fun e w' => e = .returned (.tuple #[]) ∧ (∃ M : List Win, M.Perm L ∧ (M.Pairwise fun a b => a.start ≤ b.start) ∧ w'.ownsRow base 52 3 (.slice A L.length c) M.length (M.flatMap Win.cells)) ∧ Below base w w' := by
  rcases h.2 with ⟨h2, h3⟩ | ⟨g, cap, cur, e1, hb, hh, _⟩
  · obtain rfl : L = [] := List.eq_nil_of_length_eq_zero h3
    refine (AnyF.slices_SortFunc_none Tryz.layDW A c _ w).mono ?_
    rintro e w' ⟨rfl, rfl⟩
    exact ⟨rfl, ⟨[], List.Perm.refl _, List.Pairwise.nil, h⟩, Below.refl _ _⟩
  · injection e1 with e1 _ e2
    subst e1; subst e2
    have hlt : g < w.heap.size := (Array.getElem?_eq_some_iff.1 hh).1
    have eg : ∀ args w, (callFunc 234 args).run Tryz.prog w = .ok (.enter 234 args) w := enters_of Tryz.func234 (by kernel_rfl) rfl
    have hcon := AnyQ.slices_SortFunc Tryz.layDW 3 (fun w => by kernel_rfl) (fun w => by kernel_rfl) Win.cells (fun _ => rfl) (fun x v hv => by simp [Win.cells] at hv; rcases hv with rfl | rfl | rfl <;> rfl) cmpSt stSWO 234 #[] g 0 c L.toArray w eg (fun _ _ _ _ x y => ofCmp_ok x y _) (holdsK_own (enc := Win.cells) (k := 3) (fun _ => rfl) rfl h) hlt (by simp; omega)
    refine Calls.mono (show Calls Tryz.prog 150 #[.slice (some ⟨g, 0, none⟩) L.toArray.size c, .func (.func 234) #[] #[]] w _ from hcon) ?_
    rintro e w' ⟨rfl, d', n, os, hp, hsd, rfl⟩
    have hpl := permIn_listD (d := L.toArray) (by exact hp)
    have hsz : d'.size = L.length := hp.1
    refine ⟨rfl, ⟨d'.toList, by simpa using hpl, sorted_starts hsz (by simpa using hsd), ?_⟩, belowK_sorted (Below.refl _ _) hbase hb⟩
    have := ownK_sorted (enc := Win.cells) (k := 3) (m := n) (os := os) (fun _ => rfl) h hsz
    rw [show d'.toList.length = L.length by simpa using hsz]
    exact this
/-- a partition in a box -/
structure PqBox (w : World) (g : Nat) (x : Par) : Prop where
  h0 : w.cell? ⟨g, 0, none⟩ = some (.int .u16 x.id)
  h1 : w.cell? ⟨g, 1, none⟩ = some (.string x.name)
  h2 : w.cell? ⟨g, 2, none⟩ = some (.int .u64 x.period)
  h3 : w.cell? ⟨g, 3, none⟩ = some (.int .u64 x.duration)
  lt : g < w.heap.size
theorem PqBox.up {w w' : World} {g : Nat} {x : Par} (h : PqBox w g x) (hb : Below w.heap.size w w') : PqBox w' g x := by
  obtain ⟨h0, h1, h2, h3, hg⟩ := h
  have q : ∀ j, w'.cell? ⟨g, j, none⟩ = w.cell? ⟨g, j, none⟩ := fun j => hb.cell (p := ⟨g, j, none⟩) hg
  exact ⟨(q 0).trans h0, (q 1).trans h1, (q 2).trans h2, (q 3).trans h3, Nat.lt_of_lt_of_le hg hb.size⟩
theorem PqBox.new (w : World) (x : Par) (t : TypeId) : ∃ W, w.alloc (.cells #[.int .u16 x.id, .string x.name, .int .u64 x.period, .int .u64 x.duration] t) = W ∧ PqBox W w.heap.size x ∧ Below w.heap.size w W :=
  ⟨_, rfl, ⟨by simp, by simp, by simp, by simp, by simp⟩, below_one _ _⟩
theorem ResBk (w : World) (t : TypeId) : ∃ W, w.alloc (.cells #[.int .u16 0, .string ⟨#[]⟩, .int .u64 0, .int .u64 0, .int .u64 0, .slice none 0 0] t) = W ∧ Blk W w.heap.size t #[.int .u16 0, .string ⟨#[]⟩, .int .u64 0, .int .u64 0, .int .u64 0, .slice none 0 0] ∧ Below w.heap.size w W := ⟨_, rfl, Blk.new _ _ _, below_one _ _⟩
/-- the value of a partition with its windows -/
@[reducible] def ptV (p : Par) (frame : Int) (A : Option Addr) (n cp : Nat) : Value := .agg #[.int .u16 p.id, .string p.name, .int .u64 p.period, .int .u64 p.duration, .int .u64 frame, .slice A n cp]
/-- the windows of a partition in order -/
structure WnsOf (w : World) (B : Nat) (c : Cfg) (p : Par) (A : Option Addr) (L : List Win) : Prop where
  perm : L.Perm (c.wins.filter (keepW p.id))
  sorted : L.Pairwise fun a b => a.start ≤ b.start
  rd : Rd w B 3 A L.length (L.flatMap Win.cells)
set_option maxRecDepth 100000 in
set_option maxHeartbeats 4000000 in
theorem demOf_ok (c : Cfg) (A1 A2 A3 A4 A5 : Option Addr) (c1 c2 c3 c4 c5 : Nat) (w : World) (hR : CfgR w w.heap.size c A1 A2 A3 A4 A5 c1 c2 c3 c4 c5) (hs : c.small) (p : Par) : Calls Tryz.prog 192 #[cfgV c.frame A1 A2 A3 A4 A5 c.parts.length c.wins.length c.regs.length c.ports.length c.chans.length c1 c2 c3 c4 c5, .agg #[.int .u16 p.id, .string p.name, .int .u64 p.period, .int .u64 p.duration]] w fun e w' => ∃ A cp L, e = .returned (ptV p c.frame A L.length cp) ∧ WnsOf w' w'.heap.size c p A L ∧ Below w.heap.size w w' := by
  obtain ⟨W0, hW, st⟩ := St.start_any hR 29
  have e0 : W0.heap.size = w.heap.size + 1 := by rw [← hW]; simp
  obtain ⟨W1, hW1, pb1, hb1⟩ := PqBox.new W0 p 55
  have e1 : W1.heap.size = w.heap.size + 1 + 1 := by rw [← hW1]; simp [e0]
  obtain ⟨W2, hW2, rk2, hb2⟩ := ResBk W1 258
  have e2 : W2.heap.size = w.heap.size + 1 + 1 + 1 := by rw [← hW2]; simp [e1]
  have HW := Lib.hid hW
  have HW1 := Lib.hid hW1
  have HW2 := Lib.hid hW2
  have hbd := hs.bd
  have bw := hbd.w
  have ST2 := Lib.hid ((st.up hb1).up hb2)
  have hpb2 := pb1.up hb2
  rw [e0] at hpb2
  rw [e1] at rk2
  have HPB := Lib.hid hpb2
  have HRK := Lib.hid rk2
  have HPD := Lib.hid (show PdBox W2 (w.heap.size + 1) p.id from ⟨hpb2.h0, hpb2.lt⟩)
  have E2 := Lib.hid e2
  obtain ⟨x0, x1, x2, x3, x4, x5, hz⟩ := ST2.out.cells
  have hz1 := hpb2.lt
  have hz2 := rk2.lt
  clear hR hW st hW1 hb1 hW2 hb2 hbd hpb2 rk2 e0 e1 e2 pb1
  go_enter Tryz.func192, Tryz.ntmps192
  go_upto_region 1 with (fail)
  rw [HW.out, HW1.out, HW2.out]
  go_wp2_with fail
  refine (cloneWin_ok c.wins A2 c2 W2 (by omega) ST2.out.R.wins (fun e => ?_)).mono ?_
  · rcases Nat.eq_zero_or_pos c.wins.length with h | h
    · exact List.eq_nil_of_length_eq_zero h
    · obtain ⟨b, o, e2, _⟩ := ST2.out.R.wins.2 h
      rw [e] at e2; cases e2
  rintro e w3 ⟨v, rfl, ho, hb3⟩
  have HPD3 := Lib.hid (HPD.out.up hb3)
  have HB3 := Lib.hid hb3
  have hs3 := hb3.size
  clear x0 x1 x2 x3 x4 x5 hz hb3 hz1 hz2
  have hdel : Calls Tryz.prog 231 #[v, .func (.func 233) #[] #[.pointer (some ⟨w.heap.size + 1, 0, none⟩)]] w3
      fun e w' => ∃ v', e = .returned v' ∧ w'.ownsRow W2.heap.size 52 3 v' (c.wins.filter (keepW p.id)).length ((c.wins.filter (keepW p.id)).flatMap Win.cells) ∧ Below W2.heap.size w3 w' := by
    rcases ho.2 with ⟨rfl, hn0⟩ | ⟨g, cap, cur, rfl, hbg, hh, hr⟩
    · have hnil : c.wins = [] := List.eq_nil_of_length_eq_zero hn0
      refine (deleteNilW_ok p.id (w.heap.size + 1) w3 HPD3.out).mono ?_
      rintro e w4 ⟨rfl, hb4⟩
      exact ⟨_, rfl, by rw [hnil]; exact World.ownsRow_nil _ _ _ _, hb4.mono hs3⟩
    · exact deleteWin_ok c.wins g cap W2.heap.size W2.heap.size p.id (w.heap.size + 1) w3 (by omega) (Nat.le_refl _) hs3 HPD3.out (by have := E2.out; omega) ho
  have HDEL := Lib.hid hdel
  have HFL := Lib.hid (Nat.le_trans (List.length_filter_le (keepW p.id) c.wins) bw)
  clear hdel ho
  go_wp2_with fail
  refine HDEL.out.mono ?_
  rintro e w4 ⟨v', rfl, ho4, hb4⟩
  have HB4 := Lib.hid (HB3.out.trans hb4)
  obtain ⟨RA, rc, rfl, _⟩ := own_form ho4
  have HO4 := Lib.hid ho4
  clear ho4 hb4
  go_wp2_with fail
  refine (sortWn_ok (base := W2.heap.size) HB4.out.size (by have := HFL.out; omega) HO4.out).mono ?_
  rintro e w5 ⟨rfl, ⟨M, hperm, hsort, ho5⟩, hb5⟩
  have HB5 := Lib.hid (HB4.out.trans hb5)
  have HO5 := Lib.hid ho5
  have hml : (c.wins.filter (keepW p.id)).length = M.length := hperm.length_eq.symm
  have HP := Lib.hid hperm
  have HS := Lib.hid hsort
  clear ho5 hb5 hperm hsort
  rw [hml]
  have HML := Lib.hid hml
  clear hml
  have HST5 := Lib.hid (ST2.out.up HB5.out)
  have hpb := HPB.out.up HB5.out
  have hrk := HRK.out.below HB5.out HRK.out.lt
  obtain ⟨a0, a1, a2, a3, az⟩ := hpb
  obtain ⟨x0, x1, x2, x3, x4, x5, hz⟩ := HST5.out.cells
  have q0 := hrk.cell 0
  have q1 := hrk.cell 1
  have q2 := hrk.cell 2
  have q3 := hrk.cell 3
  have q4 := hrk.cell 4
  have q5 := hrk.cell 5
  have qf := hrk.frozen
  have hkl := hrk.lt
  simp at q0 q1 q2 q3 q4 q5
  clear hrk x1 x2 x3 x4 x5
  go_wp2
  refine bodyPost_ret (v := ptV p c.frame RA M.length rc) (by simp [results, Tryz.results192, go_sem, q0, q1, q2, q3, q4, q5]) rfl ⟨RA, rc, M, rfl, ⟨HP.out, HS.out, ?_⟩, ?_⟩
  · have hb : w.heap.size + 1 + 1 < W2.heap.size := by have := E2.out; omega
    have ho := HO5.out
    rw [HML.out] at ho
    exact (own_slice (own_set (own_set (own_set (own_set (own_set (own_set ho (p := ⟨w.heap.size + 1 + 1, 0, none⟩) hb _) (p := ⟨w.heap.size + 1 + 1, 1, none⟩) hb _) (p := ⟨w.heap.size + 1 + 1, 2, none⟩) hb _) (p := ⟨w.heap.size + 1 + 1, 3, none⟩) hb _) (p := ⟨w.heap.size + 1 + 1, 4, none⟩) hb _) (p := ⟨w.heap.size + 1 + 1, 5, none⟩) hb _)).2
  · exact Below.setCell (Below.setCell (Below.setCell (Below.setCell (Below.setCell (Below.setCell HST5.out.bel (by simp; omega) _) (by simp; omega) _) (by simp; omega) _) (by simp; omega) _) (by simp; omega) _) (by simp; omega) _
end Go.Proofs.YtpedlbjbbcbbkaaGreat
