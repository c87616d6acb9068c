/-
  Owners of package memory and of its reference, walked.
-/
import Derived.BigQuiet
import Derived.Test.YticdjnbkeiilfaaGreatMemA
import Derived.Test.YticdjnbkeiilfaaGreatCore
import Derived.Test.YticdjnbkeiilfaaGreatRegRow
namespace Go.Proofs.YticdjnbkeiilfaaGreat
open Go.RowKit
attribute [local go_sem] ext_cell
theorem infoIntM : (Tryz.prog.info? 3).map (fun i => (i.zero, i.size, i.bytes)) = some (some (.int .i64 0), 1, 8) := by kernel_rfl
def ownsB (r : Reg) (a : Int) : Bool := decide (r.base ≤ a) && decide (a - r.base < r.size)
theorem ownsB_has {r : Reg} {a : Int} : hasS (spnOf r) a = ownsB r a := by
  unfold hasS ownsB spnOf
  congr 1
  rw [decide_eq_decide]
  simp only
  omega
def ownTo (c : Cfg) (a : Int) (m : Nat) : List Int := ((List.range m).filter (fun k : Nat => match c.regs[k]? with | some r => ownsB r a | none => false)).map (fun k : Nat => (k : Int))
def ownL (c : Cfg) (a : Int) : List Int := ownTo c a c.regs.length
theorem ownTo_yes {c : Cfg} {a : Int} {m : Nat} {r : Reg} (hr : c.regs[m]? = some r) (h : ownsB r a = true) : ownTo c a (m + 1) = ownTo c a m ++ [(m : Int)] := by
  unfold ownTo; rw [List.range_succ, List.filter_append]; simp [hr, h]
theorem ownTo_no {c : Cfg} {a : Int} {m : Nat} {r : Reg} (hr : c.regs[m]? = some r) (h : ownsB r a = false) : ownTo c a (m + 1) = ownTo c a m := by
  unfold ownTo; rw [List.range_succ, List.filter_append]; simp [hr, h]
theorem ownTo_len (c : Cfg) (a : Int) (m : Nat) : (ownTo c a m).length ≤ m := by
  unfold ownTo; rw [List.length_map]; exact Nat.le_trans (List.length_filter_le _ _) (by simp)
theorem ownL_mem {c : Cfg} {a x : Int} : x ∈ ownL c a ↔ ∃ (k : Nat) (r : Reg), x = (k : Int) ∧ c.regs[k]? = some r ∧ ownsB r a = true := by
  unfold ownL ownTo
  rw [List.mem_map]
  constructor
  · rintro ⟨k, hk, rfl⟩
    rw [List.mem_filter] at hk
    rcases hr : c.regs[k]? with _ | r
    · rw [hr] at hk; exact absurd hk.2 (by simp)
    · rw [hr] at hk; exact ⟨k, r, rfl, hr, hk.2⟩
  · rintro ⟨k, r, rfl, hr, h⟩
    exact ⟨k, List.mem_filter.2 ⟨List.mem_range.2 (List.getElem?_eq_some_iff.1 hr).1, by rw [hr]; exact h⟩, rfl⟩
theorem one_newI (w : World) (a : Int) (t : TypeId) : Rd (w.alloc (.cells #[.int .i64 a] t)) (w.alloc (.cells #[.int .i64 a] t)).heap.size 1 (some ⟨w.heap.size, 0, none⟩) 1 [.int .i64 a] := by
  refine ⟨rfl, fun _ => ⟨_, _, rfl, by simp, fun j u hu => ?_⟩⟩
  have := World.news_of_block (heap_alloc_new w (.cells #[.int .i64 a] t)) j u (by simpa using hu)
  rwa [addr_add] at this
theorem rHas_val (x : Reg) (a : Int) (w : World) (h : okSp x.base x.size) (v : Bool) (hv : Hid (ownsB x a = v)) : Calls Tryz.prog 48 #[.agg #[.int .u64 x.base, .int .u64 x.size], .int .u64 a] w fun e w' => e = .returned (.bool v) ∧ Below w.heap.size w w' := by
  have h2 := rHas_ok (spnOf x) a w h
  rw [ownsB_has, hv.out] at h2
  exact h2
end Go.Proofs.YticdjnbkeiilfaaGreat
namespace Go.Proofs.YticdjnbkeiilfaaGreat
open Go.RowKit
def keepR (p m : Int) (r : Reg) : Bool := decide (r.part = p) && decide (bits .and .u8 r.rights m = m)
/-- the two boxes that of$1 is bound to -/
structure PmBox (w : World) (bp bm : Nat) (p m : Int) : Prop where
  hp : w.cell? ⟨bp, 0, none⟩ = some (.int .u16 p)
  hm : w.cell? ⟨bm, 0, none⟩ = some (.int .u8 m)
  lp : bp < w.heap.size
  lm : bm < w.heap.size
theorem PmBox.below {w w' : World} {bp bm B : Nat} {p m : Int} (h : PmBox w bp bm p m) (hb : Below B w w') (h1 : bp < B) (h2 : bm < B) : PmBox w' bp bm p m :=
  ⟨(hb.cell (p := ⟨bp, 0, none⟩) h1).trans h.hp, (hb.cell (p := ⟨bm, 0, none⟩) h2).trans h.hm, Nat.lt_of_lt_of_le h.lp hb.size, Nat.lt_of_lt_of_le h.lm hb.size⟩
theorem PmBox.up {w w' : World} {bp bm : Nat} {p m : Int} (h : PmBox w bp bm p m) (hb : Below w.heap.size w w') : PmBox w' bp bm p m := h.below hb h.lp h.lm
set_option maxRecDepth 100000 in
set_option maxHeartbeats 2000000 in
theorem ofFn_ok (x : Reg) (p m : Int) (bp bm : Nat) (w : World) (hB : PmBox w bp bm p m) :
    Calls Tryz.prog 114 #[.agg #[.int .u64 x.base, .int .u64 x.size, .int .u16 x.part, .int .u8 x.rights, .bool x.shared], .pointer (some ⟨bp, 0, none⟩), .pointer (some ⟨bm, 0, none⟩)] w fun e w' => e = .returned (.bool (!keepR p m x)) ∧ Below w.heap.size w w' := by
  obtain ⟨W1, hW, rb, hb1⟩ := RgBox.new w x 41
  obtain ⟨hp1, hm1, _, _⟩ := hB.up hb1
  have HW := Lib.hid hW
  obtain ⟨p0, p1, p2, p3, p4, hz⟩ := rb
  clear hW
  by_cases h1 : x.part = p
  · by_cases h2 : bits .and .u8 x.rights m = m
    · have HV := Lib.hid (show (!keepR p m x) = false by unfold keepR; simp [h1, h2])
      rw [h1] at p2
      clear h1
      go_enter Tryz.func114, Tryz.ntmps114
      go_upto_region 1 with (fail)
      rw [HW.out]
      go_wp2
      go_ret
      exact ⟨ret_bool HV.out.symm, hb1⟩
    · have HV := Lib.hid (show (!keepR p m x) = true by unfold keepR; simp [h1, h2])
      rw [h1] at p2
      clear h1
      go_enter Tryz.func114, Tryz.ntmps114
      go_upto_region 1 with (fail)
      rw [HW.out]
      go_wp2
      go_ret
      exact ⟨ret_bool (by rw [HV.out]; simp [h2]), hb1⟩
  · have HV := Lib.hid (show (!keepR p m x) = true by unfold keepR; simp [h1])
    go_enter Tryz.func114, Tryz.ntmps114
    go_upto_region 1 with (fail)
    rw [HW.out]
    go_wp2
    go_ret
    exact ⟨ret_bool HV.out.symm, hb1⟩
theorem ofFn_val (x : Reg) (p m : Int) (bp bm : Nat) (w : World) (hB : PmBox w bp bm p m) (v : Bool) (hv : Hid (keepR p m x = v)) :
    Calls Tryz.prog 114 #[.agg #[.int .u64 x.base, .int .u64 x.size, .int .u16 x.part, .int .u8 x.rights, .bool x.shared], .pointer (some ⟨bp, 0, none⟩), .pointer (some ⟨bm, 0, none⟩)] w fun e w' => e = .returned (.bool (!v)) ∧ Below w.heap.size w w' := by
  have h := ofFn_ok x p m bp bm w hB
  rwa [hv.out] at h
set_option maxRecDepth 100000 in
set_option maxHeartbeats 2000000 in
theorem cloneReg_ok (l : List Reg) (A : Option Addr) (c : Nat) (w : World) (hl : l.length ≤ 4194304) (hP : Rd w w.heap.size 5 A l.length (l.flatMap Reg.cells)) (hA : A = none → l = []) :
    Calls Tryz.prog 113 #[.slice A l.length c] w fun e w' => ∃ v, e = .returned v ∧ w'.ownsRow w.heap.size 41 5 v l.length (l.flatMap Reg.cells) ∧ Below w.heap.size w w' := by
  obtain ⟨i0, hi, hz0, hz1, hz2⟩ := info_parts infoRegion
  have qT : ∀ (w : World) (a : Option Addr) (n c n' c' : Nat), (binOp .eql 25 (.slice a n c) (.slice none n' c')).run Tryz.prog w = .ok (.bool a.isNone) w := fun w a n c n' c' => Lib.run_eql_slice_nil w _ _ a n c n' c' Tryz.underlying25
  rcases A with _ | ad
  · have hn := hA rfl
    subst hn
    go_enter Tryz.func113, Tryz.ntmps113
    go_wp2
    go_ret
    exact ⟨_, rfl, by simpa using World.ownsRow_nil _ _ _ _, Below.refl _ _⟩
  · have HO := Lib.hid (World.ownsRow_made (e := 41) (size := 5) w #[] 0 (Nat.le_refl _) (Nat.zero_le _) rfl)
    have HR := Lib.hid ((hP.alloc (Nat.le_refl _) (.cells #[] 41)))
    clear hP hA
    go_enter Tryz.func113, Tryz.ntmps113
    go_wp2_with (at_builtin; go_loud (refine wpList_append_rd _ rfl (.tmp 5) (.tmp 6) _ rfl w.heap.size 41 i0 (.agg #[.int .u64 0, .int .u64 0, .int .u16 0, .int .u8 0, .bool false]) 5 24 Tryz.underlying25 hi hz0 hz1 hz2 rfl (by decide) _ 0 [] rfl HO.out w.heap.size (some ad) l.length c _ rfl HR.out (oneReg l) (by unfold maxLen; omega) (by omega) (by simp) ?_); intro v' w1 hown hg)
    go_ret
    refine ⟨_, rfl, by simpa using hown, ?_⟩
    exact below_own ((Below.refl w.heap.size w).alloc (Nat.le_refl _) _) hg HO.out (by simp)
set_option maxRecDepth 100000 in
set_option maxHeartbeats 2000000 in
theorem indexReg_ok (l : List Reg) (A : Option Addr) (c : Nat) (p m : Int) (bp bm : Nat) (w : World) (hl : l.length ≤ 4194304) (hB : PmBox w bp bm p m) (hP : Rd w w.heap.size 5 A l.length (l.flatMap Reg.cells)) :
    Calls Tryz.prog 110 #[.slice A l.length c, .func (.func 114) #[] #[.pointer (some ⟨bp, 0, none⟩), .pointer (some ⟨bm, 0, none⟩)]] w
      fun e w' => (∃ k : Int, e = .returned (.int .i64 k) ∧ ((k = -1 ∧ ∀ x ∈ l, keepR p m x = true) ∨ ∃ (i : Nat) (y : Reg), k = (i : Int) ∧ l[i]? = some y ∧ keepR p m y = false ∧ ∀ x ∈ l.take i, keepR p m x = true)) ∧ Below w.heap.size w w' := by
  have hent : ∀ a w, (callFunc 114 a).run Tryz.prog w = .ok (.enter 114 a) w := enters_of Tryz.func114 (by kernel_rfl) rfl
  have HP := Lib.hid hP
  have HB := Lib.hid hB
  clear hP hB
  go_enter Tryz.func110, Tryz.ntmps110
  go_wp2
  go_loopw [8] (fun i wr => ∃ k : Nat, k ≤ l.length ∧ i = .int .i64 k ∧ Hid (∀ x ∈ l.take k, keepR p m x = true) ∧ Hid (Below w.heap.size w wr)) (fun i _ => l.length - (intOf i).toNat)
  case atStart => exact ⟨0, Nat.zero_le _, rfl, Lib.hid (by simp), Lib.hid (Below.refl _ _)⟩
  case round =>
    obtain ⟨k, hk, rfl, HK, HW⟩ := hrel
    by_cases hkl : k < l.length
    · obtain ⟨x, hx⟩ := get_lt hkl
      have HX := Lib.hid hx
      obtain ⟨bb, o, rfl, hbb, g0, g1, g2, g3, g4⟩ := reg_at (HP.out.up HW.out) hx
      have HBk := Lib.hid (HB.out.up HW.out)
      have n0 : (0 : Int) ≤ (k : Int) := by omega
      have n1 : (k : Int) < (l.length : Int) := by omega
      obtain ⟨v, hv⟩ : ∃ v, keepR p m x = v := ⟨_, rfl⟩
      have HV := Lib.hid hv
      clear hx hv
      go_wp2_with fail
      refine (ofFn_val x p m bp bm wr HBk.out v HV).mono ?_
      rintro e w2 ⟨rfl, hb2⟩
      have HW2 := Lib.hid (Below.then_ HW.out hb2)
      clear hb2 g0 g1 g2 g3 g4 hbb
      cases v
      · go_wp2
        go_ret
        exact ⟨⟨_, rfl, .inr ⟨k, x, rfl, HX.out, HV.out, HK.out⟩⟩, HW2.out⟩
      · go_wp2
        go_roundw
        case rel => exact ⟨k + 1, by omega, by go_num, Lib.hid (by rw [take_next HX.out]; intro y hy; rcases List.mem_append.1 hy with hy | hy; exact HK.out y hy; rw [List.mem_singleton] at hy; rw [hy]; exact HV.out), HW2⟩
        case measure => simp [intOf]; omega
    · obtain rfl : k = l.length := by omega
      go_wp2
      go_ret
      exact ⟨⟨_, rfl, .inl ⟨rfl, by have := HK.out; rwa [List.take_length] at this⟩⟩, HW.out⟩
end Go.Proofs.YticdjnbkeiilfaaGreat
namespace Go.Proofs.YticdjnbkeiilfaaGreat
open Go.RowKit Go.Shelf
theorem run_clear_reg (w : World) (ty : TypeId) (b o n c : Nat) (hn : 0 < n) (hc : ∀ j, j < n * 5 → (w.cell? ⟨b, o + j, none⟩).isSome = true) (hf : ∀ j, j < n * 5 → w.frozen? ⟨b, o + j, none⟩ = false) :
    ∃ vs, (Builtin.clear_ #[25] ty #[.slice (some ⟨b, o, none⟩) n c]).run Tryz.prog w = .ok (.tuple #[]) (w.setCells b o vs) := by
  have hv : ∀ w, (zeroValue 41).run Tryz.prog w = .ok (.agg #[.int .u64 0, .int .u64 0, .int .u16 0, .int .u8 0, .bool false]) w := fun w => by kernel_rfl
  have hlen : (Builtin.zeroCells (Value.agg #[.int .u64 0, .int .u64 0, .int .u16 0, .int .u8 0, .bool false]).cells n).toList.length = n * 5 := by simp [Builtin.zeroCells, Value.cells]
  have h1 : ∀ v ∈ (Builtin.zeroCells (Value.agg #[.int .u64 0, .int .u64 0, .int .u16 0, .int .u8 0, .bool false]).cells n).toList, v.oneCell' = true := by
    intro v hv
    simp only [Builtin.zeroCells, Value.cells, Array.toList_map, List.mem_map] at hv
    obtain ⟨i, _, rfl⟩ := hv
    have hm : i % 5 < 5 := Nat.mod_lt _ (by decide)
    have : i % 5 = 0 ∨ i % 5 = 1 ∨ i % 5 = 2 ∨ i % 5 = 3 ∨ i % 5 = 4 := by omega
    show (#[Value.int .u64 0, .int .u64 0, .int .u16 0, .int .u8 0, .bool false][i % 5]!).oneCell' = true
    rcases this with h | h | h | h | h <;> rw [h] <;> rfl
  have hst := run_storeCells_cells (P := Tryz.prog) b o _ 0 w (by rw [hlen]; simpa using hc) (by rw [hlen]; simpa using hf) h1
  simp only [Nat.add_zero] at hst
  obtain ⟨m, rfl⟩ : ∃ m, n = m + 1 := ⟨n - 1, by omega⟩
  exact ⟨(Builtin.zeroCells (Value.agg #[.int .u64 0, .int .u64 0, .int .u16 0, .int .u8 0, .bool false]).cells (m + 1)).toList, by simp [Builtin.clear_, run_underlying Tryz.underlying25, hv, hst]⟩
/-- where DeleteFunc stands: the kept ones, J (spent), what is still to come -/
structure DSt (base B : Nat) (w W : World) (g n c : Nat) (l : List Reg) (p m : Int) (i j : Nat) (J : List Reg) : Prop where
  own : W.ownsRow base 41 5 (.slice (some ⟨g, 0, none⟩) n c) l.length (((l.take j).filter (keepR p m) ++ J ++ l.drop j).flatMap Reg.cells)
  il : i = ((l.take j).filter (keepR p m)).length
  jl : i + J.length = j
  jle : j ≤ l.length
  jp : 0 < J.length
  bel : Below B w W
theorem DSt.len {base B : Nat} {w W : World} {g n c : Nat} {l : List Reg} {p m : Int} {i j : Nat} {J : List Reg} (h : DSt base B w W g n c l p m i j J) : ((l.take j).filter (keepR p m) ++ J ++ l.drop j).length = l.length := by
  have := h.jl; have := h.jle; have := h.il
  rw [List.length_append, List.length_append, List.length_drop]
  omega
section
variable {base B : Nat} {w W V : World} {g n c : Nat} {l : List Reg} {p m : Int} {i j : Nat} {J : List Reg} {x : Reg}
theorem DSt.rd (h : DSt base B w W g n c l p m i j J) (hn : n = l.length) : Rd W W.heap.size 5 (some ⟨g, 0, none⟩) ((l.take j).filter (keepR p m) ++ J ++ l.drop j).length (((l.take j).filter (keepR p m) ++ J ++ l.drop j).flatMap Reg.cells) := by
  have := h.own
  rw [hn] at this
  have h2 := (own_slice this).2
  rwa [h.len]
theorem DSt.at_j (h : DSt base B w W g n c l p m i j J) (hx : l[j]? = some x) : ((l.take j).filter (keepR p m) ++ J ++ l.drop j)[j]? = some x := by
  have h1 := h.il
  have h2 := h.jl
  rw [List.getElem?_append_right (by rw [List.length_append]; omega), List.length_append, List.getElem?_drop]
  rw [show j + (j - (((l.take j).filter (keepR p m)).length + J.length)) = j from by omega]
  exact hx
theorem DSt.at_i (h : DSt base B w W g n c l p m i j J) : ∃ y, ((l.take j).filter (keepR p m) ++ J ++ l.drop j)[i]? = some y := by
  have h1 := h.len
  have h2 := h.jl
  have h3 := h.jle
  have h4 := h.jp
  exact get_lt (by rw [h1]; omega)
theorem DSt.up (h : DSt base B w W g n c l p m i j J) (hb : Below W.heap.size W V) (hB : B ≤ W.heap.size) : DSt base B w V g n c l p m i j J :=
  ⟨own_below h.own hb, h.il, h.jl, h.jle, h.jp, h.bel.trans (hb.mono hB)⟩
theorem DSt.skip (h : DSt base B w W g n c l p m i j J) (hx : l[j]? = some x) (hk : keepR p m x = false) : DSt base B w W g n c l p m i (j + 1) (J ++ [x]) := by
  have hjl : j < l.length := (List.getElem?_eq_some_iff.1 hx).1
  have e1 : (l.take (j + 1)).filter (keepR p m) = (l.take j).filter (keepR p m) := by rw [take_next hx, List.filter_append]; simp [hk]
  have e2 : l.drop j = x :: l.drop (j + 1) := drop_cons hx
  refine ⟨?_, by rw [e1]; exact h.il, by have := h.jl; simp; omega, hjl, by simp, h.bel⟩
  have := h.own
  rw [e2] at this
  rw [e1]
  simpa using this
theorem DSt.keep (h : DSt base B w W g n c l p m i j J) (hx : l[j]? = some x) (hk : keepR p m x = true) (hB : B ≤ g) : ∃ J', DSt base B w (setReg W g i x) g n c l p m (i + 1) (j + 1) J' := by
  have hjl : j < l.length := (List.getElem?_eq_some_iff.1 hx).1
  have e1 : (l.take (j + 1)).filter (keepR p m) = (l.take j).filter (keepR p m) ++ [x] := by rw [take_next hx, List.filter_append]; simp [hk]
  have e2 : l.drop j = x :: l.drop (j + 1) := drop_cons hx
  obtain ⟨y, J', rfl⟩ : ∃ y J', J = y :: J' := by
    rcases J with _ | ⟨y, J'⟩
    · have := h.jp; simp at this
    · exact ⟨y, J', rfl⟩
  have h1 := h.il
  have h2 := h.jl
  have hlen := h.len
  have hown := h.own
  rw [← hlen] at hown
  have hs := own_reg hown (by rw [hlen]; omega) x (i := i)
  refine ⟨J' ++ [x], ?_, by rw [e1, List.length_append, ← h1]; rfl, by simp at h2 ⊢; omega, hjl, by simp, below_setReg h.bel hB⟩
  have e3 : ((l.take j).filter (keepR p m) ++ y :: J' ++ l.drop j).set i x = (l.take (j + 1)).filter (keepR p m) ++ (J' ++ [x]) ++ l.drop (j + 1) := by
    rw [e1, e2, h1, List.append_assoc, List.set_append_right _ _ (Nat.le_refl _)]
    simp
  rw [e3, hlen] at hs
  exact hs
end
theorem own_rows {W : World} {base g n c : Nat} {t : TypeId} {xs : List Value} {k : Nat} (h : W.ownsRow base t 5 (.slice (some ⟨g, 0, none⟩) n c) k xs) : (∀ o, W.frozen? ⟨g, o, none⟩ = false) ∧ g < W.heap.size ∧ base ≤ g ∧ n ≤ c ∧ c ≤ maxLen ∧ ∀ o, o < n * 5 → (W.cell? ⟨g, o, none⟩).isSome = true := by
  rcases h.2 with ⟨e, _⟩ | ⟨g', cap, cur, e, hb, hh, h1, h2, h3, h4⟩
  · cases e
  · injection e with e e2 e3
    injection e with e
    injection e with e _
    subst e; subst e3; subst e2
    have hbk : Blk W g t cur := hh
    refine ⟨fun o => hbk.frozen o, hbk.lt, hb, h1, h2, fun o ho => ?_⟩
    have := hbk.cell o
    rw [this]
    have hle := Nat.mul_le_mul_right 5 h1
    rw [Array.getElem?_eq_getElem (by omega)]
    rfl
set_option maxRecDepth 100000 in
set_option maxHeartbeats 4000000 in
theorem deleteReg_ok (l : List Reg) (g c base B : Nat) (p m : Int) (bp bm : Nat) (w : World) (hl : l.length ≤ 4194304) (hbb : B ≤ base) (hBs : B ≤ w.heap.size) (hB : PmBox w bp bm p m) (lp : bp < B) (lm : bm < B) (ho : w.ownsRow base 41 5 (.slice (some ⟨g, 0, none⟩) l.length c) l.length (l.flatMap Reg.cells)) :
    Calls Tryz.prog 112 #[.slice (some ⟨g, 0, none⟩) l.length c, .func (.func 114) #[] #[.pointer (some ⟨bp, 0, none⟩), .pointer (some ⟨bm, 0, none⟩)]] w
      fun e w' => ∃ v, e = .returned v ∧ w'.ownsRow base 41 5 v (l.filter (keepR p m)).length ((l.filter (keepR p m)).flatMap Reg.cells) ∧ Below B w w' := by
  have hent : ∀ a w, (callFunc 114 a).run Tryz.prog w = .ok (.enter 114 a) w := enters_of Tryz.func114 (by kernel_rfl) rfl
  have HO := Lib.hid ho
  have HB := Lib.hid hB
  obtain ⟨_, hgl, hbg, hlc, hcm, _⟩ := own_rows ho
  have hrd := (own_slice ho).2
  have hBg : B ≤ g := Nat.le_trans hbb hbg
  clear ho hB
  go_enter Tryz.func112, Tryz.ntmps112
  go_wp2_with fail
  refine (indexReg_ok l (some ⟨g, 0, none⟩) c p m bp bm w hl HB.out hrd).mono ?_
  rintro e w1 ⟨⟨k, rfl, hk⟩, hb1⟩
  have HO1 := Lib.hid (own_below HO.out hb1)
  have HB1 := Lib.hid (HB.out.up hb1)
  have HW1 := Lib.hid (show Below B w w1 from hb1.mono hBs)
  clear hb1 hrd
  rcases hk with ⟨rfl, hall⟩ | ⟨i0, y, rfl, hy, hky, hpre⟩
  · have HF := Lib.hid (show l.filter (keepR p m) = l from List.filter_eq_self.2 hall)
    clear hall
    go_wp2
    go_ret
    exact ⟨_, rfl, by rw [HF.out]; exact HO1.out, HW1.out⟩
  · have hil : i0 < l.length := (List.getElem?_eq_some_iff.1 hy).1
    have hf0 : (l.take i0).filter (keepR p m) = l.take i0 := List.filter_eq_self.2 hpre
    have hD : DSt base B w w1 g l.length c l p m i0 i0.succ [y] := by
      have e1 : (l.take (i0 + 1)).filter (keepR p m) = l.take i0 := by rw [take_next hy, List.filter_append, hf0]; simp [hky]
      refine ⟨?_, by rw [e1, List.length_take]; omega, rfl, hil, by simp, HW1.out⟩
      rw [e1]
      have e2 : l.take i0 ++ [y] ++ l.drop (i0 + 1) = l := by
        rw [List.append_assoc]
        have := List.take_append_drop i0 l
        rw [drop_cons hy] at this
        simpa using this
      rw [e2]
      exact HO1.out
    have HD := Lib.hid hD
    have hne : ((i0 : Int) == -1) = false := by rw [beq_eq_false_iff_ne]; omega
    clear hD hf0 hpre hky hy
    go_wp2
    go_loopw [5, 6] (fun vi vj wr => ∃ (ia ib : Nat) (J : List Reg), ib ≤ l.length ∧ ia ≤ ib ∧ vi = .int .i64 ia ∧ vj = .int .i64 ib ∧ Hid (DSt base B w wr g l.length c l p m ia ib J)) (fun _ vj _ => l.length - (intOf vj).toNat)
    case atStart => exact ⟨i0, i0 + 1, _, hil, by omega, rfl, by first | rfl | go_num, HD⟩
    case round =>
      obtain ⟨ia, ib, J, hbl, hab, rfl, rfl, D⟩ := hrel
      have hrow := own_rows D.out.own
      have hBs2 : B ≤ wr.heap.size := Nat.le_trans hBs D.out.bel.size
      by_cases hlt : ib < l.length
      · obtain ⟨x, hx⟩ := get_lt hlt
        have HX := Lib.hid hx
        have hrd := D.out.rd rfl
        have hlen := D.out.len
        obtain ⟨_, _, e1, hbb1, g0, g1, g2, g3, g4⟩ := reg_at hrd (D.out.at_j hx)
        injection e1 with e1
        injection e1 with e1 e2 _
        subst e1; subst e2
        obtain ⟨y, hy⟩ := D.out.at_i
        obtain ⟨_, _, e1, _, k0, k1, k2, k3, k4⟩ := reg_at hrd hy
        injection e1 with e1
        injection e1 with e1 e2 _
        subst e1; subst e2
        simp only [Nat.zero_add] at g0 g1 g2 g3 g4 k0 k1 k2 k3 k4
        have hfz := hrow.1
        have n0 : (0 : Int) ≤ (ib : Int) := by omega
        have n1 : (ib : Int) < (l.length : Int) := by omega
        have a0 : (0 : Int) ≤ (ia : Int) := by omega
        have a1 : (ia : Int) < (l.length : Int) := by omega
        have HBk := Lib.hid (HB.out.below D.out.bel lp lm)
        clear hx hrd hlen hy hrow
        go_upto_region 8 with (fail)
        obtain ⟨W4, hW4, rb, hb4⟩ := RgBox.new wr x 41
        rw [hW4]
        have D4 := Lib.hid (D.out.up hb4 hBs2)
        have HB4 := Lib.hid (HBk.out.up hb4)
        have HRB := Lib.hid rb
        obtain ⟨p0, p1, p2, p3, p4, hz⟩ := rb
        clear hW4 g0 g1 g2 g3 g4 k0 k1 k2 k3 k4 hfz
        obtain ⟨v, hv⟩ : ∃ v, keepR p m x = v := ⟨_, rfl⟩
        have HV := Lib.hid hv
        clear hv
        go_wp2_with fail
        refine (ofFn_val x p m bp bm W4 HB4.out v HV).mono ?_
        rintro e w5 ⟨rfl, hb5⟩
        have D5 := Lib.hid (D4.out.up hb5 (Nat.le_trans hBs2 hb4.size))
        have HRB5 := Lib.hid (HRB.out.up hb5)
        clear hb5 hb4 p0 p1 p2 p3 p4 hz
        cases v
        · have D6 := Lib.hid (D5.out.skip HX.out HV.out)
          go_wp2
          go_roundw
          case rel => exact ⟨ia, ib + 1, _, hlt, by omega, by first | rfl | go_num, by first | rfl | go_num, D6⟩
          case measure => simp [intOf]; omega
        · obtain ⟨J', hD6⟩ := D5.out.keep HX.out HV.out hBg
          have D6 := Lib.hid hD6
          obtain ⟨y, hy⟩ := D5.out.at_i
          have hrd := D5.out.rd rfl
          obtain ⟨_, _, e1, _, k0, k1, k2, k3, k4⟩ := reg_at hrd hy
          injection e1 with e1
          injection e1 with e1 e2 _
          subst e1; subst e2
          simp only [Nat.zero_add] at k0 k1 k2 k3 k4
          have hfz := (own_rows D5.out.own).1
          obtain ⟨p0, p1, p2, p3, p4, hz⟩ := HRB5.out
          unfold setReg at D6
          clear hD6 hrd hy
          go_wp2
          go_roundw
          case rel => exact ⟨ia + 1, ib + 1, _, hlt, by omega, by first | rfl | go_num, by first | rfl | go_num, D6⟩
          case measure => simp [intOf]; omega
      · obtain rfl : ib = l.length := by omega
        have hjl := D.out.jl
        have hjp := D.out.jp
        have hD := D.out.own
        have hkept : (l.take l.length).filter (keepR p m) ++ J ++ l.drop l.length = l.filter (keepR p m) ++ J := by rw [List.take_length, List.drop_length, List.append_nil]
        rw [hkept] at hD
        have hlen : (l.filter (keepR p m) ++ J).length = l.length := by rw [← hkept]; exact D.out.len
        have hil2 : ia = (l.filter (keepR p m)).length := by have := D.out.il; rwa [List.take_length] at this
        rw [← hlen] at hD
        have hpre := own_pre hD
        rw [← hil2] at hpre
        have hn2 : 0 < l.length - ia := by omega
        obtain ⟨vs, hclr⟩ := run_clear_reg wr 0 g (ia * 5) (l.length - ia) (c - ia) hn2 (fun q hq => hrow.2.2.2.2.2 _ (by omega)) (fun q _ => hrow.1 _)
        have hcl2 := own_cleared (a := l.filter (keepR p m)) (vs := vs) (by rw [← hil2]; exact hpre)
        rw [← hil2] at hcl2
        have HC := Lib.hid hcl2
        have HBE := Lib.hid (below_setCells hBg vs (ia * 5) wr D.out.bel)
        have HIL := Lib.hid hil2
        have a0 : (0 : Int) ≤ (ia : Int) := by omega
        have a1 : (ia : Int) ≤ (l.length : Int) := by omega
        have a2 : (ia : Int) ≤ (c : Int) := by omega
        have a3 : ia ≤ l.length := by omega
        have a4 : ia ≤ c := by omega
        have a5 : l.length ≤ c := hlc
        clear hjl hjp hD hkept hlen hil2 hpre hcl2 hrow
        go_wp2
        go_ret
        refine ⟨_, rfl, ?_, HBE.out⟩
        have := HC.out
        rw [HIL.out] at this
        rw [HIL.out]
        exact this
set_option maxRecDepth 100000 in
set_option maxHeartbeats 1000000 in
theorem deleteNil_ok (p m : Int) (bp bm : Nat) (w : World) (hB : PmBox w bp bm p m) :
    Calls Tryz.prog 112 #[.slice none 0 0, .func (.func 114) #[] #[.pointer (some ⟨bp, 0, none⟩), .pointer (some ⟨bm, 0, none⟩)]] w
      fun e w' => e = .returned (.slice none 0 0) ∧ Below w.heap.size w w' := by
  have HB := Lib.hid hB
  clear hB
  go_enter Tryz.func112, Tryz.ntmps112
  go_wp2_with fail
  refine (indexReg_ok [] none 0 p m bp bm w (by simp) HB.out Rd.nil).mono ?_
  rintro e w1 ⟨⟨k, rfl, hk⟩, hb1⟩
  have HB1 := Lib.hid hb1
  rcases hk with ⟨rfl, _⟩ | ⟨i0, y, _, hy, _⟩
  · clear hb1
    go_wp2
    go_ret
    exact ⟨rfl, HB1.out⟩
  · simp at hy
def ofL (c : Cfg) (p m : Int) : List Reg := c.regs.filter (keepR p m)
set_option maxRecDepth 100000 in
set_option maxHeartbeats 4000000 in
theorem memOf_ok (c : Cfg) (A1 A2 A3 A4 A5 : Option Addr) (c1 c2 c3 c4 c5 : Nat) (w : World) (hR : CfgR w w.heap.size c A1 A2 A3 A4 A5 c1 c2 c3 c4 c5) (hs : c.small) (p m : Int) : Calls Tryz.prog 57 #[cfgV c.frame A1 A2 A3 A4 A5 c.parts.length c.wins.length c.regs.length c.ports.length c.chans.length c1 c2 c3 c4 c5, .int .u16 p, .int .u8 m] w fun e w' => ∃ v, e = .returned v ∧ w'.ownsRow w.heap.size 41 5 v (ofL c p m).length ((ofL c p m).flatMap Reg.cells) ∧ Below w.heap.size w w' := by
  obtain ⟨W0, hW, st⟩ := St.start_any hR 29
  have HW := Lib.hid hW
  have ST0 := Lib.hid st
  have hbd := hs.bd
  have br := hbd.r
  have e0 : W0.heap.size = w.heap.size + 1 := by rw [← hW]; simp
  have hb1 := below_one W0 (.cells #[.int .u16 p] 37)
  have hb2 := below_one (W0.alloc (.cells #[.int .u16 p] 37)) (.cells #[.int .u8 m] 5)
  have hPM : PmBox ((W0.alloc (.cells #[.int .u16 p] 37)).alloc (.cells #[.int .u8 m] 5)) (w.heap.size + 1) (w.heap.size + 1 + 1) p m := by
    rw [← e0]
    exact ⟨by simp, by simp, by rw [World.size_alloc, World.size_alloc]; omega, by rw [World.size_alloc, World.size_alloc]; omega⟩
  have hst2 := (st.up hb1).up hb2
  have hsz : ((W0.alloc (.cells #[.int .u16 p] 37)).alloc (.cells #[.int .u8 m] 5)).heap.size = w.heap.size + 1 + 1 + 1 := by simp [e0]
  obtain ⟨W2, hW2⟩ : ∃ W2, (W0.alloc (.cells #[.int .u16 p] 37)).alloc (.cells #[.int .u8 m] 5) = W2 := ⟨_, rfl⟩
  rw [hW2] at hPM hst2 hsz
  have HW2 := Lib.hid hW2
  have HPM := Lib.hid hPM
  have ST2 := Lib.hid hst2
  obtain ⟨x0, x1, x2, x3, x4, x5, hz⟩ := hst2.cells
  clear hR hW st hbd hb1 hb2 hPM hst2 hW2
  go_enter Tryz.func57, Tryz.ntmps57
  go_upto_region 1 with (fail)
  rw [HW.out, HW2.out]
  go_wp2_with fail
  refine (cloneReg_ok c.regs A3 c3 W2 (by omega) ST2.out.R.regs (fun e => ?_)).mono ?_
  · rcases Nat.eq_zero_or_pos c.regs.length with h | h
    · exact List.eq_nil_of_length_eq_zero h
    · obtain ⟨b, o, e2, _⟩ := ST2.out.R.regs.2 h
      rw [e] at e2; cases e2
  rintro e w3 ⟨v, rfl, ho, hb3⟩
  have HPM3 := Lib.hid (HPM.out.up hb3)
  have ST3 := Lib.hid (ST2.out.up hb3)
  have hs3 := hb3.size
  have hls := own_lessM ho (show w.heap.size ≤ W2.heap.size by omega)
  clear x0 x1 x2 x3 x4 x5 hz hb3
  rcases ho.2 with ⟨rfl, hn0⟩ | ⟨g, cap, cur, rfl, hbg, hh, hr⟩
  · have hnil : c.regs = [] := List.eq_nil_of_length_eq_zero hn0
    have HF := Lib.hid (show ofL c p m = [] by unfold ofL; rw [hnil]; rfl)
    clear ho hnil hn0 hls
    go_wp2_with fail
    refine (deleteNil_ok p m (w.heap.size + 1) (w.heap.size + 1 + 1) w3 HPM3.out).mono ?_
    rintro e w4 ⟨rfl, hb4⟩
    have HZ := Lib.hid (ST3.out.up hb4).bel
    clear hb4
    go_wp2
    go_ret
    exact ⟨_, rfl, by rw [HF.out]; exact World.ownsRow_nil _ _ _ _, HZ.out⟩
  · have HO := Lib.hid ho
    clear ho hls hh hr
    go_wp2_with fail
    refine (deleteReg_ok c.regs g cap W2.heap.size W2.heap.size p m (w.heap.size + 1) (w.heap.size + 1 + 1) w3 (by omega) (Nat.le_refl _) hs3 HPM3.out (by omega) (by omega) HO.out).mono ?_
    rintro e w4 ⟨v, rfl, ho4, hb4⟩
    have HO4 := Lib.hid (show w4.ownsRow w.heap.size 41 5 v (ofL c p m).length ((ofL c p m).flatMap Reg.cells) from own_lessM ho4 (by omega))
    have HZ := Lib.hid (show Below w.heap.size w w4 from ST3.out.bel.trans (hb4.mono (by omega)))
    clear ho4 hb4
    go_wp2
    go_ret
    exact ⟨_, rfl, HO4.out, HZ.out⟩
end Go.Proofs.YticdjnbkeiilfaaGreat
namespace Go.Proofs.YticdjnbkeiilfaaGreat
open Go.RowKit
def Cov (l : List Reg) (b s : Int) : Prop := ∀ a, b ≤ a → a < b + s → ∃ r ∈ l, ownsB r a = true
noncomputable def covB (l : List Reg) (b s : Int) : Bool := @decide (Cov l b s) (Classical.propDecidable _)
theorem covB_yes {l : List Reg} {b s : Int} (h : Cov l b s) : covB l b s = true := by unfold covB; exact @decide_eq_true _ (Classical.propDecidable _) h
theorem covB_no {l : List Reg} {b s : Int} (h : ¬ Cov l b s) : covB l b s = false := by unfold covB; exact @decide_eq_false _ (Classical.propDecidable _) h
/-- f is how far the regions of l reach from b -/
def Far (l : List Reg) (b f : Int) : Prop := 0 ≤ f ∧ (f = 0 → ∀ r ∈ l, ownsB r b = false) ∧ (0 < f → ∃ r ∈ l, ownsB r b = true ∧ f = r.size - (b - r.base))
theorem Far.nil {b : Int} : Far [] b 0 := ⟨Int.le_refl _, fun _ r hr => by simp at hr, fun h => absurd h (Int.lt_irrefl _)⟩
theorem Far.skip {l : List Reg} {b f : Int} {r : Reg} (h : Far l b f) (hr : ownsB r b = false) : Far (l ++ [r]) b f :=
  ⟨h.1, fun h0 x hx => by rcases List.mem_append.1 hx with hx | hx; exact h.2.1 h0 x hx; rw [List.mem_singleton] at hx; rw [hx]; exact hr,
    fun h0 => by obtain ⟨x, hx, h1⟩ := h.2.2 h0; exact ⟨x, by simp [hx], h1⟩⟩
theorem ownsB_iff {r : Reg} {a : Int} : ownsB r a = true ↔ r.base ≤ a ∧ a - r.base < r.size := by
  unfold ownsB; simp
theorem Far.take_ {l : List Reg} {b : Int} {r : Reg} (hr : ownsB r b = true) : Far (l ++ [r]) b (r.size - (b - r.base)) := by
  have := ownsB_iff.1 hr
  exact ⟨by omega, fun h0 => by omega, fun _ => ⟨r, by simp, hr, rfl⟩⟩
theorem Far.keep {l : List Reg} {b f : Int} {r : Reg} (h : Far l b f) (hr : ownsB r b = true) (hf : r.size - (b - r.base) ≤ f) : Far (l ++ [r]) b f := by
  have := ownsB_iff.1 hr
  refine ⟨h.1, fun h0 => by omega, fun h0 => ?_⟩
  obtain ⟨x, hx, h1⟩ := h.2.2 h0
  exact ⟨x, by simp [hx], h1⟩
theorem Far.none_ {l : List Reg} {b s : Int} (h : Far l b 0) (hs : 0 < s) : ¬ Cov l b s := fun hc => by
  obtain ⟨r, hr, ho⟩ := hc b (Int.le_refl _) (by omega)
  rw [h.2.1 rfl r hr] at ho
  cases ho
theorem Far.reach {l : List Reg} {b f : Int} (h : Far l b f) (hf : 0 < f) : Cov l b f := by
  obtain ⟨r, hr, ho, e⟩ := h.2.2 hf
  have := ownsB_iff.1 ho
  intro a h1 h2
  exact ⟨r, hr, ownsB_iff.2 ⟨by omega, by omega⟩⟩
theorem Cov.join {l : List Reg} {b s f : Int} (h : Cov l b f) (k : Cov l (b + f) s) : Cov l b (f + s) := fun a h1 h2 => by
  rcases Int.lt_or_le a (b + f) with h3 | h3
  · exact h a h1 h3
  · exact k a h3 (by omega)
theorem Cov.tail {l : List Reg} {b s f : Int} (h : Cov l b s) (hf : 0 ≤ f) : Cov l (b + f) (s - f) := fun a h1 h2 => h a (by omega) (by omega)
theorem Cov.less {l : List Reg} {b s f : Int} (h : Cov l b s) (hf : f ≤ s) : Cov l b f := fun a h1 h2 => h a h1 (by omega)
theorem Cov.empty {l : List Reg} {b s : Int} (h : s ≤ 0) : Cov l b s := fun a h1 h2 => by omega
def allowB (b s : Int) (v : Bool) : Bool := if s = 0 then true else validB b s && v
set_option maxRecDepth 100000 in
set_option maxHeartbeats 4000000 in
theorem memAllowed_ok (c : Cfg) (A1 A2 A3 A4 A5 : Option Addr) (c1 c2 c3 c4 c5 : Nat) (w : World) (hR : CfgR w w.heap.size c A1 A2 A3 A4 A5 c1 c2 c3 c4 c5) (hs : c.small) (hok : c.ok) (p m b s : Int) (hb : wU64 b) (hz : wU64 s) : Calls Tryz.prog 26 #[cfgV c.frame A1 A2 A3 A4 A5 c.parts.length c.wins.length c.regs.length c.ports.length c.chans.length c1 c2 c3 c4 c5, .int .u16 p, .int .u64 b, .int .u64 s, .int .u8 m] w fun e w' => e = .returned (.bool (allowB b s (covB (ofL c p m) b s))) ∧ Below w.heap.size w w' := by
  obtain ⟨W0, hW, st⟩ := St.start_any hR 29
  have HW := Lib.hid hW
  have ST0 := Lib.hid st
  have hbd := hs.bd
  have br := hbd.r
  have HOK := Lib.hid hok
  have bb := Go.bounds_u64 hb
  have bz := Go.bounds_u64 hz
  obtain ⟨x0, x1, x2, x3, x4, x5, hzz⟩ := st.cells
  clear hR hW st hbd hok
  by_cases h0 : s = 0
  · subst h0
    have HV := Lib.hid (show allowB b 0 (covB (ofL c p m) b 0) = true by unfold allowB; rw [if_pos rfl])
    have hb1 := below_one W0 (.cells #[.int .u64 b, .int .u64 0] 107)
    have HB1 := Lib.hid (ST0.out.up hb1).bel
    clear hb1
    go_enter Tryz.func26, Tryz.ntmps26
    go_upto_region 1 with (fail)
    rw [HW.out]
    go_wp2
    go_ret
    exact ⟨ret_bool HV.out.symm, HB1.out⟩
  · have hb1 := below_one W0 (.cells #[.int .u64 b, .int .u64 s] 107)
    have ST1 := Lib.hid (ST0.out.up hb1)
    clear hb1
    by_cases hv : validB b s = true
    · have hok2 := validB_ok bb.1 hv
      have hsum := hok2.2.2
      have HVB := Lib.hid hv
      have HAL := Lib.hid (show allowB b s (covB (ofL c p m) b s) = covB (ofL c p m) b s by unfold allowB; rw [if_neg h0, hv, Bool.true_and])
      have hlreg : ∀ r ∈ ofL c p m, wU64 r.base ∧ wU64 r.size := fun r hr => ⟨(HOK.out.regs r (List.mem_filter.1 hr).1).base, (HOK.out.regs r (List.mem_filter.1 hr).1).size⟩
      have HLR := Lib.hid hlreg
      have hll : (ofL c p m).length ≤ 1048576 := Nat.le_trans (List.length_filter_le _ _) br
      have hs0 : 0 < s := by omega
      clear hv hok2 hlreg
      rw [HAL.out]
      clear HAL
      obtain ⟨l, hl⟩ : ∃ l, ofL c p m = l := ⟨_, rfl⟩
      rw [hl] at HLR hll ⊢
      have HL := Lib.hid hl
      clear hl
      go_enter Tryz.func26, Tryz.ntmps26
      go_upto_region 1 with (fail)
      rw [HW.out]
      go_wp2_with fail
      refine (swpValid_ok b s _ hb hz).mono ?_
      rw [HVB.out]
      rintro e w2 ⟨rfl, hb2⟩
      have ST2 := Lib.hid (ST1.out.up hb2)
      clear hb2 x0 x1 x2 x3 x4 x5 hzz
      obtain ⟨x0, x1, x2, x3, x4, x5, hzz⟩ := ST2.out.cells
      go_wp2_with fail
      refine (memOf_ok c _ _ _ _ _ _ _ _ _ _ _ ST2.out.R hs p m).mono ?_
      rw [HL.out]
      rintro e w3 ⟨v, rfl, ho, hb3⟩
      have HB3 := Lib.hid (ST2.out.up hb3).bel
      obtain ⟨RA, rc, rfl, _, _, hrd⟩ := own_form ho
      have HRD := Lib.hid hrd
      clear ho hrd hb3 x0 x1 x2 x3 x4 x5 hzz hb hz
      go_wp2
      go_loopw [2, 3] (fun vb vs wr => ∃ b' s' : Int, vb = .int .u64 b' ∧ vs = .int .u64 s' ∧ 0 < s' ∧ b ≤ b' ∧ b' + s' = b + s ∧ Hid (Cov l b (b' - b)) ∧ Hid (Below w3.heap.size w3 wr)) (fun _ vs _ => (intOf vs).toNat)
      case atStart => exact ⟨b, s, rfl, rfl, hs0, Int.le_refl _, rfl, Lib.hid (Cov.empty (by omega)), Lib.hid (Below.refl _ _)⟩
      case round =>
        obtain ⟨b', s', rfl, rfl, hs1, hbb1, hbs, HC, HB⟩ := hrel
        generalize hwo : wr = wo at HB ⊢
        clear hwo
        go_wp2
        go_loopw [13, 30] (fun vf vi wr => ∃ (k : Nat) (f : Int), k ≤ l.length ∧ vi = .int .i64 k ∧ vf = .int .u64 f ∧ f ≤ 18446744073709551615 ∧ Hid (Far (l.take k) b' f) ∧ Hid (Below w3.heap.size w3 wr)) (fun _ vi _ => l.length - (intOf vi).toNat)
        case atStart => exact ⟨0, 0, Nat.zero_le _, rfl, rfl, by omega, Lib.hid Far.nil, HB⟩
        case round =>
          obtain ⟨k, f, hk, rfl, rfl, hf1, HF, HBk⟩ := hrel
          have hf0 := HF.out.1
          by_cases hkl : k < l.length
          · obtain ⟨x, hx⟩ := get_lt hkl
            obtain ⟨hxb, hxs⟩ := HLR.out x (List.mem_of_getElem? hx)
            have yb := Go.bounds_u64 hxb
            have ys := Go.bounds_u64 hxs
            have HTK := Lib.hid (take_next hx)
            obtain ⟨bk, o, rfl, hbk, g0, g1, g2, g3, g4⟩ := reg_at (HRD.out.up HBk.out) hx
            have n0 : (0 : Int) ≤ (k : Int) := by omega
            have n1 : (k : Int) < (l.length : Int) := by omega
            clear hx hxb hxs
            go_upto_region 11 with (fail)
            obtain ⟨W4, hW4, rb, hb4⟩ := RgBox.new wr x 41
            rw [hW4]
            have HB4 := Lib.hid (Below.then_ HBk.out hb4)
            obtain ⟨p0, p1, p2, p3, p4, hg⟩ := rb
            clear hW4 hb4 g0 g1 g2 g3 g4 hbk
            by_cases h1 : x.base ≤ b'
            · have hw1 : IntKind.u64.wrap (b' - x.base) = b' - x.base := by rw [IntKind.wrap_u64]; omega
              by_cases h2 : b' - x.base < x.size
              · have hw2 : IntKind.u64.wrap (x.size - (b' - x.base)) = x.size - (b' - x.base) := by rw [IntKind.wrap_u64]; omega
                have ho : ownsB x b' = true := ownsB_iff.2 ⟨h1, h2⟩
                rcases Int.lt_or_le f (x.size - (b' - x.base)) with h3 | h3
                · have HN := Lib.hid (show Far (l.take (k + 1)) b' (x.size - (b' - x.base)) by rw [HTK.out]; exact Far.take_ ho)
                  have hmx : max f (x.size - (b' - x.base)) = x.size - (b' - x.base) := Int.max_eq_right (by omega)
                  clear ho
                  go_wp2
                  go_roundw
                  case rel => exact ⟨k + 1, _, by omega, by go_num, rfl, by omega, HN, HB4⟩
                  case measure => simp [intOf]; omega
                · have HN := Lib.hid (show Far (l.take (k + 1)) b' f by rw [HTK.out]; exact HF.out.keep ho h3)
                  have hmx : max f (x.size - (b' - x.base)) = f := Int.max_eq_left (by omega)
                  clear ho
                  go_wp2
                  go_roundw
                  case rel => exact ⟨k + 1, f, by omega, by go_num, rfl, hf1, HN, HB4⟩
                  case measure => simp [intOf]; omega
              · have HN := Lib.hid (show Far (l.take (k + 1)) b' f by rw [HTK.out]; exact HF.out.skip (by unfold ownsB; rw [decide_eq_false h2, Bool.and_false]))
                go_wp2
                go_roundw
                case rel => exact ⟨k + 1, f, by omega, by go_num, rfl, hf1, HN, HB4⟩
                case measure => simp [intOf]; omega
            · have HN := Lib.hid (show Far (l.take (k + 1)) b' f by rw [HTK.out]; exact HF.out.skip (by unfold ownsB; rw [decide_eq_false h1, Bool.false_and]))
              go_wp2
              go_roundw
              case rel => exact ⟨k + 1, f, by omega, by go_num, rfl, hf1, HN, HB4⟩
              case measure => simp [intOf]; omega
          · obtain rfl : k = l.length := by omega
            have hfar : Far l b' f := by have := HF.out; rwa [List.take_length] at this
            have HZ := Lib.hid (Below.trans HB3.out (HBk.out.mono HB3.out.size))
            by_cases hfz : f = 0
            · subst hfz
              have HV := Lib.hid (covB_no (l := l) (b := b) (s := s) (fun hc => hfar.none_ hs1 (by
                have h := hc.tail (f := b' - b) (by omega)
                rwa [show b + (b' - b) = b' from by omega, show s - (b' - b) = s' from by omega] at h)))
              clear hfar
              go_wp2
              go_ret
              exact ⟨ret_bool HV.out.symm, HZ.out⟩
            · have hfp : 0 < f := by omega
              have hreach := hfar.reach hfp
              by_cases hfs : s' ≤ f
              · have HV := Lib.hid (covB_yes (l := l) (b := b) (s := s) (by
                  have h := Cov.join HC.out (s := s') (by rw [show b + (b' - b) = b' from by omega]; exact hreach.less hfs)
                  rwa [show b' - b + s' = s from by omega] at h))
                clear hfar hreach
                go_wp2
                go_ret
                exact ⟨ret_bool HV.out.symm, HZ.out⟩
              · have HCN := Lib.hid (show Cov l b (b' + f - b) by
                  have h := Cov.join HC.out (s := f) (by rw [show b + (b' - b) = b' from by omega]; exact hreach)
                  rwa [show b' - b + f = b' + f - b from by omega] at h)
                have hw1 : IntKind.u64.wrap (b' + f) = b' + f := by rw [IntKind.wrap_u64]; omega
                have hw2 : IntKind.u64.wrap (s' - f) = s' - f := by rw [IntKind.wrap_u64]; omega
                clear hfar hreach
                go_wp2
                go_roundw
                case rel => exact ⟨b' + f, s' - f, rfl, rfl, by omega, by omega, by omega, HCN, HBk⟩
                case measure => simp [intOf]; omega
    · have hv2 : validB b s = false := by simpa using hv
      have HV := Lib.hid (show allowB b s (covB (ofL c p m) b s) = false by unfold allowB; rw [if_neg h0, hv2]; rfl)
      have HVB := Lib.hid hv2
      clear hv hv2
      go_enter Tryz.func26, Tryz.ntmps26
      go_upto_region 1 with (fail)
      rw [HW.out]
      go_wp2_with fail
      refine (swpValid_ok b s _ hb hz).mono ?_
      rw [HVB.out]
      rintro e w2 ⟨rfl, hb2⟩
      have HB2 := Lib.hid (ST1.out.up hb2).bel
      clear hb2
      go_wp2
      go_ret
      exact ⟨ret_bool HV.out.symm, HB2.out⟩
end Go.Proofs.YticdjnbkeiilfaaGreat
