/-
  What Matrix of package wiring returns, walked.
-/
import Derived.Test.YtifmcdnaaaphmaaMat
import Derived.Deep.RegionHeld3
import Derived.Deep.RegionLaw
import Derived.Deep.DeepCutAuto
namespace Go.Proofs.Ytifmcdnaaaphmaa
open Go.RowKit Go.Lib
attribute [local go_sem] ext_cell
theorem grown_cell_o {w w' : World} {row : Option Nat} {b o : Nat} (hg : w.grownBy w' row) (hlt : b < w.heap.size) (hne : row ≠ some b) : w'.cell? ⟨b, o, none⟩ = w.cell? ⟨b, o, none⟩ :=
  World.cell?_of_block (hg.block b hlt (fun e => hne e.symm))
theorem below_row {B : Nat} {a w w' : World} {row : Option Nat} (h : Below B a w) (hg : w.grownBy w' row) (hB : B ≤ w.heap.size) (hr : ∀ k, row = some k → B ≤ k) : Below B a w' := h.grown hg hB hr
theorem madeIt (c : Cfg) (hp : c.parts.length ≤ 1048576) (W : World) : (Instr.makeSlice 46 (.int .i64 (c.parts.length : Int)) (.int .i64 (c.parts.length : Int))).run Try.prog W = .ok (.slice (some ⟨W.heap.size, 0, none⟩) c.parts.length c.parts.length) (W.alloc (.cells (madeCells #[.slice none 0 0] c.parts.length) 50)) := by
  obtain ⟨i1, hi1, hy0, hy1, hy2⟩ := info_parts info_ints
  have := run_make_rowN (P := Try.prog) 46 50 i1 (.slice none 0 0) Try.underlying46 hi1 hy0 .i64 .i64 c.parts.length c.parts.length (Nat.le_refl _) (by rw [hy2]; omega) (by omega) W
  rw [hy1, Nat.mul_one] at this
  exact this
theorem ownerIn {c : Cfg} {port : Int} (h : 0 ≤ ownerOf c port) : ∃ i : Nat, ownerOf c port = (i : Int) ∧ i < c.parts.length := by
  unfold ownerOf at h ⊢
  rcases idx_cases (fun y => y.id == (thePort c port).part) c.parts with ⟨h1, _⟩ | ⟨k, x, h1, h2, _⟩
  · omega
  · exact ⟨k, h1, h2⟩
/-- a call of a Go function at a step of a region that draws its order -/
theorem step_calls {P : Program} {ys : Nat → Option Bool} {dst : Option Tmp} {ty : TypeId} {pos : String} {af : Array Edge} {s : Operand} {xs : Array Operand} {ts : Array TypeId} {a : Act} {w : World} {K : Act → World → Prop} {Q : Exit → Act → World → Prop} {E : Prop} (f : FuncId) (args : Array Value)
    (hrun : (execOp a.eval { dst := dst, op := .call { callee := .value s, args := xs, argTypes := ts }, type := ty, pos := pos, after := af, guard := none }).run P w = .ok (.enter f args) w) {v : Value} {R : World → Prop} (hc : Calls P f args w fun e w' => e = .returned v ∧ R w') (h : ∀ w', R w' → K (a.put dst v) w') :
    if Region.wanted { dst := dst, op := .call { callee := .value s, args := xs, argTypes := ts }, type := ty, pos := pos, after := af, guard := none } ys = true then Oper.wp P { dst := dst, op := .call { callee := .value s, args := xs, argTypes := ts }, type := ty, pos := pos, after := af, guard := none } a w K Q else E := by
  rw [if_pos (by simp [Region.wanted])]
  unfold Oper.wp
  rw [hrun]
  simp only [Oper.upon]
  exact hc.mono fun e w' ⟨he, hr⟩ => by subst he; exact h w' hr
theorem lies_or {v : Value} {g H n c : Nat} (h : v.ownBlock = some g ∨ g = H) : (Value.slice (some ⟨g, 0, none⟩) n c).ownBlock = v.ownBlock ∨ (Value.slice (some ⟨g, 0, none⟩) n c).ownBlock = some H ∨ (Value.slice (some ⟨g, 0, none⟩) n c).ownBlock = none := by
  rcases h with e | e
  · exact .inl e.symm
  · exact .inr (.inl (by rw [e]; rfl))
theorem MRow.turn {w w1 : World} {go n i : Nat} {rows : List (List Int)} {vs : List Value} {l l' : List Int} {v : Value} (h : MRow w go n rows vs) (hl : rows[i]? = some l) (hv : vs[i]? = some v) (hg : w.grownBy w1 v.ownBlock)
    (ho : w1.ownsRow (go + 1) 3 1 v l'.length (l'.map (Value.int .i64))) : MRow w1 go n (rows.set i l') vs := by
  have hgo : v.ownBlock ≠ some go := fun e => by have := (own_lt (h.own i l v hl hv) e).1; omega
  have hi : i < n := by rw [← h.vl]; exact (List.getElem?_eq_some_iff.1 hv).1
  refine ⟨(hg.block go h.bk.lt (fun e => hgo e.symm)).trans h.bk, h.vl, by simp [h.rl], fun j lj vj h1 h2 => ?_, h.sep⟩
  by_cases hji : i = j
  · subst hji
    rw [List.getElem?_set_self (by rw [h.rl]; exact hi)] at h1
    injection h1 with h1
    rw [hv] at h2; injection h2 with h2
    subst h1 h2
    exact ho
  · rw [List.getElem?_set_ne hji] at h1
    exact own_row (h.own j lj vj h1 h2) hg fun g e1 e2 => h.sep i j v vj g hji hv h2 e2 e1
theorem appQ {W2 wr w6 w7 : World} {n i g2 cap : Nat} {rows : List (List Int)} {us : List Value} {l : List Int} {vA : Option Addr} {vc : Nat} {k : Int} {t : TypeId} (hm : MRow wr W2.heap.size n rows us) (hbj : Below W2.heap.size W2 wr) (hbw : Below wr.heap.size wr w6) (hl : rows[i]? = some l) (hv : us[i]? = some (.slice vA l.length vc))
    (hown : w7.ownsRow (W2.heap.size + 1) 3 1 (.slice (some ⟨g2, 0, none⟩) (l.length + 1) cap) (l.length + 1) (l.map (Value.int .i64) ++ [.int .i64 k])) (hg : (w6.alloc (.cells #[.int .i64 k] t)).grownBy w7 (Value.slice vA l.length vc).ownBlock)
    (hat : (Value.slice vA l.length vc).ownBlock = some g2 ∨ g2 = (w6.alloc (.cells #[.int .i64 k] t)).heap.size) :
    MRow (w7.setCell ⟨W2.heap.size, i, none⟩ (.slice (some ⟨g2, 0, none⟩) (l.length + 1) cap)) W2.heap.size n (rows.set i (l ++ [k])) (us.set i (.slice (some ⟨g2, 0, none⟩) (l.length + 1) cap)) ∧
      Below W2.heap.size W2 (w7.setCell ⟨W2.heap.size, i, none⟩ (.slice (some ⟨g2, 0, none⟩) (l.length + 1) cap)) ∧
      w7.cell? ⟨W2.heap.size, i, none⟩ = some (.slice vA l.length vc) ∧ w7.frozen? ⟨W2.heap.size, i, none⟩ = false := by
  have hmw := (hm.up hbw).up (below_one w6 (.cells #[.int .i64 k] t))
  have hlt := fun g e => (own_lt (hmw.own _ _ _ hl hv) (g := g) e).1
  have hbk7 : Blk w7 W2.heap.size 50 us.toArray := (hg.block _ hmw.bk.lt (fun e => by have := hlt _ e.symm; omega)).trans hmw.bk
  have c7 := hbk7.cell i
  rw [List.getElem?_toArray, hv] at c7
  have hb2 : Below W2.heap.size W2 (w6.alloc (.cells #[.int .i64 k] t)) := Below.then_ (Below.then_ hbj hbw) (below_one w6 _)
  have hb7 := below_row hb2 hg hb2.size (fun q e => by have := hlt _ e; omega)
  exact ⟨hmw.put hl hv hg (by simpa using hown) (lies_or hat), Below.setCell hb7 (Nat.le_refl _) _, c7, hbk7.frozen i⟩
def mapTo (f : List Int → List Int) (rows : List (List Int)) (i : Nat) : List (List Int) := (rows.take i).map f ++ rows.drop i
theorem mapTo_at {f : List Int → List Int} {rows : List (List Int)} {i : Nat} (hi : i ≤ rows.length) : (mapTo f rows i)[i]? = rows[i]? := by
  unfold mapTo
  rw [List.getElem?_append_right (by simp; omega)]
  simp [Nat.min_eq_left hi]
theorem mapTo_set {f : List Int → List Int} {rows : List (List Int)} {i : Nat} {l : List Int} (h : rows[i]? = some l) (l' : List Int) : ((mapTo f rows i).set i l').set i (f l) = mapTo f rows (i + 1) := by
  have hi : i < rows.length := (List.getElem?_eq_some_iff.1 h).1
  unfold mapTo
  rw [List.set_set, take_next h, List.map_append, drop_cons h, List.set_append_right _ _ (by simp; omega)]
  simp [Nat.min_eq_left (Nat.le_of_lt hi)]
theorem mapTo_all {f : List Int → List Int} {rows : List (List Int)} : mapTo f rows rows.length = rows.map f := by simp [mapTo]
theorem MRow.row {w : World} {go n base : Nat} {rows : List (List Int)} {vs : List Value} (h : MRow w go n rows vs) (hb : base ≤ go) (hn : n ≤ 1048576) : MatO w base (.slice (some ⟨go, 0, none⟩) n n) rows := by
  refine ⟨vs, ⟨by simp [h.vl, h.rl], .inr ⟨go, n, vs.toArray, by rw [h.rl], hb, h.bk, by rw [h.rl]; exact Nat.le_refl _, by unfold maxLen; omega, by simp [h.vl], ?_⟩⟩, ⟨by rw [h.vl, h.rl], fun i l v h1 h2 => own_less (h.own i l v h1 h2) (by omega)⟩⟩
  rw [h.rl, Nat.mul_one, ← h.vl]; simp
def owned (c : Cfg) : Prop := ∀ x ∈ c.chans, 0 ≤ ownerOf c x.source ∧ ∀ d ∈ x.dests, 0 ≤ ownerOf c d
def chOk (c : Cfg) : Prop := ∀ x ∈ c.chans, wU16 x.source ∧ ∀ d ∈ x.dests, wU16 d
set_option maxRecDepth 100000 in
set_option maxHeartbeats 40000000 in
theorem matrixE_ok (c : Cfg) (A1 A2 A3 A4 A5 : Option Addr) (c1 c2 c3 c4 c5 : Nat) (w : World) (hR : CfgR w w.heap.size c A1 A2 A3 A4 A5 c1 c2 c3 c4 c5) (hs : c.small) (hok : c.ok) (hw : wired c) (ho : owned c) : Calls Try.prog 23 #[cfgV c.frame A1 A2 A3 A4 A5 c.parts.length c.wins.length c.regs.length c.ports.length c.chans.length c1 c2 c3 c4 c5] w fun e w' => ∃ v, e = .returned v ∧ MatO w' w.heap.size v ((rowsOf (edgesTo c c.chans) c.parts.length).map fun l => compact (sortI l)) ∧ Below w.heap.size w w' := by
  have hbd := hs.bd
  obtain ⟨W0, hW, st⟩ := St.start_any hR 29
  have HW := Lib.hid hW
  have ST0 := Lib.hid st
  obtain ⟨x0, x1, x2, x3, x4, x5, hz⟩ := st.cells
  have HBD := Lib.hid hbd
  have HWI := Lib.hid hw
  have HOW := Lib.hid ho
  have HOK := Lib.hid hok
  have bx := hbd.x
  have bp := hbd.p
  have hsum : sumDests c.chans ≤ 1048576 := by have ht : c.total ≤ 1048576 := hs.total; unfold Cfg.total at ht; omega
  have hmk := madeIt c bp
  obtain ⟨i0, ji, jz0, jz1, jz2⟩ := info_parts info_int
  clear hR hW st hbd hw ho hok
  go_enter Try.func23, Try.ntmps23
  go_upto_region 1 with (fail)
  rw [HW.out]
  go_wp2_with fail
  refine (of_ok c _ _ _ _ _ _ _ _ _ _ _ ST0.out.R hs HOK.out).mono ?_
  rintro e w1 ⟨g, bm, rfl, hc1, _, hb1, _⟩
  have HB1 := Lib.hid hb1
  have HC1 := Lib.hid hc1
  clear hb1 hc1
  go_upto_region 2 with (fail)
  have OW0 : OwSt w (w1.alloc (.cells #[.pointer (some ⟨g, 0, none⟩)] 63)) w1.heap.size g bm c A1 A2 A3 A4 A5 c1 c2 c3 c4 c5 :=
    ⟨(ST0.out.up HB1.out).alloc _, by simp, HC1.out.up (below_one _ _)⟩
  generalize hW2 : World.alloc w1 _ = W2 at OW0 ⊢
  clear hW2
  obtain ⟨x0, x1, x2, x3, x4, x5, hz⟩ := OW0.st.cells
  have OW := Lib.hid OW0
  clear OW0
  go_upto_region 4 with (fail)
  have mr := MRow.start W2 c.parts.length
  rw [← rowsOf_nil] at mr
  have hb3 := below_one W2 (.cells (madeCells #[.slice none 0 0] c.parts.length) 50)
  generalize World.alloc W2 _ = W3 at mr hb3 ⊢
  have HM3 := Lib.hid (show MRow W3 W2.heap.size c.parts.length (rowsOf (edgesTo c (c.chans.take 0)) c.parts.length) _ from mr)
  have HB3 := Lib.hid hb3
  obtain ⟨x0, x1, x2, x3, x4, x5, hz⟩ := (OW.out.up HB3.out).st.cells
  clear mr hb3 hmk
  go_wp2
  clear x0 x1 x2 x3 x4 x5 hz
  go_loopw [22] (fun i wr => ∃ (k : Nat) (vs : List Value), k ≤ c.chans.length ∧ i = .int .i64 k ∧ Hid (MRow wr W2.heap.size c.parts.length (rowsOf (edgesTo c (c.chans.take k)) c.parts.length) vs) ∧ Hid (Below W2.heap.size W2 wr)) (fun i _ => c.chans.length - (intOf i).toNat)
  case atStart => exact ⟨0, _, Nat.zero_le _, rfl, HM3, HB3⟩
  case round =>
    obtain ⟨k, vs, hk, rfl, HM, HB⟩ := hrel
    have OWr := Lib.hid (OW.out.up HB.out)
    by_cases hlt : k < c.chans.length
    · obtain ⟨x, hx⟩ := get_lt hlt
      have hxm := List.mem_of_getElem? hx
      obtain ⟨hsw, hdw⟩ := HWI.out x hxm
      obtain ⟨hso, hdo⟩ := HOW.out x hxm
      have hxo := HOK.out.chans x hxm
      have hsu := hxo.source
      have hxl := HBD.out.d x hxm
      obtain ⟨cs, hC, hr⟩ := OWr.out.st.R0.chans
      obtain ⟨b, o, rfl, hb, g0, g1, D, d, g2, hd1, hd2, hD⟩ := chn_at hC hr hx
      have hbel := OWr.out.st.bel
      have g0' := (hbel.cell (p := ⟨b, o + k * 3, none⟩) hb).trans g0
      have g1' := (hbel.cell (p := ⟨b, o + k * 3 + 1, none⟩) hb).trans g1
      have g2' := (hbel.cell (p := ⟨b, o + k * 3 + 2, none⟩) hb).trans g2
      obtain ⟨iN, hiN, hil⟩ := ownerIn hso
      have HD := Lib.hid hD
      have HX := Lib.hid hx
      have HIN := Lib.hid hiN
      have HDU := Lib.hid hxo.dests
      have HDW := Lib.hid hdw
      have HDO := Lib.hid hdo
      clear hx hC hr hD g0 g1 g2 hiN hxo hdw hdo hbel hxm hso
      go_upto_region 7 with (fail)
      obtain ⟨W4, hW4, cb, hb4⟩ := ChBox.new wr x D d 55
      rw [hW4]
      have HO4 := Lib.hid (OWr.out.up hb4)
      have HM4 := Lib.hid (HM.out.up hb4)
      have HB4 := Lib.hid (Below.then_ HB.out hb4)
      have CB4 := Lib.hid cb
      obtain ⟨y0, y1, y2, hz1⟩ := cb
      clear hW4 hb4 g0' g1' g2'
      go_wp2_with fail
      refine (owner_ok w _ _ g bm c _ _ _ _ _ _ _ _ _ _ HO4.out HOK.out HBD.out x.source hsu hsw iN HIN).mono ?_
      rintro e w5 ⟨rfl, hb5⟩
      have HM5 := Lib.hid (HM4.out.up hb5)
      have HB5 := Lib.hid (Below.then_ HB4.out hb5)
      obtain ⟨y0, y1, y2, hz1⟩ := CB4.out.up hb5
      clear hb5
      go_wp2
      clear y0 y1 y2 hz1
      obtain ⟨wo, rfl⟩ : ∃ wo : World, wo = wr := ⟨_, rfl⟩
      go_loopw [33] (fun j wr => ∃ (m : Nat) (us : List Value), m ≤ x.dests.length ∧ j = .int .i64 m ∧ Hid (MRow wr W2.heap.size c.parts.length (rowsOf (edgesTo c (c.chans.take k) ++ edgesOf c x (x.dests.take m)) c.parts.length) us) ∧ Hid (Below W2.heap.size W2 wr)) (fun j _ => x.dests.length - (intOf j).toNat)
      case atStart => exact ⟨0, _, Nat.zero_le _, rfl, Lib.hid (by simpa [edgesOf] using HM5.out), HB5⟩
      case round =>
        obtain ⟨m, us, hm, rfl, HMj, HBj⟩ := hrel
        have OWj := Lib.hid (OW.out.up HBj.out)
        by_cases hltj : m < x.dests.length
        · obtain ⟨dd, hdd⟩ := get_lt hltj
          have hdm := List.mem_of_getElem? hdd
          obtain ⟨kN, hkN, hkl⟩ := ownerIn (HDO.out dd hdm)
          have hdu := HDU.out dd hdm
          have hdw := HDW.out dd hdm
          obtain ⟨bd, od, rfl, hbd, gd⟩ := int_at (HD.out.below OWj.out.st.bel) hdd
          have HKN := Lib.hid hkN
          obtain ⟨l, hl⟩ : ∃ l, (rowsOf (edgesTo c (c.chans.take k) ++ edgesOf c x (x.dests.take m)) c.parts.length)[iN]? = some l := ⟨_, rowsOf_at hil⟩
          have HDD := Lib.hid hdd
          obtain ⟨v, hv⟩ : ∃ v, us[iN]? = some v := ⟨_, List.getElem?_eq_getElem (by rw [HMj.out.vl]; exact hil)⟩
          have HL := Lib.hid hl
          have HV := Lib.hid hv
          have hown := HMj.out.own _ _ _ hl hv
          have hllen := rows_len hl
          obtain ⟨vA, vc, rfl, _⟩ := own_form hown
          have hcell : wr.cell? ⟨W2.heap.size, iN, none⟩ = some (.slice vA l.length vc) := by rw [HMj.out.bk.cell, List.getElem?_toArray]; exact hv
          have hgl : W2.heap.size < wr.heap.size := HMj.out.bk.lt
          have i0' : (0 : Int) ≤ (iN : Int) := by omega
          have i1' : (iN : Int) < (c.parts.length : Int) := by omega
          have hlb : l.length ≤ 1048576 := by
            have h1 := sumDests_next HX.out
            have h2 := sumDests_take c.chans (k + 1)
            rw [List.length_append, edges_len] at hllen
            simp only [edgesOf, List.length_map, List.length_take] at hllen
            omega
          have HN := Lib.hid (show rowsOf (edgesTo c (c.chans.take k) ++ edgesOf c x (x.dests.take (m + 1))) c.parts.length = (rowsOf (edgesTo c (c.chans.take k) ++ edgesOf c x (x.dests.take m)) c.parts.length).set iN (l ++ [(kN : Int)]) by
            rw [edgesOf_next HDD.out, ← List.append_assoc, HIN.out, HKN.out]; exact rowsOf_snoc HL.out)
          clear hdd hdm hkN hl hv hown hllen
          have HXL := Lib.hid hxl
          have HLT := Lib.hid (show m + 1 ≤ x.dests.length from hltj)
          go_upto_region 11 with (fail)
          try clear hsw
          try clear hdo
          try clear hsu
          try clear hxl
          try clear hd1
          try clear hd2
          try clear HIN
          try clear HDU
          try clear HDW
          try clear HDO
          try clear HO4
          try clear HM4
          try clear HB4
          try clear CB4
          try clear HM5
          try clear HB5
          try clear HM
          try clear HB
          try clear OWr
          try clear hk
          try clear hlt
          try clear hm
          try clear hltj
          try clear hkl
          try clear hbd
          try clear gd
          try clear HD
          try clear HX
          try clear hb
          try clear OW
          try clear HM3
          try clear HB3
          try clear ST0
          try clear HB1
          try clear HC1
          try clear HW
          go_region_law ((first
            | (refine step_calls 47 #[.int .u16 dd, .pointer (some ⟨w1.heap.size, 0, none⟩), .pointer (some ⟨w.heap.size, 0, none⟩)] (by go_simp) (owner_ok w _ _ g bm c _ _ _ _ _ _ _ _ _ _ (OWj.out.up (by repeat (first | with_reducible exact Below.refl _ _ | with_reducible refine Below.drew ?_ | (with_reducible refine Below.alloc ?_ (by simp) _) | (with_reducible refine Below.setCell ?_ (by simp) _)))) HOK.out HBD.out dd hdu hdw kN HKN) ?_; intro w6 hb6; have HBW := Lib.hid (Below.then_ (show Below wr.heap.size wr _ from (by repeat (first | with_reducible exact Below.refl _ _ | with_reducible refine Below.drew ?_ | (with_reducible refine Below.alloc ?_ (by simp) _) | (with_reducible refine Below.setCell ?_ (by simp) _)))) hb6); have hcell6 := (HBW.out.cell (p := ⟨W2.heap.size, iN, none⟩) hgl).trans hcell; have hgl6 := Nat.lt_of_lt_of_le hgl HBW.out.size)
            | (refine step_append_lies _ (by rfl) (.tmp 42) (.tmp 46) _ (by rfl) (W2.heap.size + 1) 3 i0 (.int .i64 0) 1 8 Try.underlying50 ji jz0 jz1 jz2 rfl (by decide) _ l.length _ (by rfl) (((HMj.out.up HBW.out).up (show Below w6.heap.size w6 _ from (by repeat (first | with_reducible exact Below.refl _ _ | with_reducible refine Below.drew ?_ | (with_reducible refine Below.alloc ?_ (by simp) _) | (with_reducible refine Below.setCell ?_ (by simp) _))))).own _ _ _ HL.out HV.out) ⟨w6.heap.size, 0, none⟩ 1 1 [.int .i64 kN] (by rfl) (by rfl) (World.news_of_block (heap_alloc_new w6 _)) (by intro u hu; simp at hu; subst hu; rfl) (by omega) (by unfold maxLen; omega) (by omega) (by first | (simp; done) | (simp; omega) | omega) _ rfl ?_; intro g2 cap w7 hown hgrow hat hlt7; have HQ := Lib.hid (appQ HMj.out HBj.out HBW.out HL.out HV.out hown hgrow hat); have c7 := HQ.out.2.2.1; have f7 := HQ.out.2.2.2; clear hown hgrow hat)))
          all_goals
            have hx9 := HXL.out
            have h9 := HLT.out
            go_wp2
            go_roundw
            case rel => (exact ⟨m + 1, _, h9, by go_num, Lib.hid (by rw [HN.out]; exact HQ.out.1), Lib.hid HQ.out.2.1⟩)
            case measure => (simp [intOf]; omega)
        · obtain rfl : m = x.dests.length := by omega
          have HN := Lib.hid (edgesTo_next HX.out)
          go_wp2
          go_roundw
          case rel => exact ⟨k + 1, us, by omega, by go_num, Lib.hid (by rw [HN.out]; have := HMj.out; rwa [List.take_length] at this), HBj⟩
          case measure => simp [intOf]; omega
    · obtain rfl : k = c.chans.length := by omega
      have HM1 := Lib.hid (show MRow wr W2.heap.size c.parts.length (mapTo (fun l => compact (sortI l)) (rowsOf (edgesTo c c.chans) c.parts.length) 0) vs by have := HM.out; rw [List.take_length] at this; simpa [mapTo] using this)
      have hrl : (rowsOf (edgesTo c c.chans) c.parts.length).length = c.parts.length := by simp [rowsOf]
      have hel : (edgesTo c c.chans).length ≤ 1048576 := by rw [edges_len]; exact hsum
      go_wp2
      clear x0 x1 x2 x3 x4 x5 hz
      go_loopw [53] (fun i wr => ∃ (k : Nat) (vs : List Value), k ≤ c.parts.length ∧ i = .int .i64 k ∧ Hid (MRow wr W2.heap.size c.parts.length (mapTo (fun l => compact (sortI l)) (rowsOf (edgesTo c c.chans) c.parts.length) k) vs) ∧ Hid (Below W2.heap.size W2 wr)) (fun i _ => c.parts.length - (intOf i).toNat)
      case atStart => exact ⟨0, _, Nat.zero_le _, rfl, HM1, HB⟩
      case round =>
        obtain ⟨k, us, hk2, rfl, HMj, HBj⟩ := hrel
        by_cases hlt2 : k < c.parts.length
        · obtain ⟨l, hl⟩ := get_lt (l := rowsOf (edgesTo c c.chans) c.parts.length) (k := k) (by omega)
          have hl2 := (mapTo_at (f := fun l => compact (sortI l)) (rows := rowsOf (edgesTo c c.chans) c.parts.length) (i := k) (by omega)).trans hl
          obtain ⟨v, hv⟩ : ∃ v, us[k]? = some v := ⟨_, List.getElem?_eq_getElem (by rw [HMj.out.vl]; exact hlt2)⟩
          have hown := HMj.out.own _ _ _ hl2 hv
          have hlb : l.length ≤ 1048576 := Nat.le_trans (rows_len hl) hel
          obtain ⟨vA, vc, rfl, _⟩ := own_form hown
          have hcell : wr.cell? ⟨W2.heap.size, k, none⟩ = some (.slice vA l.length vc) := by rw [HMj.out.bk.cell, List.getElem?_toArray]; exact hv
          have HL := Lib.hid hl
          have HL2 := Lib.hid hl2
          have HV := Lib.hid hv
          have HOW2 := Lib.hid hown
          clear hl hl2 hv hown
          go_wp2_with fail
          refine (sortI_own HOW2.out (by omega)).mono ?_
          rintro e w6 ⟨rfl, hs6, hg6⟩
          have hm6 := HMj.out.turn (l' := sortI l) HL2.out HV.out hg6 (by rw [sortI_len]; exact hs6)
          have HB6 := Lib.hid (below_row HBj.out hg6 (by have := HMj.out.bk.lt; omega) (fun q e => by have := (own_lt HOW2.out e).1; omega))
          have hcell6 : w6.cell? ⟨W2.heap.size, k, none⟩ = some (.slice vA l.length vc) := by rw [hm6.bk.cell, List.getElem?_toArray]; exact HV.out
          have HM6 := Lib.hid hm6
          have HS6 := Lib.hid (show w6.ownsRow (W2.heap.size + 1) 3 1 (.slice vA l.length vc) (sortI l).length ((sortI l).map (Value.int .i64)) by rw [sortI_len]; exact hs6)
          clear hs6 hg6 hcell hm6
          go_wp2_with fail
          refine (compactI_own HS6.out (by rw [sortI_len]; omega)).mono ?_
          rintro e w7 ⟨v', rfl, hs7, hg7, hb7⟩
          have hlset : ((mapTo (fun l => compact (sortI l)) (rowsOf (edgesTo c c.chans) c.parts.length) k).set k (sortI l))[k]? = some (sortI l) := by
            rw [List.getElem?_set_self]
            have := (List.getElem?_eq_some_iff.1 HL2.out).1
            exact this
          have hbk7 : Blk w7 W2.heap.size 50 us.toArray := (hg7.block _ HM6.out.bk.lt (fun e => by have := (own_lt HS6.out e.symm).1; omega)).trans HM6.out.bk
          have c7 := hbk7.cell k
          have f7 := hbk7.frozen k
          rw [List.getElem?_toArray, HV.out] at c7
          have HM7 := Lib.hid (HM6.out.put hlset HV.out hg7 hs7 (.inl hb7))
          have HB7 := Lib.hid (below_row HB6.out hg7 (by have := HM6.out.bk.lt; omega) (fun q e => by have := (own_lt HS6.out e).1; omega))
          obtain ⟨vA2, vc2, rfl, _⟩ := own_form hs7
          clear hs7 hg7 hb7 hlset hbk7 hcell6
          go_wp2
          go_roundw
          case rel => exact ⟨k + 1, _, by omega, by go_num, Lib.hid (by have := HM7.out; rwa [mapTo_set HL.out] at this), Lib.hid (Below.setCell HB7.out (Nat.le_refl _) _)⟩
          case measure => simp [intOf]; omega
        · obtain rfl : k = c.parts.length := by omega
          have hz2 := OW.out.st.bel
          go_wp2
          go_ret
          refine ⟨_, rfl, ?_, hz2.trans (HBj.out.mono hz2.size)⟩
          have h := HMj.out.row (base := w.heap.size) hz2.size bp
          have e : mapTo (fun l => compact (sortI l)) (rowsOf (edgesTo c c.chans) c.parts.length) c.parts.length = (rowsOf (edgesTo c c.chans) c.parts.length).map fun l => compact (sortI l) := by
            conv => lhs; rw [show c.parts.length = (rowsOf (edgesTo c c.chans) c.parts.length).length from hrl.symm]
            rw [hrl]
            have := mapTo_all (f := fun l => compact (sortI l)) (rows := rowsOf (edgesTo c c.chans) c.parts.length)
            rwa [hrl] at this
          rw [e] at h
          exact h
end Go.Proofs.Ytifmcdnaaaphmaa
