/-
  A window in a box. It speaks of no program.
-/
import Derived.Test.YtpedlbjbbcbbkaaGreatCore
import Derived.Lib.SliceRun
import Derived.Test.YtpedlbjbbcbbkaaGreatRegRow
import Derived.BigQuiet
import Derived.Test.YtpedlbjbbcbbkaaGreatNumA
import Derived.Test.YtpedlbjbbcbbkaaGreatValA
import Derived.Test.YtpedlbjbbcbbkaaGreatMemA
import Derived.Deep.RegionHeld3
namespace Go.Proofs.YtpedlbjbbcbbkaaGreat
open Go.RowKit
structure WnBox (w : World) (g : Nat) (x : Win) : Prop where
  h0 : w.cell? ⟨g, 0, none⟩ = some (.int .u64 x.start)
  h1 : w.cell? ⟨g, 1, none⟩ = some (.int .u64 x.len)
  h2 : w.cell? ⟨g, 2, none⟩ = some (.int .u16 x.part)
  lt : g < w.heap.size
theorem WnBox.up {w w' : World} {g : Nat} {x : Win} (h : WnBox w g x) (hb : Below w.heap.size w w') : WnBox w' g x := by
  obtain ⟨h0, h1, h2, hg⟩ := h
  have q : ∀ j, w'.cell? ⟨g, j, none⟩ = w.cell? ⟨g, j, none⟩ := fun j => hb.cell (p := ⟨g, j, none⟩) hg
  exact ⟨(q 0).trans h0, (q 1).trans h1, (q 2).trans h2, Nat.lt_of_lt_of_le hg hb.size⟩
theorem WnBox.new (w : World) (x : Win) (t : TypeId) : ∃ W, w.alloc (.cells #[.int .u64 x.start, .int .u64 x.len, .int .u16 x.part] t) = W ∧ WnBox W w.heap.size x ∧ Below w.heap.size w W :=
  ⟨_, rfl, ⟨by simp, by simp, by simp, by simp⟩, below_one _ _⟩
end Go.Proofs.YtpedlbjbbcbbkaaGreat
namespace Go.Proofs.YtpedlbjbbcbbkaaGreat
open Go.RowKit Go.Shelf
theorem cellsW {l : List Win} {k : Nat} (hk : k < l.length * 3) : (l.flatMap Win.cells)[k]? = ((l[k / 3]?).map fun x => (x.cells)[k % 3]?).join := by
  have hq : k / 3 < l.length := by omega
  have h := flat_at Win.cells 3 (fun _ => rfl) l (k / 3) l[k / 3] (k % 3) (List.getElem?_eq_getElem hq) (Nat.mod_lt _ (by decide))
  rw [show k / 3 * 3 + k % 3 = k from by omega] at h
  rw [h, List.getElem?_eq_getElem hq]
  rfl
def setWin (W : World) (g i : Nat) (x : Win) : World := ((W.setCell ⟨g, i * 3, none⟩ (.int .u64 x.start)).setCell ⟨g, i * 3 + 1, none⟩ (.int .u64 x.len)).setCell ⟨g, i * 3 + 2, none⟩ (.int .u16 x.part)
set_option maxRecDepth 100000 in
set_option maxHeartbeats 4000000 in
theorem own_win {W : World} {base g n c i : Nat} {t : TypeId} {l : List Win} (h : W.ownsRow base t 3 (.slice (some ⟨g, 0, none⟩) n c) l.length (l.flatMap Win.cells)) (hi : i < l.length) (x : Win) :
    (setWin W g i x).ownsRow base t 3 (.slice (some ⟨g, 0, none⟩) n c) l.length ((l.set i x).flatMap Win.cells) := by
  have hlen : ((l.set i x).flatMap Win.cells).length = l.length * 3 := by rw [flat_len Win.cells 3 (fun _ => rfl), List.length_set]
  rcases h.2 with ⟨e, _⟩ | ⟨g', cap, cur, e, hb, hh, h1, h2, h3, h4⟩
  · cases e
  · injection e with e e2 e3
    injection e with e
    injection e with e _
    subst e
    have hbk : Blk W g t cur := hh
    refine ⟨hlen, .inr ⟨g, cap, _, by rw [e2, e3], hb, ((hbk.set_ (i * 3) (.int .u64 x.start)).set_ (i * 3 + 1) (.int .u64 x.len)).set_ (i * 3 + 2) (.int .u16 x.part), h1, h2, by simpa using h3, ?_⟩⟩
    apply List.ext_getElem?
    intro k
    by_cases hk : k < l.length * 3
    · rw [List.getElem?_take_of_lt hk, Array.getElem?_toList, cellsW (by rw [List.length_set]; exact hk)]
      have hold : cur[k]? = ((l[k / 3]?).map fun x => (x.cells)[k % 3]?).join := by
        rw [← cellsW hk, ← h4, List.getElem?_take_of_lt hk, Array.getElem?_toList]
      have hsz : k < cur.size := by
        rw [h3]
        have := Nat.mul_le_mul_right 3 h1
        omega
      have hkd : k / 3 < l.length := by omega
      simp only [Array.getElem?_setIfInBounds]
      by_cases hki : k / 3 = i
      · rw [hki, List.getElem?_set_self hi]
        have hm : k % 3 = 0 ∨ k % 3 = 1 ∨ k % 3 = 2 := by omega
        rcases hm with hm | hm | hm
        · rw [if_neg (by omega), if_neg (by omega), if_pos (by omega), if_pos (by first | omega | (simp; omega)), hm]; rfl
        · rw [if_neg (by omega), if_pos (by omega), if_pos (by first | omega | (simp; omega)), hm]; rfl
        · rw [if_pos (by omega), if_pos (by first | omega | (simp; omega)), hm]; rfl
      · rw [if_neg (by omega), if_neg (by omega), if_neg (by omega), List.getElem?_set_ne (fun e => hki e.symm)]
        exact hold
    · rw [List.getElem?_eq_none (by rw [List.length_take]; omega), List.getElem?_eq_none (by rw [hlen]; omega)]
theorem below_setWin {B : Nat} {a W : World} {g i : Nat} {x : Win} (h : Below B a W) (hg : B ≤ g) : Below B a (setWin W g i x) :=
  Below.setCell (Below.setCell (Below.setCell h hg _) hg _) hg _
/-- the first ones of a row -/
theorem own_preW {W : World} {base g n c : Nat} {t : TypeId} {a b : List Win} (h : W.ownsRow base t 3 (.slice (some ⟨g, 0, none⟩) n c) (a ++ b).length ((a ++ b).flatMap Win.cells)) : W.ownsRow base t 3 (.slice (some ⟨g, 0, none⟩) a.length c) a.length (a.flatMap Win.cells) := by
  have hl : (a.flatMap Win.cells).length = a.length * 3 := flat_len Win.cells 3 (fun _ => rfl) a
  rcases h.2 with ⟨e, _⟩ | ⟨g', cap, cur, e, hb, hh, h1, h2, h3, h4⟩
  · cases e
  · injection e with e e2 e3
    injection e with e
    injection e with e _
    subst e
    rw [List.length_append] at h1 h4
    refine ⟨hl, .inr ⟨g, cap, cur, by rw [e3], hb, hh, by omega, h2, h3, ?_⟩⟩
    have e4 : cur.toList.take (a.length * 3) = (cur.toList.take ((a.length + b.length) * 3)).take (a.length * 3) := by rw [List.take_take, Nat.min_eq_left (by omega)]
    rw [e4, h4, List.flatMap_append, List.take_append_of_le_length (by omega), List.take_of_length_le (by omega)]
theorem own_clearedW {W : World} {base g n c : Nat} {t : TypeId} {a : List Win} {vs : List Value} (h : W.ownsRow base t 3 (.slice (some ⟨g, 0, none⟩) n c) a.length (a.flatMap Win.cells)) : (W.setCells g (a.length * 3) vs).ownsRow base t 3 (.slice (some ⟨g, 0, none⟩) n c) a.length (a.flatMap Win.cells) := by
  rcases h.2 with ⟨e, _⟩ | ⟨g', cap, cur, e, hb, hh, h1, h2, h3, h4⟩
  · cases e
  · injection e with e e2 e3
    injection e with e
    injection e with e _
    subst e
    obtain ⟨cur', k1, k2, k3⟩ := blk_setCells vs (a.length * 3) W cur hh
    refine ⟨h.1, .inr ⟨g, cap, cur', by rw [e2, e3], hb, k1, h1, h2, by rw [k2, h3], ?_⟩⟩
    rw [← h4]
    apply List.ext_getElem?
    intro k
    by_cases hk : k < a.length * 3
    · rw [List.getElem?_take_of_lt hk, List.getElem?_take_of_lt hk, Array.getElem?_toList, Array.getElem?_toList, k3 k hk]
    · rw [List.getElem?_eq_none (by rw [List.length_take]; omega), List.getElem?_eq_none (by rw [List.length_take]; omega)]
end Go.Proofs.YtpedlbjbbcbbkaaGreat
namespace Go.Proofs.YtpedlbjbbcbbkaaGreat
open Go.RowKit
theorem winE_any (c : Cfg) (x : Win) : winE c x = if idx (fun y => y.id == x.part) c.parts < 0 then 19 else if x.len = 0 ∨ c.frame < x.len ∨ c.frame - x.len < x.start then 20 else 0 := by
  unfold winE
  rcases idx_cases (fun y : Par => y.id == x.part) c.parts with ⟨h1, h2⟩ | ⟨k, y, h1, h2, h3, h4, h5⟩
  · have : c.parts.any (fun p => p.id == x.part) = false := by
      rw [List.any_eq_false]
      rw [List.find?_eq_none] at h2
      exact h2
    rw [this, h1]
    simp
  · have : c.parts.any (fun p => p.id == x.part) = true := by
      rw [List.any_eq_true]
      exact ⟨y, List.mem_of_getElem? h3, h5⟩
    rw [this, h1, if_neg (show ¬ ((k : Nat) : Int) < 0 by omega), if_pos rfl]
/-- the two boxes of a call of window -/
structure FwBox (w W : World) (c : Cfg) (gi : Nat) (x : Win) : Prop where
  k0 : W.cell? ⟨w.heap.size, 0, none⟩ = some (.int .u64 c.frame)
  k1 : W.cell? ⟨w.heap.size, 1, none⟩ = some (.pointer (some ⟨gi, 0, none⟩))
  p0 : W.cell? ⟨w.heap.size + 1, 0, none⟩ = some (.int .u64 x.start)
  p1 : W.cell? ⟨w.heap.size + 1, 1, none⟩ = some (.int .u64 x.len)
  p2 : W.cell? ⟨w.heap.size + 1, 2, none⟩ = some (.int .u16 x.part)
  lt : w.heap.size + 1 < W.heap.size
  bel : Below w.heap.size w W
theorem FwBox.up {w W V : World} {c : Cfg} {gi : Nat} {x : Win} (h : FwBox w W c gi x) (hb : Below W.heap.size W V) : FwBox w V c gi x := by
  have q : ∀ b o, b ≤ w.heap.size + 1 → V.cell? ⟨b, o, none⟩ = W.cell? ⟨b, o, none⟩ := fun b o hl => hb.cell (p := ⟨b, o, none⟩) (Nat.lt_of_le_of_lt hl h.lt)
  exact ⟨(q _ _ (Nat.le_succ _)).trans h.k0, (q _ _ (Nat.le_succ _)).trans h.k1, (q _ _ (Nat.le_refl _)).trans h.p0, (q _ _ (Nat.le_refl _)).trans h.p1, (q _ _ (Nat.le_refl _)).trans h.p2, Nat.lt_of_lt_of_le h.lt hb.size, Below.then_ h.bel hb⟩
theorem FwBox.start (w : World) (c : Cfg) (gi : Nat) (x : Win) (t1 t2 : TypeId) : ∃ W, (w.alloc (.cells #[.int .u64 c.frame, .pointer (some ⟨gi, 0, none⟩)] t1)).alloc (.cells #[.int .u64 x.start, .int .u64 x.len, .int .u16 x.part] t2) = W ∧ FwBox w W c gi x := by
  refine ⟨_, rfl, ⟨by simp, by simp, by simp, by simp, by simp, by simp, ?_⟩⟩
  exact ((Below.refl _ _).alloc (Nat.le_refl _) _).alloc (by simp) _
set_option maxRecDepth 100000 in
set_option maxHeartbeats 2000000 in
theorem frWindow_ok (c : Cfg) (gi : Nat) (w : World) (hI : IdxAt w w.heap.size gi c) (hF : wU64 c.frame) (x : Win) (hx : x.ok) :
    Calls Tryz.prog 189 #[.agg #[.int .u64 c.frame, .pointer (some ⟨gi, 0, none⟩)], .agg #[.int .u64 x.start, .int .u64 x.len, .int .u16 x.part]] w fun e w' => e = .returned (.int .i64 (winE c x)) ∧ Below w.heap.size w w' := by
  obtain ⟨W1, hW1, fb⟩ := FwBox.start w c gi x 253 52
  have HFB := Lib.hid fb
  have HI := Lib.hid (hI.up fb.bel)
  have HW := Lib.hid hW1
  have HXO := Lib.hid hx
  have b1 := Go.bounds_u64 hx.start
  have b2 := Go.bounds_u64 hx.len
  have b3 := Go.bounds_u64 hF
  obtain ⟨k0, k1, p0, p1, p2, hz, _⟩ := fb
  clear hW1 hI hx hF
  obtain ⟨v, hv⟩ : ∃ v, idx (fun y => y.id == x.part) c.parts = v := ⟨_, rfl⟩
  have HV := Lib.hid hv
  by_cases hi : v < 0
  · have HC := Lib.hid (show winE c x = 19 by rw [winE_any, hv, if_pos hi])
    clear hv
    go_enter Tryz.func189, Tryz.ntmps189
    go_upto_region 1 with (fail)
    rw [HW.out]
    go_wp2_with fail
    refine (iPart_valM c gi x.part W1 HI.out HXO.out.part v HV).mono ?_
    rintro e w2 ⟨rfl, hb2⟩
    have HB2 := Lib.hid (Below.then_ HFB.out.bel hb2)
    clear hb2 k0 k1 p0 p1 p2 hz
    go_wp2
    go_ret
    exact ⟨ret_int HC.out.symm, HB2.out⟩
  · have HE := Lib.hid (show winE c x = if x.len = 0 ∨ c.frame < x.len ∨ c.frame - x.len < x.start then 20 else 0 by rw [winE_any, hv, if_neg hi])
    have hi2 : decide (v < 0) = false := decide_eq_false hi
    clear hv
    have HLT := Lib.hid (And.intro b1 (And.intro b2 b3))
    go_enter Tryz.func189, Tryz.ntmps189
    go_upto_region 1 with (fail)
    rw [HW.out]
    go_wp2_with fail
    refine (iPart_valM c gi x.part W1 HI.out HXO.out.part v HV).mono ?_
    rintro e w2 ⟨rfl, hb2⟩
    have HFB2 := Lib.hid (HFB.out.up hb2)
    clear hb2 k0 k1 p0 p1 p2 hz
    obtain ⟨k0, k1, p0, p1, p2, hz, _⟩ := HFB2.out
    go_upto_region 3 with (fail)
    have hal := below_one w2 (.cells #[.int .u64 x.start, .int .u64 x.len] 22)
    have HFB3 := Lib.hid (HFB2.out.up hal)
    have q0 : (w2.alloc (.cells #[.int .u64 x.start, .int .u64 x.len] 22)).cell? ⟨w2.heap.size, 0, none⟩ = some (.int .u64 x.start) := by simp
    have q1 : (w2.alloc (.cells #[.int .u64 x.start, .int .u64 x.len] 22)).cell? ⟨w2.heap.size, 1, none⟩ = some (.int .u64 x.len) := by simp
    have HQ0 := Lib.hid q0
    have HQ1 := Lib.hid q1
    clear q0 q1 hal
    by_cases hfit : x.start + x.len ≤ 18446744073709551615
    · have HN := Lib.hid hfit
      clear hfit
      go_wp2_with fail
      refine (numAdd_fit x.start x.len w2.heap.size _ HLT.out.1.1 HLT.out.2.1.1 HN.out HQ0.out HQ1.out).mono ?_
      rintro e w4 ⟨rfl, rfl⟩
      clear k0 k1 p0 p1 p2 hz
      obtain ⟨k0, k1, p0, p1, p2, hz, _⟩ := HFB3.out
      by_cases hl : x.len = 0
      · have HC := Lib.hid (show winE c x = 20 by rw [HE.out, if_pos (.inl hl)])
        have hl2 : (x.len == 0) = true := by rw [hl]; rfl
        clear hl
        go_wp2
        go_ret
        exact ⟨ret_int HC.out.symm, HFB3.out.bel⟩
      · have hl2 : (x.len == 0) = false := beq_eq_false_iff_ne.2 hl
        by_cases hov : c.frame < x.start + x.len
        · have HC := Lib.hid (show winE c x = 20 by rw [HE.out, if_pos (by have := HLT.out; omega)])
          have hov2 : decide (c.frame < x.start + x.len) = true := decide_eq_true hov
          clear hl hov
          go_wp2
          go_ret
          exact ⟨ret_int HC.out.symm, HFB3.out.bel⟩
        · have HC := Lib.hid (show winE c x = 0 by rw [HE.out, if_neg (by have := HLT.out; omega)])
          have hov2 : decide (c.frame < x.start + x.len) = false := decide_eq_false hov
          clear hl hov
          go_wp2
          go_ret
          exact ⟨ret_int HC.out.symm, HFB3.out.bel⟩
    · have HC := Lib.hid (show winE c x = 20 by rw [HE.out, if_pos (by have := HLT.out; omega)])
      have HN := Lib.hid hfit
      clear hfit
      go_wp2_with fail
      refine (numAdd_over x.start x.len w2.heap.size _ HLT.out.1.1 HLT.out.2.1.1 HLT.out.1.2 HLT.out.2.1.2 (by have := HN.out; omega) HQ0.out HQ1.out).mono ?_
      rintro e w4 ⟨rfl, rfl⟩
      clear k0 k1 p0 p1 p2 hz
      obtain ⟨k0, k1, p0, p1, p2, hz, _⟩ := HFB3.out
      go_wp2
      go_ret
      exact ⟨ret_int HC.out.symm, HFB3.out.bel⟩
theorem frWindow_val (c : Cfg) (gi : Nat) (w : World) (hI : IdxAt w w.heap.size gi c) (hF : wU64 c.frame) (x : Win) (hx : x.ok) (v : Int) (hv : Hid (winE c x = v)) :
    Calls Tryz.prog 189 #[.agg #[.int .u64 c.frame, .pointer (some ⟨gi, 0, none⟩)], .agg #[.int .u64 x.start, .int .u64 x.len, .int .u16 x.part]] w fun e w' => e = .returned (.int .i64 v) ∧ Below w.heap.size w w' := by
  have h := frWindow_ok c gi w hI hF x hx
  rwa [hv.out] at h
def spnW (x : Win) : Spn := ⟨x.start, x.len⟩
theorem spnW_cells (l : List Win) (k : Nat) {x : Win} (h : l[k]? = some x) : ((l.take (k + 1)).map spnW).flatMap Spn.cells = ((l.take k).map spnW).flatMap Spn.cells ++ [.int .u64 x.start, .int .u64 x.len] := by
  rw [take_next h]; simp [Spn.cells, spnW]
set_option maxRecDepth 100000 in
set_option maxHeartbeats 2000000 in
theorem frSpans_ok (l : List Win) (A : Option Addr) (cp : Nat) (w : World) (hl : l.length ≤ 1048576) (hR : Rd w w.heap.size 3 A l.length (l.flatMap Win.cells)) :
    Calls Tryz.prog 191 #[.slice A l.length cp] w fun e w' => ∃ v, e = .returned v ∧ w'.ownsRow w.heap.size 303 2 v l.length ((l.map spnW).flatMap Spn.cells) ∧ Below w.heap.size w w' := by
  obtain ⟨i0, hi, hz0, hz1, hz2⟩ := info_parts infoSpan
  have HR := Lib.hid hR
  clear hR
  go_enter Tryz.func191, Tryz.ntmps191
  go_wp2
  go_loopw [3, 8] (fun o i wr => ∃ k : Nat, k ≤ l.length ∧ i = .int .i64 k ∧ Hid (wr.ownsRow w.heap.size 303 2 o k (((l.take k).map spnW).flatMap Spn.cells)) ∧ Hid (Below w.heap.size w wr)) (fun _ i _ => l.length - (intOf i).toNat)
  case atStart => exact ⟨0, by omega, rfl, Lib.hid (World.ownsRow_nil _ _ _ _), Lib.hid (Below.refl _ _)⟩
  case round =>
    obtain ⟨k, hk, rfl, HO, HB⟩ := hrel
    by_cases hlt : k < l.length
    · obtain ⟨x, hx⟩ := get_lt hlt
      have HRk := HR.out.below HB.out
      obtain ⟨bb, o, rfl, hbb, g0, g1, g2⟩ := win_at HRk hx
      have HN := Lib.hid (spnW_cells l k hx)
      have k0 : (0 : Int) ≤ (k : Int) := by omega
      have k1 : (k : Int) < (l.length : Int) := by omega
      clear hx HRk
      go_upto_region 5 with (fail)
      obtain ⟨W4, hW4, rb, hb4⟩ := WnBox.new wr x 52
      rw [hW4]
      have HB4 := Lib.hid (HB.out.trans (hb4.mono HB.out.size))
      have hO4 := own_below HO.out hb4
      obtain ⟨rA, rc, rfl, _⟩ := own_form hO4
      have hal := below_one W4 (.cells #[.int .u64 x.start, .int .u64 x.len] 303)
      have HO5 := Lib.hid (own_below hO4 hal)
      have HB6 := Lib.hid (HB4.out.trans (hal.mono HB4.out.size))
      have hsz := HB4.out.size
      obtain ⟨p0, p1, p2, hg⟩ := rb
      clear hW4 hb4 g0 g1 g2 hbb hO4 hal
      go_wp2_with (at_builtin; go_loud (refine wpList_append_rd _ rfl (.tmp 12) (.tmp 18) _ rfl w.heap.size 303 i0 (.agg #[.int .u64 0, .int .u64 0]) 2 16 Tryz.underlying255 hi hz0 hz1 hz2 rfl (by decide) _ _ _ rfl HO5.out (W4.heap.size + 1) (some ⟨W4.heap.size, 0, none⟩) 1 1 [.int .u64 x.start, .int .u64 x.len] rfl (new_spn W4 _ _ _) (by intro u hu; simp at hu; rcases hu with rfl | rfl <;> rfl) (by unfold maxLen; omega) (by omega) (by simp; omega) ?_); intro v' w6 hown hg)
      have hb6 := below_own HB6.out hg HO5.out HB6.out.size
      have HO6 := Lib.hid (show w6.ownsRow w.heap.size 303 2 v' (k + 1) (((l.take (k + 1)).map spnW).flatMap Spn.cells) by rw [HN.out]; exact hown)
      have HB7 := Lib.hid hb6
      clear hown hg hb6
      go_wp2
      go_roundw
      case rel => exact ⟨k + 1, by omega, by go_num, HO6, HB7⟩
      case measure => simp [intOf]; omega
    · obtain rfl : k = l.length := by omega
      go_wp2
      go_ret
      exact ⟨_, rfl, by have := HO.out; rwa [List.take_length] at this, HB.out⟩
end Go.Proofs.YtpedlbjbbcbbkaaGreat
namespace Go.Proofs.YtpedlbjbbcbbkaaGreat
open Go.RowKit Go.Shelf
def FN (L : List Pr) (m : Int) : Prop := (m = -1 ∧ L = []) ∨ (0 ≤ m ∧ (∃ p ∈ L, p.j = m) ∧ ∀ p ∈ L, m ≤ p.j)
theorem FN.take_ {L : List Pr} {m : Int} {p : Pr} (h : FN L m) (h0 : 0 ≤ p.j) (hm : m < 0 ∨ p.j < m) : FN (L ++ [p]) p.j := by
  refine .inr ⟨h0, ⟨p, by simp, rfl⟩, fun r hr => ?_⟩
  rcases List.mem_append.1 hr with hr | hr
  · rcases h with ⟨_, h2⟩ | ⟨h1, _, h4⟩
    · rw [h2] at hr; cases hr
    · have := h4 r hr; omega
  · rw [List.mem_singleton] at hr; rw [hr]; exact Int.le_refl _
theorem FN.keep {L : List Pr} {m : Int} {p : Pr} (h : FN L m) (h0 : ¬ m < 0) (hm : ¬ p.j < m) : FN (L ++ [p]) m := by
  rcases h with ⟨h1, h2⟩ | ⟨h1, ⟨q, hq, h3⟩, h4⟩
  · omega
  · refine .inr ⟨h1, ⟨q, by simp [hq], h3⟩, fun r hr => ?_⟩
    rcases List.mem_append.1 hr with hr | hr
    · exact h4 r hr
    · rw [List.mem_singleton] at hr; rw [hr]; omega
theorem meetW_iff {a b : Win} (ha : okSp a.start a.len) (hb : okSp b.start b.len) : meetW a b = meetS (spnW a) (spnW b) := by
  have h1 := ha.2.1
  have h2 := hb.2.1
  rw [Bool.eq_iff_iff, meetS_iff (a := spnW a) (b := spnW b) ha hb]
  unfold meetW spnW
  simp only [Bool.not_eq_true', Bool.or_eq_false_iff, decide_eq_false_iff_not]
  omega
theorem meetsAt_iff {l : List Win} {j : Nat} : meetsAt l j = true ↔ ∃ (i : Nat) (x y : Win), i < j ∧ l[i]? = some x ∧ l[j]? = some y ∧ meetW x y = true := by
  unfold meetsAt
  rw [List.any_eq_true]
  constructor
  · rintro ⟨x, hx, hm⟩
    obtain ⟨i, hi⟩ := List.mem_iff_getElem?.1 hx
    rw [List.getElem?_take] at hi
    split at hi
    · rename_i hij
      rcases hy : l[j]? with _ | y
      · rw [hy] at hm; simp at hm
      · rw [hy] at hm
        exact ⟨i, x, y, hij, hi, rfl, hm⟩
    · cases hi
  · rintro ⟨i, x, y, hij, hx, hy, hm⟩
    exact ⟨x, List.mem_iff_getElem?.2 ⟨i, by rw [List.getElem?_take, if_pos hij]; exact hx⟩, by rw [hy]; exact hm⟩
theorem firstN_val {l : List Win} {L : List Pr} {m : Int} (hok : ∀ x ∈ l, okSp x.start x.len) (h : PairsOf (itemsOf (l.map spnW)) L) (hf : FN L m) : m = meetJ l := by
  have hsp : ∀ s ∈ l.map spnW, okSp s.lo s.len := fun s hs => by
    obtain ⟨x, hx, rfl⟩ := List.mem_map.1 hs
    exact hok x hx
  have key : ∀ {p : Pr}, p ∈ L ↔ ∃ (i j : Nat) (x y : Win), l[i]? = some x ∧ l[j]? = some y ∧ i < j ∧ meetW x y = true ∧ p = ⟨(i : Int), (j : Int)⟩ := by
    intro p
    rw [pairs_meet hsp h]
    constructor
    · rintro ⟨i, j, sx, sy, hx, hy, hij, hm, rfl⟩
      rw [List.getElem?_map] at hx hy
      obtain ⟨x, gx, rfl⟩ := Option.map_eq_some_iff.1 hx
      obtain ⟨y, gy, rfl⟩ := Option.map_eq_some_iff.1 hy
      exact ⟨i, j, x, y, gx, gy, hij, by rw [meetW_iff (hok x (List.mem_of_getElem? gx)) (hok y (List.mem_of_getElem? gy))]; exact hm, rfl⟩
    · rintro ⟨i, j, x, y, gx, gy, hij, hm, rfl⟩
      exact ⟨i, j, spnW x, spnW y, by rw [List.getElem?_map, gx]; rfl, by rw [List.getElem?_map, gy]; rfl, hij, by rw [← meetW_iff (hok x (List.mem_of_getElem? gx)) (hok y (List.mem_of_getElem? gy))]; exact hm, rfl⟩
  unfold meetJ
  split
  · rename_i j hj
    have hat := List.find?_some hj
    obtain ⟨i, x, y, hij, hx, hy, hm⟩ := meetsAt_iff.1 hat
    have hmem : (⟨(i : Int), (j : Int)⟩ : Pr) ∈ L := key.2 ⟨i, j, x, y, hx, hy, hij, hm, rfl⟩
    have hmin := List.find?_range_eq_some.1 hj
    rcases hf with ⟨_, h2⟩ | ⟨h0, ⟨p, hp, hpj⟩, hle⟩
    · rw [h2] at hmem; cases hmem
    · have h1 := hle _ hmem
      obtain ⟨i', j', x', y', hx', hy', hij', hm', rfl⟩ := key.1 hp
      simp only at hpj h1
      have hat' : meetsAt l j' = true := meetsAt_iff.2 ⟨i', x', y', hij', hx', hy', hm'⟩
      have : ¬ j' < j := fun hlt => by
        have := hmin.2.2 j' hlt
        rw [hat'] at this
        cases this
      omega
  · rename_i hn
    rw [List.find?_eq_none] at hn
    rcases hf with ⟨hm, _⟩ | ⟨_, ⟨p, hp, _⟩, _⟩
    · exact hm
    · exfalso
      obtain ⟨i, j, x, y, hx, hy, hij, hm, rfl⟩ := key.1 hp
      exact hn j (List.mem_range.2 (List.getElem?_eq_some_iff.1 hy).1) (meetsAt_iff.2 ⟨i, x, y, hij, hx, hy, hm⟩)
set_option maxRecDepth 100000 in
set_option maxHeartbeats 4000000 in
theorem swpFirstN_ok {w : World} {l : List Win} {A : Option Addr} {cp : Nat} (hl : l.length ≤ 1048576) (hok : ∀ x ∈ l, okSp x.start x.len) (hR : Rd w w.heap.size 2 A l.length ((l.map spnW).flatMap Spn.cells)) :
    Calls Tryz.prog 190 #[.slice A l.length cp, .nilFunc] w fun e w' => ∃ a : Int, e = .returned (.tuple #[.int .i64 a, .int .i64 (meetJ l)]) ∧ Below w.heap.size w w' := by
  have hpairs := pairs_ok (w := w) (l := l.map spnW) (A := A) (cp := cp) (by simpa using hl) (fun s hs => by obtain ⟨x, hx, rfl⟩ := List.mem_map.1 hs; exact hok x hx) (by simpa using hR)
  rw [List.length_map] at hpairs
  have hnf : ∀ W, (binOp .neq 264 .nilFunc .nilFunc).run Tryz.prog W = .ok (.bool false) W := fun W => by kernel_rfl
  have HOK := Lib.hid hok
  clear hR hok
  go_enter Tryz.func190, Tryz.ntmps190
  go_wp2_with fail
  refine hpairs.mono ?_
  rintro e w1 ⟨v, L, rfl, ⟨hL, hLl⟩, ho, hb1⟩
  obtain ⟨RA, rc, rfl, hr1, hr2, hrd⟩ := own_form ho
  have HL := Lib.hid hL
  have HRD := Lib.hid hrd
  have HB1 := Lib.hid hb1
  have HPJ := Lib.hid (fun (p : Pr) (hp : p ∈ L) => pairs_meet (fun s hs => by obtain ⟨x, hx, rfl⟩ := List.mem_map.1 hs; exact HOK.out x hx) HL.out |>.1 hp)
  clear hpairs hL ho hrd hb1
  go_wp2
  go_loopw [6, 7, 13] (fun a m i wr => ∃ (k : Nat) (a' m' : Int), k ≤ L.length ∧ i = .int .i64 k ∧ a = .int .i64 a' ∧ m = .int .i64 m' ∧ Hid (FN (L.take k) m') ∧ Hid (Below w1.heap.size w1 wr)) (fun _ _ i _ => L.length - (intOf i).toNat)
  case atStart => exact ⟨0, -1, -1, Nat.zero_le _, rfl, rfl, rfl, Lib.hid (.inl ⟨rfl, by simp⟩), Lib.hid (Below.refl _ _)⟩
  case round =>
    obtain ⟨k, a', m', hk, rfl, rfl, rfl, HF, HB⟩ := hrel
    by_cases hkl : k < L.length
    · obtain ⟨p, hp⟩ := get_lt hkl
      obtain ⟨i, j, _, _, _, _, _, _, rfl⟩ := HPJ.out p (List.mem_of_getElem? hp)
      have hrdk := HRD.out.up HB.out
      obtain ⟨bb, o, rfl, hbb, g0, g1⟩ := pr_at hrdk hp
      have HTK := Lib.hid (take_next hp)
      have k0 : (0 : Int) ≤ (k : Int) := by omega
      have k1 : (k : Int) < (L.length : Int) := by omega
      have j0 : (0 : Int) ≤ (j : Int) := by omega
      clear hp hrdk
      go_upto_region 5 with (fail)
      obtain ⟨W4, hW4, hbx, hb4⟩ := PrBox_new wr ⟨(i : Int), (j : Int)⟩ 302
      rw [hW4]
      obtain ⟨p0, p1, pz⟩ := hbx
      have HB4 := Lib.hid (Below.then_ HB.out hb4)
      clear hW4 hb4 g0 g1 hbb
      by_cases hm : m' < 0
      · have HN := Lib.hid (show FN (L.take (k + 1)) (j : Int) by rw [HTK.out]; exact HF.out.take_ j0 (.inl hm))
        go_wp2
        go_quiet (fail)
        go_wp2
        go_roundw
        case rel => exact ⟨k + 1, (i : Int), (j : Int), by omega, by go_num, rfl, rfl, HN, Lib.hid (below_drewN HB4.out _)⟩
        case measure => simp [intOf]; omega
      · by_cases hjm : (j : Int) < m'
        · have HN := Lib.hid (show FN (L.take (k + 1)) (j : Int) by rw [HTK.out]; exact HF.out.take_ j0 (.inr hjm))
          go_wp2
          go_quiet (fail)
          go_wp2
          go_roundw
          case rel => exact ⟨k + 1, (i : Int), (j : Int), by omega, by go_num, rfl, rfl, HN, Lib.hid (below_drewN HB4.out _)⟩
          case measure => simp [intOf]; omega
        · have HN := Lib.hid (show FN (L.take (k + 1)) m' by rw [HTK.out]; exact HF.out.keep hm hjm)
          go_wp2
          go_roundw
          case rel => exact ⟨k + 1, a', m', by omega, by go_num, rfl, rfl, HN, HB4⟩
          case measure => simp [intOf]; omega
    · obtain rfl : k = L.length := by omega
      have hfin := firstN_val HOK.out HL.out (by have := HF.out; rwa [List.take_length] at this)
      go_wp2
      go_ret2
      exact ⟨a', by rw [← hfin]; rfl, Below.then_ HB1.out HB.out⟩
end Go.Proofs.YtpedlbjbbcbbkaaGreat
namespace Go.Proofs.YtpedlbjbbcbbkaaGreat
open Go.RowKit Go.Shelf
def winFlt (c : Cfg) : Flt := ⟨(winBad c).1, (winBad c).2.1, (winBad c).2.2⟩
theorem winFlt_0 {c : Cfg} (h : c.frame = 0) : winFlt c = ⟨17, 0, 0⟩ := by
  unfold winFlt winBad
  simp [h]
theorem winFlt_e {c : Cfg} {e i : Int} (h0 : c.frame ≠ 0) (h : bad 0 (c.wins.map (winE c)) = (e, i)) (he : e ≠ 0) : winFlt c = ⟨e, 2, i⟩ := by
  unfold winFlt winBad
  rw [if_neg h0, h]
  simp [he]
theorem winFlt_m {c : Cfg} (h0 : c.frame ≠ 0) (h : bad 0 (c.wins.map (winE c)) = (0, 0)) : winFlt c = if meetJ c.wins < 0 then noFlt else ⟨21, 2, meetJ c.wins⟩ := by
  unfold winFlt winBad
  rw [if_neg h0, h]
  by_cases hm : meetJ c.wins < 0
  · rw [if_pos hm]
    simp [show ¬ 0 ≤ meetJ c.wins by omega, noFlt]
  · rw [if_neg hm]
    simp [show 0 ≤ meetJ c.wins by omega]
theorem win_okSp {c : Cfg} (hok : c.ok) (h : bad 0 (c.wins.map (winE c)) = (0, 0)) : ∀ x ∈ c.wins, okSp x.start x.len := fun x hx => by
  have e := bad_none _ _ (by rw [h]) (winE c x) (List.mem_map.2 ⟨x, hx, rfl⟩)
  have b1 := Go.bounds_u64 (hok.wins x hx).start
  have b2 := Go.bounds_u64 (hok.wins x hx).len
  have b3 := Go.bounds_u64 hok.frame
  unfold winE at e
  split at e
  · split at e
    · cases e
    · exact ⟨by omega, by omega, by omega⟩
  · cases e
set_option maxRecDepth 100000 in
set_option maxHeartbeats 8000000 in
theorem frCheck_ok (c : Cfg) (A1 A2 A3 A4 A5 : Option Addr) (c1 c2 c3 c4 c5 : Nat) (w : World) (hR : CfgR w w.heap.size c A1 A2 A3 A4 A5 c1 c2 c3 c4 c5) (hs : c.small) (hok : c.ok) : Calls Tryz.prog 115 #[cfgV c.frame A1 A2 A3 A4 A5 c.parts.length c.wins.length c.regs.length c.ports.length c.chans.length c1 c2 c3 c4 c5] w fun e w' => e = .returned (fltV (winFlt c)) ∧ Below w.heap.size w w' := by
  obtain ⟨W0, hW, st⟩ := St.start_any hR 29
  have HW := Lib.hid hW
  obtain ⟨W1, hW1, hk1, hb1⟩ := FltBkM W0 37
  have HW1 := Lib.hid hW1
  have e0 : W0.heap.size = w.heap.size + 1 := by rw [← hW]; simp
  rw [e0] at hk1
  have HK1 := Lib.hid hk1
  have hst1 := st.up hb1
  obtain ⟨x0, x1, x2, x3, x4, x5, hz⟩ := hst1.cells
  have ST1 := Lib.hid hst1
  have hbd := hs.bd
  have bw := hbd.w
  have HOK := Lib.hid hok
  have hent : ∀ a w, (callFunc 189 a).run Tryz.prog w = .ok (.enter 189 a) w := enters_of Tryz.func189 (by kernel_rfl) rfl
  clear hR hW st hW1 hst1 hbd hok hb1
  by_cases hf : c.frame = 0
  · have HMF := Lib.hid (winFlt_0 hf)
    rw [hf] at x0
    have q0 := hk1.cell 0
    have q1 := hk1.cell 1
    have q2 := hk1.cell 2
    have qf := hk1.frozen
    have hkl := hk1.lt
    simp at q0 q1 q2
    clear hf hk1
    go_enter Tryz.func115, Tryz.ntmps115
    go_upto_region 1 with (fail)
    rw [HW.out, HW1.out]
    clear e0
    go_wp2
    have hmf := HMF.out
    refine bodyPost_ret (v := fltV (winFlt c)) (by rw [hmf]; simp [results, Tryz.results115, go_sem, q0, q1, q2]) rfl ⟨rfl, ?_⟩
    exact Below.setCell (Below.setCell (Below.setCell ST1.out.bel (by simp) _) (by simp) _) (by simp) _
  · have hf2 : (c.frame == 0) = false := beq_eq_false_iff_ne.2 hf
    have HF := Lib.hid hf
    clear hf hk1
    go_enter Tryz.func115, Tryz.ntmps115
    go_upto_region 1 with (fail)
    rw [HW.out, HW1.out]
    clear e0
    go_upto_region 3 with (fail)
    have KEEP : ∀ V, Below W1.heap.size W1 V → (fun w' => w'.cell? ⟨w.heap.size, 0, none⟩ = some (.int .u64 c.frame) ∧ w'.cell? ⟨w.heap.size, 1, none⟩ = some (.slice A1 c.parts.length c1) ∧ w'.cell? ⟨w.heap.size, 2, none⟩ = some (.slice A2 c.wins.length c2) ∧
        w'.cell? ⟨w.heap.size, 3, none⟩ = some (.slice A3 c.regs.length c3) ∧ w'.cell? ⟨w.heap.size, 4, none⟩ = some (.slice A4 c.ports.length c4) ∧ w'.cell? ⟨w.heap.size, 5, none⟩ = some (.slice A5 c.chans.length c5)) V := fun V hV => by
      have q : ∀ b o, b < W1.heap.size → V.cell? ⟨b, o, none⟩ = W1.cell? ⟨b, o, none⟩ := fun b o h => hV.cell (p := ⟨b, o, none⟩) h
      exact ⟨(q _ _ hz).trans x0, (q _ _ hz).trans x1, (q _ _ hz).trans x2, (q _ _ hz).trans x3, (q _ _ hz).trans x4, (q _ _ hz).trans x5⟩
    have HKP := Lib.hid KEEP
    clear KEEP
    go_region_held3 (fun w' => w'.cell? ⟨w.heap.size, 0, none⟩ = some (.int .u64 c.frame) ∧ w'.cell? ⟨w.heap.size, 1, none⟩ = some (.slice A1 c.parts.length c1) ∧ w'.cell? ⟨w.heap.size, 2, none⟩ = some (.slice A2 c.wins.length c2) ∧
        w'.cell? ⟨w.heap.size, 3, none⟩ = some (.slice A3 c.regs.length c3) ∧ w'.cell? ⟨w.heap.size, 4, none⟩ = some (.slice A4 c.ports.length c4) ∧ w'.cell? ⟨w.heap.size, 5, none⟩ = some (.slice A5 c.chans.length c5))
      (first | (refine HKP.out _ ?_; (repeat (first | with_reducible exact HBW.out | with_reducible exact Below.refl _ _ | with_reducible refine Below.drew ?_ | (with_reducible refine Below.alloc ?_ (by first | (simp; done) | (have hq := HBW.out.size; simp at hq ⊢; omega)) _) | (with_reducible refine Below.setCell ?_ (by first | (simp; done) | (have hq := HBW.out.size; simp at hq ⊢; omega)) _))); done) | go_keep)
      (first | (go_at_call 188; refine (new_ok c _ _ _ _ _ _ _ _ _ _ _ (ST1.out.up (by repeat (first | with_reducible exact Below.refl _ _ | with_reducible refine Below.drew ?_ | (with_reducible refine Below.alloc ?_ (by simp) _) | (with_reducible refine Below.setCell ?_ (by simp) _)))).R hs HOK.out).mono ?_; rintro e w2 ⟨gi, rfl, _, hI, hb2⟩; have HBW := Lib.hid (Below.then_ (show Below W1.heap.size W1 _ from (by repeat (first | with_reducible exact Below.refl _ _ | with_reducible refine Below.drew ?_ | (with_reducible refine Below.alloc ?_ (by simp) _) | (with_reducible refine Below.setCell ?_ (by simp) _)))) hb2); have HI := Lib.hid hI; clear hI hb2) | fail)
    have ST2 := Lib.hid (ST1.out.up HBW.out)
    have HI2 := Lib.hid HI.out
    have HK2 := Lib.hid (HK1.out.below HBW.out HK1.out.lt)
    clear x0 x1 x2 x3 x4 x5 hz HKP HBW
    obtain ⟨x0, x1, x2, x3, x4, x5, hz⟩ := ST2.out.cells
    go_wp2
    clear x0 x1 x2 x3 x4 x5 hz
    go_loopw [22] (fun i wr => ∃ k : Nat, k ≤ c.wins.length ∧ i = .int .i64 k ∧ Hid (bad 0 (c.wins.map (winE c)) = bad k ((c.wins.map (winE c)).drop k)) ∧ Hid (St w (wr) c A1 A2 A3 A4 A5 c1 c2 c3 c4 c5) ∧ Hid (IdxAt wr wr.heap.size gi c) ∧ Hid (Blk wr (w.heap.size + 1) 37 #[.int .i64 0, .int .i64 0, .int .i64 0])) (fun i _ => c.wins.length - (intOf i).toNat)
    case atStart => exact ⟨0, Nat.zero_le _, rfl, Lib.hid rfl, ST2, HI2, HK2⟩
    case round =>
      obtain ⟨k, hk, rfl, hrest, ST, HI, HK⟩ := hrel
      by_cases hlt : k < c.wins.length
      · obtain ⟨x, hx⟩ := get_lt hlt
        have HRO := Lib.hid (HOK.out.wins x (List.mem_of_getElem? hx))
        obtain ⟨bb, o, rfl, hbb, g0, g1, g2⟩ := win_at ST.out.R.wins hx
        have HX := Lib.hid (show (c.wins.map (winE c))[k]? = some (winE c x) by simp [hx])
        clear hx
        have n0 : (0 : Int) ≤ (k : Int) := by omega
        have n1 : (k : Int) < (c.wins.length : Int) := by omega
        go_upto_region 7 with (fail)
        obtain ⟨W4, hW4, rb, hb4⟩ := WnBox.new wr x 52
        rw [hW4]
        have ST4 := Lib.hid (ST.out.up hb4)
        have HI4 := Lib.hid (HI.out.up hb4)
        have HK4 := Lib.hid (HK.out.below hb4 HK.out.lt)
        obtain ⟨p0, p1, p2, hg⟩ := rb
        clear hW4 hb4 g0 g1 g2 hbb
        obtain ⟨v, hv⟩ : ∃ v, winE c x = v := ⟨_, rfl⟩
        have HV := Lib.hid hv
        clear hv
        go_wp2_with fail
        refine (frWindow_val c gi W4 HI4.out HOK.out.frame x HRO.out v HV).mono ?_
        rintro e w5 ⟨rfl, hb5⟩
        have ST5 := Lib.hid (ST4.out.up hb5)
        have HI5 := Lib.hid (HI4.out.up hb5)
        have HK5 := Lib.hid (HK4.out.below hb5 HK4.out.lt)
        clear hb5 p0 p1 p2 hg
        by_cases hv0 : v = 0
        · subst hv0
          go_wp2
          go_roundw
          case rel => exact ⟨k + 1, by omega, by go_num, Lib.hid (bad_miss hrest.out (by rw [HX.out, HV.out])), ST5, HI5, HK5⟩
          case measure => simp [intOf]; omega
        · have hk5 := HK5.out
          have q0 := hk5.cell 0
          have q1 := hk5.cell 1
          have q2 := hk5.cell 2
          have qf := hk5.frozen
          simp at q0 q1 q2
          have hkl := hk5.lt
          clear hk5
          have hb := bad_hit hrest.out HX.out (by rw [HV.out]; exact hv0)
          rw [HV.out] at hb
          have HMF := Lib.hid (winFlt_e HF.out hb hv0)
          clear hb
          go_wp2
          have hmf := HMF.out
          refine bodyPost_ret (v := fltV (winFlt c)) (by rw [hmf]; simp [results, Tryz.results115, go_sem, q0, q1, q2]) rfl ⟨rfl, ?_⟩
          exact Below.setCell (Below.setCell (Below.setCell ST5.out.bel (by simp) _) (by simp) _) (by simp) _
      · obtain rfl : k = c.wins.length := by omega
        have hrb : bad 0 (c.wins.map (winE c)) = (0, 0) := bad_end (l := c.wins.map (winE c)) (by simpa using hrest.out)
        have HSP := Lib.hid (win_okSp HOK.out hrb)
        have HMF := Lib.hid (winFlt_m HF.out hrb)
        clear hrb hrest
        obtain ⟨x0, x1, x2, x3, x4, x5, hz⟩ := ST.out.cells
        go_wp2_with fail
        refine (frSpans_ok c.wins A2 c2 wr bw ST.out.R.wins).mono ?_
        rintro e w5 ⟨v, rfl, ho, hb5⟩
        obtain ⟨SA, sc, rfl, _, _, hrd⟩ := own_form ho
        have ST5 := Lib.hid (ST.out.up hb5)
        have HK5 := Lib.hid (HK.out.below hb5 HK.out.lt)
        have HRD := Lib.hid hrd
        clear ho hrd hb5 x0 x1 x2 x3 x4 x5 hz
        go_wp2_with fail
        refine (swpFirstN_ok bw HSP.out HRD.out).mono ?_
        rintro e w6 ⟨a, rfl, hb6⟩
        have ST6 := Lib.hid (ST5.out.up hb6)
        have HK6 := Lib.hid (HK5.out.below hb6 HK5.out.lt)
        clear hb6
        obtain ⟨j, hj⟩ : ∃ j, meetJ c.wins = j := ⟨_, rfl⟩
        rw [hj] at HMF ⊢
        have hk6 := HK6.out
        have q0 := hk6.cell 0
        have q1 := hk6.cell 1
        have q2 := hk6.cell 2
        have qf := hk6.frozen
        simp at q0 q1 q2
        have hkl := hk6.lt
        clear hk6 hj
        by_cases hj0 : j < 0
        · have hj1 : decide (0 ≤ j) = false := decide_eq_false (by omega)
          have HM2 := Lib.hid (show winFlt c = noFlt by rw [HMF.out, if_pos hj0])
          go_wp2
          have hmf := HM2.out
          refine bodyPost_ret (v := fltV (winFlt c)) (by rw [hmf]; simp [results, Tryz.results115, go_sem, q0, q1, q2, noFlt]) rfl ⟨rfl, ?_⟩
          exact Below.setCell (Below.setCell (Below.setCell ST6.out.bel (by simp) _) (by simp) _) (by simp) _
        · have hj1 : 0 ≤ j := by omega
          have HM2 := Lib.hid (show winFlt c = ⟨21, 2, j⟩ by rw [HMF.out, if_neg hj0])
          go_wp2
          have hmf := HM2.out
          refine bodyPost_ret (v := fltV (winFlt c)) (by rw [hmf]; simp [results, Tryz.results115, go_sem, q0, q1, q2]) rfl ⟨rfl, ?_⟩
          exact Below.setCell (Below.setCell (Below.setCell ST6.out.bel (by simp) _) (by simp) _) (by simp) _
end Go.Proofs.YtpedlbjbbcbbkaaGreat
namespace Go.Proofs.YtpedlbjbbcbbkaaGreat
open Go.RowKit
attribute [local go_sem] ext_cell
theorem ret_tri {p q : Int × Int × Int} (h : p = q) : Ending.returned (.tuple #[.int .i64 p.1, .int .i64 p.2.1, .int .i64 p.2.2]) = .returned (.tuple #[.int .i64 q.1, .int .i64 q.2.1, .int .i64 q.2.2]) := by rw [h]
theorem winBad_0 {c : Cfg} (h : c.frame = 0) : winBad c = (17, 0, 0) := by unfold winBad; rw [if_pos h]
theorem winBad_e {c : Cfg} {e i : Int} (h0 : c.frame ≠ 0) (h : bad 0 (c.wins.map (winE c)) = (e, i)) (he : e ≠ 0) : winBad c = (e, 2, i) := by
  unfold winBad
  rw [if_neg h0, h]
  simp [he]
theorem winBad_j {c : Cfg} (h0 : c.frame ≠ 0) (h : bad 0 (c.wins.map (winE c)) = (0, 0)) {j : Nat} (hj : meetJ c.wins = (j : Int)) : winBad c = (21, 2, (j : Int)) := by
  unfold winBad
  rw [if_neg h0, h, hj]
  simp
theorem winBad_n {c : Cfg} (h0 : c.frame ≠ 0) (h : bad 0 (c.wins.map (winE c)) = (0, 0)) (hj : meetJ c.wins = -1) : winBad c = (0, 0, 0) := by
  unfold winBad
  rw [if_neg h0, h, hj]
  simp
theorem meetJ_hit {l : List Win} {n : Nat} (h : ∀ j, j < n → meetsAt l j = false) (hl : n < l.length) (hn : meetsAt l n = true) : meetJ l = (n : Int) := by
  unfold meetJ
  rw [List.find?_range_eq_some.2 ⟨hn, List.mem_range.2 hl, fun j hj => by rw [h j hj]; rfl⟩]
theorem meetJ_miss {l : List Win} (h : ∀ j, j < l.length → meetsAt l j = false) : meetJ l = -1 := by
  unfold meetJ
  have : (List.range l.length).find? (meetsAt l) = none := by
    rw [List.find?_eq_none]
    intro j hj
    rw [h j (List.mem_range.1 hj)]
    simp
  rw [this]
theorem meetsAt_some {l : List Win} {n : Nat} {y : Win} (hy : l[n]? = some y) : meetsAt l n = (l.take n).any fun x => meetW x y := by
  unfold meetsAt
  rw [hy]
theorem rSpanW_ok (x : Win) (w : World) : Calls Tryz.prog 126 #[.agg #[.int .u64 x.start, .int .u64 x.len, .int .u16 x.part]] w fun e w' => e = .returned (.agg #[.int .u64 x.start, .int .u64 x.len]) ∧ Below w.heap.size w w' := by
  obtain ⟨W1, hW, rb, hb1⟩ := WnBox.new w x 52
  obtain ⟨p0, p1, p2, hz⟩ := rb
  go_enter Tryz.func126, Tryz.ntmps126
  have hb2 := below_one W1 (.cells #[.int .u64 x.start, .int .u64 x.len] 183)
  go_wp2
  refine bodyPost_ret (v := .agg #[.int .u64 x.start, .int .u64 x.len]) (by simp [results, Tryz.results126, go_sem]) rfl ⟨rfl, ?_⟩
  exact Below.then_ hb1 hb2
theorem rMeetW_val (a b c d : Int) (w : World) (v : Bool) (hx : okSp a b) (hy : okSp c d) (hv : Hid (meetS ⟨a, b⟩ ⟨c, d⟩ = v)) :
    Calls Tryz.prog 125 #[.agg #[.int .u64 a, .int .u64 b], .agg #[.int .u64 c, .int .u64 d]] w fun e w' => e = .returned (.bool v) ∧ Below w.heap.size w w' := by
  have h := rMeet_ok ⟨a, b⟩ ⟨c, d⟩ w hx hy
  rwa [hv.out] at h
set_option maxRecDepth 100000 in
set_option maxHeartbeats 8000000 in
theorem rFrCheck_ok (c : Cfg) (A1 A2 A3 A4 A5 : Option Addr) (c1 c2 c3 c4 c5 : Nat) (w : World) (hR : CfgR w w.heap.size c A1 A2 A3 A4 A5 c1 c2 c3 c4 c5) (hs : c.small) (hok : c.ok) (ec sc ic : Int) (hv : Hid (winBad c = (ec, sc, ic))) : Calls Tryz.prog 74 #[cfgV c.frame A1 A2 A3 A4 A5 c.parts.length c.wins.length c.regs.length c.ports.length c.chans.length c1 c2 c3 c4 c5] w fun e w' => e = .returned (.tuple #[.int .i64 ec, .int .i64 sc, .int .i64 ic]) ∧ Below w.heap.size w w' := by
  have hbd := hs.bd
  have ST0 := Lib.hid (St.start hR 29)
  have bw := hbd.w
  have HOK := Lib.hid hok
  clear hR hbd hok
  by_cases hf : c.frame = 0
  · have HE := Lib.hid ((winBad_0 hf).symm.trans hv.out)
    obtain ⟨x0, x1, x2, x3, x4, x5, hz⟩ := ST0.out.cells
    have hf2 : (c.frame == 0) = true := by rw [hf]; rfl
    clear hf
    go_enter Tryz.func74, Tryz.ntmps74
    go_wp2
    go_ret3
    exact ⟨ret_tri (p := (17, 0, 0)) (q := (ec, sc, ic)) HE.out, ST0.out.bel⟩
  have hf2 : (c.frame == 0) = false := beq_eq_false_iff_ne.2 hf
  have HF := Lib.hid hf
  clear hf
  obtain ⟨x0, x1, x2, x3, x4, x5, hz⟩ := ST0.out.cells
  go_enter Tryz.func74, Tryz.ntmps74
  go_wp2
  clear x0 x1 x2 x3 x4 x5 hz
  go_loopw [5] (fun i wr => ∃ k : Nat, k ≤ c.wins.length ∧ i = .int .i64 k ∧ Hid (bad 0 (c.wins.map (winE c)) = bad k ((c.wins.map (winE c)).drop k)) ∧ Hid (St w (wr) c A1 A2 A3 A4 A5 c1 c2 c3 c4 c5)) (fun i _ => c.wins.length - (intOf i).toNat)
  case atStart => exact ⟨0, Nat.zero_le _, rfl, Lib.hid rfl, ST0⟩
  case round =>
    obtain ⟨k, hk, rfl, hrest, ST⟩ := hrel
    obtain ⟨x0, x1, x2, x3, x4, x5, hz⟩ := ST.out.cells
    by_cases hlt : k < c.wins.length
    · obtain ⟨x, hx⟩ := get_lt hlt
      have HRO := Lib.hid (HOK.out.wins x (List.mem_of_getElem? hx))
      obtain ⟨bb, o, rfl, hbb, g0, g1, g2⟩ := win_at ST.out.R.wins hx
      have HX := Lib.hid (show (c.wins.map (winE c))[k]? = some (winE c x) by simp [hx])
      clear hx
      have n0 : (0 : Int) ≤ (k : Int) := by omega
      have n1 : (k : Int) < (c.wins.length : Int) := by omega
      go_upto_region 7 with (fail)
      obtain ⟨W4, hW4, rb, hb4⟩ := WnBox.new wr x 52
      rw [hW4]
      have ST4 := Lib.hid (ST.out.up hb4)
      have HRB := Lib.hid rb
      clear hW4 hb4 rb g0 g1 g2 hbb x0 x1 x2 x3 x4 x5 hz
      obtain ⟨x0, x1, x2, x3, x4, x5, hz⟩ := ST4.out.cells
      obtain ⟨p0, p1, p2, hg⟩ := HRB.out
      obtain ⟨v, hv2⟩ : ∃ v, idx (fun y => y.id == x.part) c.parts = v := ⟨_, rfl⟩
      have HV := Lib.hid hv2
      by_cases hi : v < 0
      · have HC := Lib.hid (show winE c x = 19 by rw [winE_any, hv2, if_pos hi])
        have HE := Lib.hid ((winBad_e HF.out (bad_hit hrest.out HX.out (by rw [HC.out]; decide)) (by rw [HC.out]; decide)).symm.trans hv.out)
        clear hv2
        go_wp2_with fail
        refine (rPartition_valM c _ _ _ _ _ _ _ _ _ _ _ ST4.out.R hs x.part v HV).mono ?_
        rintro e w5 ⟨rfl, hb5⟩
        have HZ := Lib.hid (ST4.out.up hb5).bel
        clear hb5 x0 x1 x2 x3 x4 x5 hz p0 p1 p2 hg
        go_wp2
        go_ret3
        refine ⟨ret_tri (p := (19, 2, (k : Int))) (q := (ec, sc, ic)) ?_, HZ.out⟩
        rw [← HE.out, HC.out]
      · have HN := Lib.hid (show winE c x = if x.len = 0 ∨ c.frame < x.len ∨ c.frame - x.len < x.start then 20 else 0 by rw [winE_any, hv2, if_neg hi])
        have hi2 : decide (v < 0) = false := decide_eq_false hi
        clear hv2
        go_wp2_with fail
        refine (rPartition_valM c _ _ _ _ _ _ _ _ _ _ _ ST4.out.R hs x.part v HV).mono ?_
        rintro e w5 ⟨rfl, hb5⟩
        have ST5 := Lib.hid (ST4.out.up hb5)
        have HRB5 := Lib.hid (HRB.out.up hb5)
        clear hb5 x0 x1 x2 x3 x4 x5 hz p0 p1 p2 hg
        obtain ⟨p0, p1, p2, hg⟩ := HRB5.out
        obtain ⟨x0, x1, x2, x3, x4, x5, hz⟩ := ST5.out.cells
        by_cases h1 : x.len = 0 ∨ c.frame < x.len ∨ c.frame - x.len < x.start
        · have HC := Lib.hid (show winE c x = 20 by rw [HN.out, if_pos h1])
          have HE := Lib.hid ((winBad_e HF.out (bad_hit hrest.out HX.out (by rw [HC.out]; decide)) (by rw [HC.out]; decide)).symm.trans hv.out)
          by_cases q1 : x.len = 0
          · have q1b : (x.len == 0) = true := by rw [q1]; rfl
            clear h1 q1
            go_wp2
            go_ret3
            refine ⟨ret_tri (p := (20, 2, (k : Int))) (q := (ec, sc, ic)) ?_, ST5.out.bel⟩
            rw [← HE.out, HC.out]
          · have q1b : (x.len == 0) = false := beq_eq_false_iff_ne.2 q1
            by_cases q2 : c.frame < x.len
            · clear h1 q1
              go_wp2
              go_ret3
              refine ⟨ret_tri (p := (20, 2, (k : Int))) (q := (ec, sc, ic)) ?_, ST5.out.bel⟩
              rw [← HE.out, HC.out]
            · have q3 : c.frame - x.len < x.start := by omega
              have b1 := Go.bounds_u64 HRO.out.len
              have b2 := Go.bounds_u64 HOK.out.frame
              have q4 : IntKind.u64.wrap (c.frame - x.len) = c.frame - x.len := by rw [IntKind.wrap_u64]; omega
              have q2b : decide (c.frame < x.len) = false := decide_eq_false q2
              clear h1 q1 b1 b2 q2
              go_wp2
              go_ret3
              refine ⟨ret_tri (p := (20, 2, (k : Int))) (q := (ec, sc, ic)) ?_, ST5.out.bel⟩
              rw [← HE.out, HC.out]
        · have HC := Lib.hid (show winE c x = 0 by rw [HN.out, if_neg h1])
          have q1b : (x.len == 0) = false := beq_eq_false_iff_ne.2 (by omega)
          have q2b : decide (c.frame < x.len) = false := decide_eq_false (by omega)
          have q3b : decide (c.frame - x.len < x.start) = false := decide_eq_false (by omega)
          have b1 := Go.bounds_u64 HRO.out.len
          have b2 := Go.bounds_u64 HOK.out.frame
          have q4 : IntKind.u64.wrap (c.frame - x.len) = c.frame - x.len := by rw [IntKind.wrap_u64]; omega
          clear h1 b1 b2
          go_wp2
          go_roundw
          case rel => exact ⟨k + 1, by omega, by go_num, Lib.hid (bad_miss hrest.out (by rw [HX.out, HC.out])), ST5⟩
          case measure => simp [intOf]; omega
    · obtain rfl : k = c.wins.length := by omega
      have hrb : bad 0 (c.wins.map (winE c)) = (0, 0) := bad_end (l := c.wins.map (winE c)) (by simpa using hrest.out)
      have HRB := Lib.hid hrb
      have HSP := Lib.hid (win_okSp HOK.out hrb)
      clear hrb hrest
      generalize hwo : wr = wo at ST x0 x1 x2 x3 x4 x5 hz ⊢
      clear hwo
      go_wp2
      clear x0 x1 x2 x3 x4 x5 hz
      go_loopw [7, 8] (fun j _ wr => ∃ n : Nat, n ≤ c.wins.length ∧ j = .int .i64 n ∧ Hid (∀ j, j < n → meetsAt c.wins j = false) ∧ Hid (St w (wr) c A1 A2 A3 A4 A5 c1 c2 c3 c4 c5)) (fun j _ _ => c.wins.length - (intOf j).toNat)
      case atStart => exact ⟨0, Nat.zero_le _, rfl, Lib.hid (fun j hj => absurd hj (by omega)), ST⟩
      case round =>
        obtain ⟨n, hn, rfl, hrest, STn⟩ := hrel
        obtain ⟨x0, x1, x2, x3, x4, x5, hz⟩ := STn.out.cells
        by_cases hlt : n < c.wins.length
        · obtain ⟨y, hy⟩ := get_lt hlt
          have HY := Lib.hid hy
          have n0 : (0 : Int) ≤ (n : Int) := by omega
          have n1 : (n : Int) < (c.wins.length : Int) := by omega
          clear hy
          generalize hwo : wr = wp at STn x0 x1 x2 x3 x4 x5 hz ⊢
          clear hwo
          go_wp2
          clear x0 x1 x2 x3 x4 x5 hz
          go_loopw [8] (fun i wr => ∃ m : Nat, m ≤ n ∧ i = .int .i64 m ∧ Hid ((c.wins.take m).any (fun x => meetW x y) = false) ∧ Hid (St w (wr) c A1 A2 A3 A4 A5 c1 c2 c3 c4 c5)) (fun i _ => n - (intOf i).toNat)
          case atStart => exact ⟨0, Nat.zero_le _, rfl, Lib.hid rfl, STn⟩
          case round =>
            obtain ⟨m, hm, rfl, HM, STm⟩ := hrel
            by_cases hml : m < n
            · obtain ⟨x, hx⟩ := get_lt (show m < c.wins.length by omega)
              have HX := Lib.hid hx
              have hox := HSP.out x (List.mem_of_getElem? hx)
              have hoy := HSP.out y (List.mem_of_getElem? HY.out)
              obtain ⟨bb, o, rfl, hbb, g0, g1, g2⟩ := win_at STm.out.R.wins hx
              obtain ⟨b2, o2, e2, hbb2, k0, k1, k2⟩ := win_at STm.out.R.wins HY.out
              obtain ⟨rfl, rfl⟩ : bb = b2 ∧ o = o2 := by simpa using e2
              have m0 : (0 : Int) ≤ (m : Int) := by omega
              have m1 : (m : Int) < (c.wins.length : Int) := by omega
              obtain ⟨x0, x1, x2, x3, x4, x5, hz⟩ := STm.out.cells
              obtain ⟨vm, hvm⟩ : ∃ v, meetW x y = v := ⟨_, rfl⟩
              have HVM := Lib.hid hvm
              have HM2 := Lib.hid (show meetS ⟨x.start, x.len⟩ ⟨y.start, y.len⟩ = vm from (meetW_iff hox hoy).symm.trans hvm)
              have HOX := Lib.hid hox
              have HOY := Lib.hid hoy
              clear hx e2 hvm hox hoy
              cases vm
              · go_wp2_with fail
                refine wp_region_ext (by kernel_rfl) (by kernel_rfl) ?_
                repeat (go_big_quiet_step (fail))
                go_big_quiet_step ((go_at_call 126; exact Calls.quiet_ext (rSpanW_ok x _)))
                repeat (go_big_quiet_step (fail))
                go_big_quiet_step ((go_at_call 126; exact Calls.quiet_ext (rSpanW_ok y _)))
                repeat (go_big_quiet_step (fail))
                go_big_quiet_step ((go_at_call 125; exact Calls.quiet_ext (rMeetW_val _ _ _ _ _ _ HOX.out HOY.out HM2)))
                repeat (go_big_quiet_step (fail))
                refine wpQuiet_nil ?_
                intro xq
                go_wp2
                go_roundw
                case rel => exact ⟨m + 1, by omega, by go_num, Lib.hid (by rw [take_next HX.out, List.any_append, HM.out]; simp [HVM.out]), Lib.hid (STm.out.ext xq)⟩
                case measure => simp [intOf]; omega
              · have HAT := Lib.hid (show meetsAt c.wins n = true by rw [meetsAt_some HY.out, List.any_eq_true]; exact ⟨x, List.mem_iff_getElem?.2 ⟨m, by rw [List.getElem?_take, if_pos hml]; exact HX.out⟩, HVM.out⟩)
                have HE := Lib.hid ((winBad_j HF.out HRB.out (meetJ_hit hrest.out hlt HAT.out)).symm.trans hv.out)
                go_wp2_with fail
                refine wp_region_ext (by kernel_rfl) (by kernel_rfl) ?_
                repeat (go_big_quiet_step (fail))
                go_big_quiet_step ((go_at_call 126; exact Calls.quiet_ext (rSpanW_ok x _)))
                repeat (go_big_quiet_step (fail))
                go_big_quiet_step ((go_at_call 126; exact Calls.quiet_ext (rSpanW_ok y _)))
                repeat (go_big_quiet_step (fail))
                go_big_quiet_step ((go_at_call 125; exact Calls.quiet_ext (rMeetW_val _ _ _ _ _ _ HOX.out HOY.out HM2)))
                repeat (go_big_quiet_step (fail))
                refine wpQuiet_nil ?_
                intro xq
                go_wp2
                go_ret3
                exact ⟨ret_tri (p := (21, 2, (n : Int))) (q := (ec, sc, ic)) HE.out, (STm.out.ext xq).bel⟩
            · obtain rfl : m = n := by omega
              have HC := Lib.hid (show ∀ j, j < m + 1 → meetsAt c.wins j = false from fun j hj => by
                rcases Nat.eq_or_lt_of_le (Nat.lt_succ_iff.1 hj) with q | q
                · rw [q, meetsAt_some HY.out]; exact HM.out
                · exact hrest.out j q)
              obtain ⟨x0, x1, x2, x3, x4, x5, hz⟩ := STm.out.cells
              go_wp2
              go_roundw
              case rel => exact ⟨m + 1, by omega, by go_num, HC, STm⟩
              case measure => simp [intOf]; omega
        · obtain rfl : n = c.wins.length := by omega
          have HE := Lib.hid ((winBad_n HF.out HRB.out (meetJ_miss hrest.out)).symm.trans hv.out)
          go_wp2
          go_ret3
          exact ⟨ret_tri (p := (0, 0, 0)) (q := (ec, sc, ic)) HE.out, STn.out.bel⟩
end Go.Proofs.YtpedlbjbbcbbkaaGreat
