/-
  Gaps of package sweep, walked: the gaps below the last number.
-/
import Derived.BigQuiet
import Derived.Deep.AppendLies
import Derived.Laws.EntriesVeiled
import Derived.Test.YtoolcolbmkicpaaGreatSwpB
import Derived.Test.YtoolcolbmkicpaaGreatBytP
namespace Go.Proofs.YtoolcolbmkicpaaGreat
open Go.RowKit
attribute [local go_sem] ext_cell
theorem infoSpanG : (Tryz.prog.info? 57).map (fun i => (i.zero, i.size, i.bytes)) = some (some (.agg #[.int .u64 0, .int .u64 0]), 2, 16) := by kernel_rfl
def addV (g : Nat) : Value := .func (.func 40) #[] #[.pointer (some ⟨g + 2, 0, none⟩), .pointer (some ⟨g + 1, 0, none⟩), .pointer (some ⟨g, 0, none⟩)]
/-- the variables that the closures of Gaps share: the gaps, the next number, whether there is none -/
structure GBox (W : World) (g : Nat) (v : Value) (next : Int) (full : Bool) (out : List Spn) : Prop where
  k0 : Blk W g 52 #[v]
  k1 : Blk W (g + 1) 22 #[.int .u64 next]
  k2 : Blk W (g + 2) 4 #[.bool full]
  k3 : Blk W (g + 3) 91 #[addV g]
  own : W.ownsRow (g + 4) 57 2 v out.length (out.flatMap Spn.cells)
theorem KeepQ.set_ {W : World} {k : Nat} {t : TypeId} {cs : Array Value} (h : Blk W k t cs) (h1 : t ≠ 136) (h2 : t ≠ 94) (i : Nat) (u : Value) : KeepQ W (W.setCell ⟨k, i, none⟩ u) := by
  refine ⟨rfl, rfl, rfl, by simp [World.setCell], fun j cs' t' fr hh ht => Below.heap_setCell _ _ _ j fun e => ?_⟩
  have e : j = k := e
  subst e
  unfold Blk at h
  rw [h] at hh
  injection hh with hh
  injection hh with _ hh _
  subst hh
  rcases ht with e | e
  · exact h1 e
  · exact h2 e
section
variable {W V : World} {g : Nat} {v v' : Value} {next : Int} {full : Bool} {out : List Spn}
theorem GBox.up (h : GBox W g v next full out) (hb : Below W.heap.size W V) : GBox V g v next full out :=
  ⟨h.k0.below hb h.k0.lt, h.k1.below hb h.k1.lt, h.k2.below hb h.k2.lt, h.k3.below hb h.k3.lt, own_below h.own hb⟩
theorem GBox.cells (h : GBox W g v next full out) : W.cell? ⟨g, 0, none⟩ = some v ∧ W.cell? ⟨g + 1, 0, none⟩ = some (.int .u64 next) ∧ W.cell? ⟨g + 2, 0, none⟩ = some (.bool full) ∧ g < W.heap.size ∧ g + 1 < W.heap.size ∧ g + 2 < W.heap.size := by
  refine ⟨?_, ?_, ?_, h.k0.lt, h.k1.lt, h.k2.lt⟩
  · have := h.k0.cell 0; simpa using this
  · have := h.k1.cell 0; simpa using this
  · have := h.k2.cell 0; simpa using this
theorem GBox.setNext (h : GBox W g v next full out) (n : Int) : GBox (W.setCell ⟨g + 1, 0, none⟩ (.int .u64 n)) g v n full out := by
  refine ⟨h.k0.far (p := ⟨g + 1, 0, none⟩) (by show g ≠ g + 1; omega) _, ?_, h.k2.far (p := ⟨g + 1, 0, none⟩) (by show g + 2 ≠ g + 1; omega) _, h.k3.far (p := ⟨g + 1, 0, none⟩) (by show g + 3 ≠ g + 1; omega) _, own_set h.own (p := ⟨g + 1, 0, none⟩) (by show g + 1 < g + 4; omega) _⟩
  have := h.k1.set_ 0 (.int .u64 n); simpa using this
theorem GBox.setFull (h : GBox W g v next full out) (b : Bool) : GBox (W.setCell ⟨g + 2, 0, none⟩ (.bool b)) g v next b out := by
  refine ⟨h.k0.far (p := ⟨g + 2, 0, none⟩) (by show g ≠ g + 2; omega) _, h.k1.far (p := ⟨g + 2, 0, none⟩) (by show g + 1 ≠ g + 2; omega) _, ?_, h.k3.far (p := ⟨g + 2, 0, none⟩) (by show g + 3 ≠ g + 2; omega) _, own_set h.own (p := ⟨g + 2, 0, none⟩) (by show g + 2 < g + 4; omega) _⟩
  have := h.k2.set_ 0 (.bool b); simpa using this
theorem GBox.push (h : GBox W g v next full out) {x : Spn} (hown : V.ownsRow (g + 4) 57 2 v' (out.length + 1) (out.flatMap Spn.cells ++ x.cells)) (hg : W.grownBy V v.ownBlock) :
    GBox (V.setCell ⟨g, 0, none⟩ v') g v' next full (out ++ [x]) ∧ Below g W (V.setCell ⟨g, 0, none⟩ v') ∧ KeepQ W (V.setCell ⟨g, 0, none⟩ v') := by
  have ho := Off.of_own h.own hg
  have hlt := h.k0.lt
  have k0 := (h.k0.off ho (by decide)).set_ 0 v'
  have hb : Below g W V := ⟨ho.os, ho.tape, ho.output, ho.size, fun k hk => hg.block k (by omega) (fun e => by have := (h.own.lt k e.symm).1; omega)⟩
  refine ⟨⟨by simpa using k0, (h.k1.off ho (by decide)).far (p := ⟨g, 0, none⟩) (by show g + 1 ≠ g; omega) _, (h.k2.off ho (by decide)).far (p := ⟨g, 0, none⟩) (by show g + 2 ≠ g; omega) _, (h.k3.off ho (by decide)).far (p := ⟨g, 0, none⟩) (by show g + 3 ≠ g; omega) _, ?_⟩, hb.setCell (Nat.le_refl _) _, ?_⟩
  · have := own_set hown (p := ⟨g, 0, none⟩) (by show g < g + 4; omega) v'
    rw [List.length_append, List.flatMap_append]
    simpa using this
  · have hk : KeepQ W V := ⟨ho.os, ho.tape, ho.output, ho.size, fun k cs t fr hh ht => ho.block k (Array.getElem?_eq_some_iff.1 hh).1 fun cs' fr' e => by
      rw [hh] at e
      injection e with e
      injection e with _ e
      subst e
      rcases ht with e | e <;> exact absurd e (by decide)⟩
    exact hk.trans (KeepQ.set_ (h.k0.off ho (by decide)) (by decide) (by decide) 0 v')
theorem GBox.st (h : GBox W g v next full out) (ho : OffQ (g + 4) W V) : GBox V g v next full out := by
  refine ⟨(ho.block _ h.k0.lt (.inl (by omega))).trans h.k0, (ho.block _ h.k1.lt (.inl (by omega))).trans h.k1, (ho.block _ h.k2.lt (.inl (by omega))).trans h.k2, (ho.block _ h.k3.lt (.inl (by omega))).trans h.k3, h.own.1, ?_⟩
  rcases h.own.2 with h3 | ⟨b, cap, cur, rfl, hb, hh, r⟩
  · exact .inl h3
  · refine .inr ⟨b, cap, cur, rfl, hb, (ho.block b (Array.getElem?_eq_some_iff.1 hh).1 (.inr ⟨fun cs fr e => ?_, fun cs fr e => ?_⟩)).trans hh, r⟩
    · rw [hh] at e; injection e with e; injection e with _ e; exact absurd e (by decide)
    · rw [hh] at e; injection e with e; injection e with _ e; exact absurd e (by decide)
end
set_option maxRecDepth 100000 in
set_option maxHeartbeats 4000000 in
theorem gapAdd_ok {W : World} {g : Nat} {v : Value} {next : Int} {full : Bool} {out : List Spn} (h : GBox W g v next full out) (hn : 0 ≤ next ∧ next ≤ 18446744073709551615) (hl : out.length ≤ 4194304) (e : Int) (he : 0 ≤ e ∧ e ≤ 18446744073709551615) :
    Calls Tryz.prog 40 #[.int .u64 e, .pointer (some ⟨g + 2, 0, none⟩), .pointer (some ⟨g + 1, 0, none⟩), .pointer (some ⟨g, 0, none⟩)] W fun r W' => r = .returned (.tuple #[]) ∧ (∃ v', GBox W' g v' next full (gapAdd next full out e)) ∧ Below g W W' ∧ KeepQ W W' := by
  obtain ⟨i0, hi, hz0, hz1, hz2⟩ := info_parts infoSpanG
  obtain ⟨x0, x1, x2, l0, l1, l2⟩ := h.cells
  have H := Lib.hid h
  clear h
  have HB := Lib.hid (Below.refl g W)
  have HK := Lib.hid (KeepQ.of_below (Below.refl W.heap.size W))
  cases full
  · by_cases hlt : next < e
    · have HG := Lib.hid (show gapAdd next false out e = out ++ [⟨next, e - next⟩] by unfold gapAdd; rw [if_pos ⟨rfl, hlt⟩])
      have hw : IntKind.u64.wrap (e - next) = e - next := by rw [IntKind.wrap_u64]; omega
      obtain ⟨A, a, rfl, _⟩ := own_form H.out.own
      have hal := below_one W (.cells #[.int .u64 next, .int .u64 (e - next)] 57)
      have H1 := Lib.hid (H.out.up hal)
      have hgw := H.out.k3.lt
      have HAL := Lib.hid hal
      clear hal
      go_enter Tryz.func40, Tryz.ntmps40
      go_wp2_with (at_builtin; go_loud (refine wpList_append_lies _ rfl (.tmp 12) (.tmp 18) _ rfl (g + 4) 57 i0 (.agg #[.int .u64 0, .int .u64 0]) 2 16 Tryz.underlying52 hi hz0 hz1 hz2 rfl (by decide) _ _ _ rfl H1.out.own ⟨W.heap.size, 0, none⟩ 1 1 [.int .u64 next, .int .u64 (e - next)] rfl rfl (World.news_of_block (heap_alloc_new W _)) (by intro u hu; simp at hu; rcases hu with rfl | rfl <;> rfl) (by omega) (by unfold maxLen; omega) (by omega) (by simp; omega) _ rfl ?_); intro g2 cap w7 hown hg2 hat hlt7; have hkk := H1.out.k0.off (Off.of_own H1.out.own hg2) (by decide); have c7 := hkk.cell 0; have f7 := hkk.frozen 0; have z7 := hkk.lt; simp at c7)
      have HP := H1.out.push (x := ⟨next, e - next⟩) hown hg2
      go_end0
      exact ⟨rfl, ⟨_, by rw [HG.out]; exact HP.1⟩, (HAL.out.mono (by omega)).trans HP.2.1, (KeepQ.of_below HAL.out).trans HP.2.2⟩
    · have HG := Lib.hid (show gapAdd next false out e = out by unfold gapAdd; rw [if_neg (fun q => hlt q.2)])
      go_enter Tryz.func40, Tryz.ntmps40
      go_wp2
      go_end0
      exact ⟨rfl, ⟨_, by rw [HG.out]; exact H.out⟩, HB.out, HK.out⟩
  · have HG := Lib.hid (show gapAdd next true out e = out by unfold gapAdd; simp)
    go_enter Tryz.func40, Tryz.ntmps40
    go_wp2
    go_end0
    exact ⟨rfl, ⟨_, by rw [HG.out]; exact H.out⟩, HB.out, HK.out⟩
/-- what the callback of Gaps keeps -/
def GJ (w0 : World) (g : Nat) (d : List Itm) (W : World) : Prop := ∃ v next full out m, GBox W (g + 1) v next full out ∧ Blk W g 22 #[.int .u64 18446744073709551615] ∧ GapSt d next full out m ∧ Below g w0 W
set_option maxRecDepth 100000 in
set_option maxHeartbeats 4000000 in
theorem gapFn_ok {w0 W : World} {g : Nat} {d : List Itm} {x : Itm} {A : Option Addr} {c n : Nat} (hd : d.length ≤ 1048576) (hx : okItm x) (hle : ∀ y ∈ d, y.lo ≤ x.lo) (hj : GJ w0 g d W) :
    Calls Tryz.prog 42 #[x.val, .slice A n c, .pointer (some ⟨g + 1 + 3, 0, none⟩), .pointer (some ⟨g, 0, none⟩), .pointer (some ⟨g + 1 + 2, 0, none⟩), .pointer (some ⟨g + 1 + 1, 0, none⟩)] W fun r W' => r = .returned (.tuple #[]) ∧ GJ w0 g (d ++ [x]) W' ∧ KeepQ W W' := by
  obtain ⟨v, next, full, out, m, hbx, htot, hgs, hbel⟩ := hj
  have hx0 : 0 ≤ x.lo := hx.1
  have hx1 : 1 ≤ x.len := hx.2.1
  have hx2 : x.lo + x.len ≤ 18446744073709551616 := hx.2.2
  obtain ⟨m2, hgs2⟩ := hgs.more hx hle
  have HX := Lib.hid hx
  have HGS := Lib.hid hgs
  have HGS2 := Lib.hid hgs2
  have HBEL := Lib.hid hbel
  have hal := below_one W (.cells #[.int .u64 x.lo, .int .u64 x.len, .int .i64 x.idx] 94)
  have bk := Blk.new W 94 #[.int .u64 x.lo, .int .u64 x.len, .int .i64 x.idx]
  have HBX := Lib.hid (hbx.up hal)
  have HT := Lib.hid (htot.below hal htot.lt)
  have HAL := Lib.hid hal
  have hent : ∀ a w, (callFunc 40 a).run Tryz.prog w = .ok (.enter 40 a) w := enters_of Tryz.func40 (by kernel_rfl) rfl
  have hmin : min x.lo 18446744073709551615 = x.lo := by omega
  have hgl := htot.lt
  clear hbx htot hgs hgs2 hbel
  go_enter Tryz.func42, Tryz.ntmps42
  go_upto_region 1 with (fail)
  generalize World.alloc W _ = W1 at hal bk HBX HT HAL ⊢
  have HBK := Lib.hid bk
  generalize hgx : W.heap.size = gx at *
  have p0 := HBK.out.cell 0
  have pl := HBK.out.lt
  have t0 := HT.out.cell 0
  have tl := HT.out.lt
  have a0 := HBX.out.k3.cell 0
  have al := HBX.out.k3.lt
  simp at p0 t0 a0
  unfold addV at a0
  clear hal bk
  go_wp2_with fail
  refine (gapAdd_ok HBX.out ⟨HGS.out.n0, HGS.out.n1⟩ (by have := HGS.out.len; omega) x.lo ⟨hx0, by omega⟩).mono ?_
  rintro e w2 ⟨rfl, ⟨v2, hb2⟩, hbe2, hk2⟩
  have HB2 := Lib.hid hb2
  have HK2 := Lib.hid ((KeepQ.of_below (by rw [hgx]; exact HAL.out)).trans hk2)
  have HBK2 := Lib.hid (HBK.out.keepq hk2)
  have HT2 := Lib.hid (HT.out.below hbe2 (Nat.lt_succ_self g))
  have HBE2 := Lib.hid (HBEL.out.trans ((HAL.out.mono (by omega)).trans (hbe2.mono (Nat.le_succ _))))
  clear hb2 hbe2 hk2 p0 pl t0 tl a0 al
  have p0 := HBK2.out.cell 0
  have p1 := HBK2.out.cell 1
  have pl := HBK2.out.lt
  simp at p0 p1
  go_wp2_with fail
  refine (spanLast_ok x.lo x.len _ HX.out).mono ?_
  rintro e w3 ⟨rfl, hb3⟩
  have HB3 := Lib.hid (HB2.out.up hb3)
  have HK3 := Lib.hid (HK2.out.trans (KeepQ.of_below hb3))
  have HT3 := Lib.hid (HT2.out.below hb3 HT2.out.lt)
  have HBE3 := Lib.hid (HBE2.out.trans (hb3.mono (Nat.le_of_lt HT2.out.lt)))
  clear hb3 p0 p1 pl
  by_cases ht : lastOf x = 18446744073709551615
  · have hd : (x.lo + x.len - 1 == 18446744073709551615) = true := by unfold lastOf at ht; simpa using ht
    have HN := Lib.hid (show gapNext next x = next from if_pos ht)
    have HF := Lib.hid (show gapFull full x = true from if_pos ht)
    have c2 := HB3.out.k2.cell 0
    have f2 := HB3.out.k2.frozen 0
    have l2 := HB3.out.k2.lt
    simp at c2
    clear ht
    go_wp2
    go_end0
    refine ⟨rfl, ⟨v2, next, true, _, m2, HB3.out.setFull true, HT3.out.far (p := ⟨g + 1 + 2, 0, none⟩) (by show g ≠ g + 1 + 2; omega) _, ?_, HBE3.out.setCell (p := ⟨g + 1 + 2, 0, none⟩) (by show g ≤ g + 1 + 2; omega) _⟩, HK3.out.trans (KeepQ.set_ HB3.out.k2 (by decide) (by decide) 0 _)⟩
    have h := HGS2.out
    rw [HN.out, HF.out] at h
    exact h
  · have hd : (x.lo + x.len - 1 == 18446744073709551615) = false := by unfold lastOf at ht; simpa using ht
    have HN := Lib.hid (show gapNext next x = max next (x.lo + x.len) by unfold gapNext; rw [if_neg ht]; unfold lastOf; omega)
    have HF := Lib.hid (show gapFull full x = full from if_neg ht)
    have hw : IntKind.u64.wrap (x.lo + x.len) = x.lo + x.len := by unfold lastOf at ht; rw [IntKind.wrap_u64]; omega
    have c1 := HB3.out.k1.cell 0
    have f1 := HB3.out.k1.frozen 0
    have l1 := HB3.out.k1.lt
    simp at c1
    clear ht
    go_wp2
    go_end0
    refine ⟨rfl, ⟨v2, max next (x.lo + x.len), full, _, m2, HB3.out.setNext _, HT3.out.far (p := ⟨g + 1 + 1, 0, none⟩) (by show g ≠ g + 1 + 1; omega) _, ?_, HBE3.out.setCell (p := ⟨g + 1 + 1, 0, none⟩) (by show g ≤ g + 1 + 1; omega) _⟩, HK3.out.trans (KeepQ.set_ HB3.out.k1 (by decide) (by decide) 0 _)⟩
    have h := HGS2.out
    rw [HN.out, HF.out] at h
    exact h
theorem gap_cb (w0 : World) (g : Nat) (l : List Spn) (hlen : l.length ≤ 1048576) : Cb 42 #[.pointer (some ⟨g + 1 + 3, 0, none⟩), .pointer (some ⟨g, 0, none⟩), .pointer (some ⟨g + 1 + 2, 0, none⟩), .pointer (some ⟨g + 1 + 1, 0, none⟩)] (g + 1 + 4) (itemsOf l) (GJ w0 g) where
  ent := enters_of Tryz.func42 (by kernel_rfl) rfl
  st d W V h ho := by
    obtain ⟨v, next, full, out, m, h1, h2, h3, h4⟩ := h
    have hs := h2.lt
    exact ⟨v, next, full, out, m, h1.st ho, (ho.block _ h2.lt (.inl (by omega))).trans h2, h3, ⟨ho.os.trans h4.os, ho.tape.trans h4.tape, ho.output.trans h4.output, Nat.le_trans h4.size ho.size, fun k hk => (ho.block k (by omega) (.inl (by omega))).trans (h4.block k hk)⟩⟩
  call d op r x A c W hx hle hop hp hB hj hR := by
    have hd : d.length < l.length := by
      have := hp.length_eq
      rw [itemsOf_len] at this
      simp at this
      omega
    exact gapFn_ok (by omega) hx hle hj
theorem gap_start (w : World) : ∃ W, (((((w.alloc (.cells #[.int .u64 18446744073709551615] 22)).alloc (.cells #[.slice none 0 0] 52)).alloc (.cells #[.int .u64 0] 22)).alloc (.cells #[.bool false] 4)).alloc (.cells #[addV (w.heap.size + 1)] 91)) = W ∧ W.heap.size = w.heap.size + 1 + 4 ∧ GJ w w.heap.size [] W := by
  refine ⟨_, rfl, by simp, .slice none 0 0, 0, false, [], 0, ⟨?_, ?_, ?_, ?_, World.ownsRow_nil _ _ _ _⟩, ?_, GapSt.start, Below.then_ (Below.then_ (Below.then_ (Below.then_ (below_one _ _) (below_one _ _)) (below_one _ _)) (below_one _ _)) (below_one _ _)⟩
  · have h := Blk.new (w.alloc (.cells #[.int .u64 18446744073709551615] 22)) 52 #[.slice none 0 0]
    have h2 := ((h.alloc (.cells #[.int .u64 0] 22)).alloc (.cells #[.bool false] 4)).alloc (.cells #[addV (w.heap.size + 1)] 91)
    simpa using h2
  · have h := Blk.new ((w.alloc (.cells #[.int .u64 18446744073709551615] 22)).alloc (.cells #[.slice none 0 0] 52)) 22 #[.int .u64 0]
    have h2 := (h.alloc (.cells #[.bool false] 4)).alloc (.cells #[addV (w.heap.size + 1)] 91)
    simpa using h2
  · have h := Blk.new (((w.alloc (.cells #[.int .u64 18446744073709551615] 22)).alloc (.cells #[.slice none 0 0] 52)).alloc (.cells #[.int .u64 0] 22)) 4 #[.bool false]
    have h2 := h.alloc (.cells #[addV (w.heap.size + 1)] 91)
    simpa using h2
  · have h := Blk.new ((((w.alloc (.cells #[.int .u64 18446744073709551615] 22)).alloc (.cells #[.slice none 0 0] 52)).alloc (.cells #[.int .u64 0] 22)).alloc (.cells #[.bool false] 4)) 91 #[addV (w.heap.size + 1)]
    simpa using h
  · have h := Blk.new w 22 #[.int .u64 18446744073709551615]
    exact (((h.alloc _).alloc _).alloc _).alloc _
set_option maxRecDepth 100000 in
set_option maxHeartbeats 4000000 in
theorem gaps_ok {w : World} {l : List Spn} {A : Option Addr} {cp : Nat} (hlen : l.length ≤ 1048576) (hsp : ∀ s ∈ l, okSp s.lo s.len) (hR : Rd w w.heap.size 2 A l.length (l.flatMap Spn.cells)) :
    Calls Tryz.prog 20 #[.int .u64 18446744073709551615, .slice A l.length cp] w fun e w' => ∃ (v : Value) (o : List Spn) (d : List Itm), e = .returned v ∧ w'.ownsRow w.heap.size 57 2 v o.length (o.flatMap Spn.cells) ∧ d.Perm (itemsOf l) ∧ ((∀ y ∈ o, okS y ∧ y.lo + y.len ≤ 18446744073709551615) ∧ Apart o ∧ o.length ≤ d.length + 1 ∧ ∀ a : Int, 0 ≤ a → a < 18446744073709551615 → (hasL o a ↔ ∀ y ∈ d, ¬ covI y a)) ∧ Below w.heap.size w w' := by
  obtain ⟨W0, hW, hsz, hj⟩ := gap_start w
  have HJ := Lib.hid hj
  have HW := Lib.hid hW
  have HSP := Lib.hid hsp
  have hb0 : Below w.heap.size w W0 := by obtain ⟨_, _, _, _, _, _, _, _, h⟩ := hj; exact h
  have HR := Lib.hid (hR.up hb0)
  have HB0 := Lib.hid hb0
  have HSZ := Lib.hid hsz
  have hent : ∀ a w, (callFunc 40 a).run Tryz.prog w = .ok (.enter 40 a) w := enters_of Tryz.func40 (by kernel_rfl) rfl
  clear hj hW hsp hR hb0 hsz
  go_enter Tryz.func20, Tryz.ntmps20
  go_upto_region 4 with (fail)
  have hW := HW.out
  unfold addV at hW
  rw [hW]
  clear hW
  go_wp2_with fail
  refine (visit_ok hlen HSP.out HR.out (by rw [HSZ.out]; exact gap_cb w w.heap.size l hlen) HJ.out).mono ?_
  rintro e w2 ⟨rfl, d, hp, hj2⟩
  obtain ⟨v, next, full, out, m, hbx, htot, hgs, hbel⟩ := hj2
  have HP := Lib.hid hp
  have HBX := Lib.hid hbx
  have HGS := Lib.hid hgs
  have HBEL := Lib.hid hbel
  have HDL := Lib.hid (show d.length ≤ 1048576 by have := hp.length_eq; rw [itemsOf_len] at this; omega)
  have t0 := htot.cell 0
  have tl := htot.lt
  have a0 := hbx.k3.cell 0
  have al := hbx.k3.lt
  simp at t0 a0
  unfold addV at a0
  clear hp hbx htot hgs hbel
  go_wp2_with fail
  refine (gapAdd_ok HBX.out ⟨HGS.out.n0, HGS.out.n1⟩ (by have := HGS.out.len; have := HDL.out; omega) 18446744073709551615 (by omega)).mono ?_
  rintro e w3 ⟨rfl, ⟨v3, hb3⟩, hbe3, hk3⟩
  obtain ⟨o, ho⟩ : ∃ o, gapAdd next full out 18446744073709551615 = o := ⟨_, rfl⟩
  have HD := Lib.hid (HGS.out.done ho)
  rw [ho] at hb3
  have HB3 := Lib.hid hb3
  have HZ := Lib.hid (HBEL.out.trans (hbe3.mono (Nat.le_succ _)))
  obtain ⟨y0, _, _, z0, _, _⟩ := hb3.cells
  clear ho hb3 hbe3 hk3 t0 tl a0 al
  go_wp2
  go_ret
  exact ⟨v3, o, d, rfl, own_lessM HB3.out.own (by omega), HP.out, HD.out, HZ.out⟩
end Go.Proofs.YtoolcolbmkicpaaGreat
