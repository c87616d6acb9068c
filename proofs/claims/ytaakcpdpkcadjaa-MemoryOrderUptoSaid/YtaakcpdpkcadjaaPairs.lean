/-
  What Pairs of package sweep returns, walked: the pairs of spans that overlap, in some order first.
-/
import Derived.Test.YtaakcpdpkcadjaaVisit
namespace Go.Proofs.Ytaakcpdpkcadjaa
open Go.RowKit Go.Shelf
structure Pr where
  i : Int
  j : Int
def Pr.cells (x : Pr) : List Value := [.int .i64 x.i, .int .i64 x.j]
theorem onePr (l : List Pr) : ∀ u ∈ l.flatMap Pr.cells, u.oneCell' = true := by
  intro u hu
  obtain ⟨x, _, hx⟩ := List.mem_flatMap.1 hu
  simp [Pr.cells] at hx
  rcases hx with rfl | rfl <;> rfl
theorem pr_at {w : World} {B : Nat} {A : Option Addr} {l : List Pr} {k : Nat} {x : Pr} (h : Rd w B 2 A l.length (l.flatMap Pr.cells)) (hk : l[k]? = some x) :
    ∃ b o, A = some ⟨b, o, none⟩ ∧ b < B ∧ w.cell? ⟨b, o + k * 2, none⟩ = some (.int .i64 x.i) ∧ w.cell? ⟨b, o + k * 2 + 1, none⟩ = some (.int .i64 x.j) := by
  obtain ⟨b, o, e, hb, hc⟩ := Rd.get (f := Pr.cells) (sz := 2) (fun _ => rfl) h hk
  exact ⟨b, o, e, hb, hc 0 _ rfl, hc 1 _ rfl⟩
theorem infoPr : (Try.prog.info? 106).map (fun i => (i.zero, i.size, i.bytes)) = some (some (.agg #[.int .i64 0, .int .i64 0]), 2, 16) := by kernel_rfl
def prOf (x y : Itm) : Pr := ⟨min x.idx y.idx, max x.idx y.idx⟩
def PairsOf (d : List Itm) (L : List Pr) : Prop := ∀ p, p ∈ L ↔ ∃ x ∈ d, ∃ y ∈ d, x.idx ≠ y.idx ∧ x.lo ≤ lastOf y ∧ y.lo ≤ lastOf x ∧ p = prOf x y
theorem prOf_comm (x y : Itm) : prOf x y = prOf y x := by unfold prOf; rw [Int.min_comm, Int.max_comm]
theorem PairsOf.next {d op : List Itm} {x : Itm} {L : List Pr} (h : PairsOf d L) (hx : okItm x) (hle : ∀ y ∈ d, y.lo ≤ x.lo) (hop : op.Perm (d.filter fun y => decide (x.lo ≤ lastOf y))) (hne : ∀ y ∈ d, x.idx ≠ y.idx) : PairsOf (d ++ [x]) (L ++ op.map (prOf x)) := by
  have hlast : x.lo ≤ lastOf x := by have := hx.2.1; unfold lastOf; omega
  intro p
  rw [List.mem_append, h p, List.mem_map]
  constructor
  · rintro (⟨a, ha, b, hb, r⟩ | ⟨y, hy, rfl⟩)
    · exact ⟨a, by simp [ha], b, by simp [hb], r⟩
    · have hy2 := List.mem_filter.1 (hop.mem_iff.1 hy)
      have h3 : x.lo ≤ lastOf y := by simpa using hy2.2
      exact ⟨x, by simp, y, by simp [hy2.1], hne y hy2.1, h3, Int.le_trans (hle y hy2.1) hlast, rfl⟩
  · rintro ⟨a, ha, b, hb, hab, h1, h2, rfl⟩
    have aux : ∀ z ∈ d, x.lo ≤ lastOf z → z ∈ op := fun z hz hl => hop.mem_iff.2 (List.mem_filter.2 ⟨hz, by simpa using hl⟩)
    rcases List.mem_append.1 ha with ha | ha <;> rcases List.mem_append.1 hb with hb | hb
    · exact .inl ⟨a, ha, b, hb, hab, h1, h2, rfl⟩
    · have e : b = x := by simpa using hb
      rw [e] at h2 ⊢
      exact .inr ⟨a, aux a ha h2, prOf_comm _ _⟩
    · have e : a = x := by simpa using ha
      rw [e] at h1 ⊢
      exact .inr ⟨b, aux b hb h1, rfl⟩
    · have e1 : a = x := by simpa using ha
      have e2 : b = x := by simpa using hb
      rw [e1, e2] at hab
      exact absurd rfl hab
theorem idx_nodup (l : List Spn) : ((itemsOf l).map (·.idx)).Nodup := by
  have e : (itemsOf l).map (·.idx) = (List.range l.length).map (fun k : Nat => (k : Int)) := by
    apply List.ext_getElem?
    intro k
    rw [List.getElem?_map, List.getElem?_map]
    by_cases hk : k < l.length
    · obtain ⟨s, hs⟩ := get_lt hk
      rw [itemsOf_at.2 ⟨s, hs, rfl⟩, List.getElem?_range hk]; rfl
    · rw [List.getElem?_eq_none (by rw [itemsOf_len]; omega), List.getElem?_eq_none (by simp; omega)]; rfl
  rw [e]
  exact List.Pairwise.map _ (fun a b h => by omega) List.nodup_range
theorem idx_new {l : List Spn} {d r : List Itm} {x : Itm} (h : (d ++ x :: r).Perm (itemsOf l)) : ∀ y ∈ d, x.idx ≠ y.idx := by
  intro y hy e
  have hn := ((h.map (·.idx)).nodup_iff).2 (idx_nodup l)
  rw [List.map_append, List.map_cons, List.nodup_append] at hn
  exact hn.2.2 y.idx (List.mem_map.2 ⟨y, hy, rfl⟩) x.idx (by simp) e.symm
/-- where Pairs stands: its result in a box, the row of pairs in memory of the call's own -/
structure PSt (w0 W : World) (L : List Pr) : Prop where
  bel : Below w0.heap.size w0 W
  box : ∃ v, Blk W w0.heap.size 104 #[v] ∧ W.ownsRow (w0.heap.size + 1) 106 2 v L.length (L.flatMap Pr.cells)
theorem PSt.up {w0 W V : World} {L : List Pr} (h : PSt w0 W L) (hb : Below W.heap.size W V) : PSt w0 V L := by
  obtain ⟨v, h1, h2⟩ := h.box
  exact ⟨Below.then_ h.bel hb, v, h1.below hb h1.lt, own_below h2 hb⟩
theorem PSt.st {w0 W V : World} {L : List Pr} (h : PSt w0 W L) (ho : OffQ (w0.heap.size + 1) W V) : PSt w0 V L := by
  obtain ⟨v, h1, h2⟩ := h.box
  have hs := h.bel.size
  refine ⟨⟨ho.os.trans h.bel.os, ho.tape.trans h.bel.tape, ho.output.trans h.bel.output, Nat.le_trans hs ho.size, fun k hk => (ho.block k (by omega) (.inl (by omega))).trans (h.bel.block k hk)⟩, v, (ho.block _ h1.lt (.inl (by omega))).trans h1, h2.1, ?_⟩
  rcases h2.2 with h3 | ⟨g, cap, cur, rfl, hb, hh, r⟩
  · exact .inl h3
  · refine .inr ⟨g, cap, cur, rfl, hb, (ho.block g (Array.getElem?_eq_some_iff.1 hh).1 (.inr ⟨fun cs fr e => ?_, fun cs fr e => ?_⟩)).trans hh, r⟩
    · rw [hh] at e; injection e with e; injection e with _ e; exact absurd e (by decide)
    · rw [hh] at e; injection e with e; injection e with _ e; exact absurd e (by decide)
theorem PSt.cells {w0 W : World} {L : List Pr} (h : PSt w0 W L) : ∃ A c, W.cell? ⟨w0.heap.size, 0, none⟩ = some (.slice A L.length c) ∧ W.frozen? ⟨w0.heap.size, 0, none⟩ = false ∧ w0.heap.size < W.heap.size ∧ W.ownsRow (w0.heap.size + 1) 106 2 (.slice A L.length c) L.length (L.flatMap Pr.cells) := by
  obtain ⟨v, h1, h2⟩ := h.box
  obtain ⟨A, c, rfl, _⟩ := own_form h2
  refine ⟨A, c, ?_, h1.frozen 0, h1.lt, h2⟩
  have := h1.cell 0
  simpa using this
theorem PSt.push {w0 W V : World} {L : List Pr} {v v' : Value} {p : Pr} (h : PSt w0 W L) (hv : W.cell? ⟨w0.heap.size, 0, none⟩ = some v) (hown : V.ownsRow (w0.heap.size + 1) 106 2 v' (L.length + 1) (L.flatMap Pr.cells ++ p.cells)) (hg : W.grownBy V v.ownBlock) :
    PSt w0 (V.setCell ⟨w0.heap.size, 0, none⟩ v') (L ++ [p]) ∧ KeepQ W (V.setCell ⟨w0.heap.size, 0, none⟩ v') := by
  obtain ⟨u, h1, h2⟩ := h.box
  have hu : u = v := by have := h1.cell 0; rw [hv] at this; simpa using this.symm
  subst hu
  have ho := Off.of_own h2 hg
  have hs := h.bel.size
  have hb1 := h1.off ho (by decide)
  have hlt := h1.lt
  have hbel : Below w0.heap.size w0 V := h.bel.trans ⟨ho.os, ho.tape, ho.output, ho.size, fun k hk => hg.block k (by omega) (fun e => by have := (h2.lt k e.symm).1; omega)⟩
  refine ⟨⟨hbel.setCell (Nat.le_refl _) _, v', by have := hb1.set_ 0 v'; simpa using this, ?_⟩, ⟨ho.os, ho.tape, ho.output, by simpa [World.setCell] using ho.size, fun k cs t fr hh ht => ?_⟩⟩
  · have := own_set hown (p := ⟨w0.heap.size, 0, none⟩) (by show w0.heap.size < _; omega) v'
    simpa [List.flatMap_append] using this
  · have hk : k ≠ w0.heap.size := by
      rintro rfl
      unfold Blk at h1
      rw [h1] at hh
      injection hh with hh
      injection hh with _ hh _
      subst hh
      rcases ht with e | e <;> exact absurd e (by decide)
    refine (Below.heap_setCell _ _ _ k hk).trans (ho.block k (Array.getElem?_eq_some_iff.1 hh).1 fun cs' fr' e => ?_)
    rw [hh] at e
    injection e with e
    injection e with _ e
    subst e
    rcases ht with e | e <;> exact absurd e (by decide)
theorem PSt.cellg {w0 W V : World} {L : List Pr} {v : Value} (h : PSt w0 W L) (hv : W.cell? ⟨w0.heap.size, 0, none⟩ = some v) (hg : W.grownBy V v.ownBlock) : V.cell? ⟨w0.heap.size, 0, none⟩ = some v ∧ V.frozen? ⟨w0.heap.size, 0, none⟩ = false := by
  obtain ⟨u, h1, h2⟩ := h.box
  have hu : u = v := by have := h1.cell 0; rw [hv] at this; simpa using this.symm
  subst hu
  have hb1 := h1.off (Off.of_own h2 hg) (by decide)
  exact ⟨by have := hb1.cell 0; simpa using this, hb1.frozen 0⟩
theorem new_pr (w : World) (a b : Int) (t : TypeId) : Rd (w.alloc (.cells #[.int .i64 a, .int .i64 b] t)) (w.heap.size + 1) 2 (some ⟨w.heap.size, 0, none⟩) 1 [.int .i64 a, .int .i64 b] := by
  refine ⟨rfl, fun _ => ⟨_, _, rfl, Nat.lt_succ_self _, fun j u hu => ?_⟩⟩
  have := World.news_of_block (heap_alloc_new w (.cells #[.int .i64 a, .int .i64 b] t)) j u (by simpa using hu)
  rwa [addr_add] at this
def PJ (w0 : World) (d : List Itm) (W : World) : Prop := ∃ L, PSt w0 W L ∧ PairsOf d L ∧ L.length ≤ d.length * 1048576
set_option maxRecDepth 100000 in
set_option maxHeartbeats 4000000 in
theorem pairsFn_ok {w0 W : World} {op : List Itm} {x : Itm} {A : Option Addr} {c : Nat} {L : List Pr} (hop : op.length ≤ 1048576) (hL : L.length ≤ 1099511627776) (hP : PSt w0 W L) (hne : ∀ y ∈ op, x.idx ≠ y.idx) (hR : W.ownsRow 0 115 3 (.slice A op.length c) op.length (op.flatMap Itm.cells)) :
    Calls Try.prog 55 #[x.val, .slice A op.length c, .pointer (some ⟨w0.heap.size, 0, none⟩)] W fun e w' => e = .returned (.tuple #[]) ∧ PSt w0 w' (L ++ op.map (prOf x)) ∧ KeepQ W w' := by
  obtain ⟨ip, hi, hz0, hz1, hz2⟩ := info_parts infoPr
  have hbn := below_one W (.cells #[.int .u64 x.lo, .int .u64 x.len, .int .i64 x.idx] 115)
  have bk := Blk.new W 115 #[.int .u64 x.lo, .int .u64 x.len, .int .i64 x.idx]
  have HR := Lib.hid hR
  have HP := Lib.hid hP
  have HNE := Lib.hid hne
  clear hR hP hne
  go_enter Try.func55, Try.ntmps55
  go_upto_region 1 with (fail)
  generalize hW1 : World.alloc W _ = W1 at hbn bk ⊢
  clear hW1
  have HR1 := Lib.hid (own_below HR.out hbn)
  have HP1 := Lib.hid (show PSt w0 W1 (L ++ (op.take 0).map (prOf x)) by simpa using HP.out.up hbn)
  have HB1 := Lib.hid bk
  have HK1 := Lib.hid (KeepQ.of_below hbn)
  clear hbn bk
  generalize W.heap.size = xb at HB1 ⊢
  go_wp2
  go_loopw [9] (fun i wr => ∃ k : Nat, k ≤ op.length ∧ i = .int .i64 k ∧ Hid (PSt w0 wr (L ++ (op.take k).map (prOf x))) ∧ Hid (KeepQ W1 wr)) (fun i _ => op.length - (intOf i).toNat)
  case atStart => exact ⟨0, Nat.zero_le _, rfl, HP1, Lib.hid (KeepQ.of_below (Below.refl _ _))⟩
  case round =>
    obtain ⟨k, hk, rfl, HPk, HK⟩ := hrel
    by_cases hlt : k < op.length
    · obtain ⟨y, hy⟩ := get_lt hlt
      have hrw := own_keepq HR1.out HK.out
      obtain ⟨b, o, rfl, hb, p0, p1, p2⟩ := itm_at (own_slice hrw).2 hy
      have HBk := Lib.hid (HB1.out.keepq HK.out)
      have b2 := HBk.out.cell 2
      simp at b2
      have HY := Lib.hid hy
      have k0 : (0 : Int) ≤ (k : Int) := by omega
      have k1 : (k : Int) < (op.length : Int) := by omega
      have hxl := HBk.out.lt
      clear hrw hy
      go_upto_region 4 with (fail)
      have hbn := below_one wr (.cells #[.int .u64 y.lo, .int .u64 y.len, .int .i64 y.idx] 115)
      have bk := Blk.new wr 115 #[.int .u64 y.lo, .int .u64 y.len, .int .i64 y.idx]
      generalize hW2 : World.alloc wr _ = W2 at hbn bk ⊢
      clear hW2
      have HP2 := Lib.hid (HPk.out.up hbn)
      have HK2 := Lib.hid (HK.out.trans (KeepQ.of_below hbn))
      have c2 := bk.cell 2
      simp at c2
      have b2' := (HBk.out.below hbn hxl).cell 2
      simp at b2'
      have hll : (L ++ (op.take k).map (prOf x)).length ≤ 1099512676352 := by simp; omega
      have HTK := Lib.hid (show L ++ (op.take (k + 1)).map (prOf x) = (L ++ (op.take k).map (prOf x)) ++ [prOf x y] by rw [take_next HY.out]; simp)
      clear HPk
      generalize L ++ (op.take k).map (prOf x) = LL at *
      obtain ⟨vA, vc, v0, vf, vz, vo⟩ := HP2.out.cells
      have hbl := bk.lt
      have HV0 := Lib.hid v0
      have HVO := Lib.hid vo
      have HZ2 := Lib.hid HP2.out.bel.size
      have hxl2 : xb < W2.heap.size := Nat.lt_of_lt_of_le hxl hbn.size
      clear hbn bk p0 p1 p2 hb b2 hxl vo
      have hcmp : (∃ m1 m2, prOf x y = ⟨m1, m2⟩ ∧ y.idx < x.idx ∧ m1 = y.idx ∧ m2 = x.idx) ∨ (∃ m1 m2, prOf x y = ⟨m1, m2⟩ ∧ x.idx < y.idx ∧ m1 = x.idx ∧ m2 = y.idx) := by
        have := HNE.out y (List.mem_of_getElem? HY.out)
        unfold prOf
        rcases Int.lt_or_le y.idx x.idx with h | h
        · exact .inl ⟨y.idx, x.idx, by rw [Int.min_eq_right (by omega), Int.max_eq_left (by omega)], h, rfl, rfl⟩
        · exact .inr ⟨x.idx, y.idx, by rw [Int.min_eq_left (by omega), Int.max_eq_right (by omega)], by omega, rfl, rfl⟩
      rcases hcmp with ⟨m1, m2, hpr, hlt1, rfl, rfl⟩ | ⟨m1, m2, hpr, hlt1, rfl, rfl⟩
      · have HPR := Lib.hid hpr
        have hle1 : y.idx ≤ x.idx := by omega
        have hal := below_one W2 (.cells #[.int .i64 y.idx, .int .i64 x.idx] 106)
        have HP3 := Lib.hid (HP2.out.up hal)
        have HV3 := Lib.hid ((hal.cell (p := ⟨w0.heap.size, 0, none⟩) vz).trans HV0.out)
        have HK3 := Lib.hid (HK2.out.trans (KeepQ.of_below hal))
        clear hpr hal
        go_wp2_with (at_builtin; go_loud (refine wpList_append_rd _ rfl (.tmp 13) (.tmp 25) _ rfl (w0.heap.size + 1) 106 ip (.agg #[.int .i64 0, .int .i64 0]) 2 16 Try.underlying104 hi hz0 hz1 hz2 rfl (by decide) _ _ _ rfl (own_below HVO.out (below_one W2 (.cells #[.int .i64 y.idx, .int .i64 x.idx] 106))) (W2.heap.size + 1) (some ⟨W2.heap.size, 0, none⟩) 1 1 [.int .i64 y.idx, .int .i64 x.idx] rfl (new_pr W2 _ _ _) (by intro u hu; simp at hu; rcases hu with rfl | rfl <;> rfl) (by unfold maxLen; omega) (by omega) (by simp; omega) ?_); intro v' w3 hown hg; obtain ⟨nA, nc, rfl, _⟩ := own_form hown; obtain ⟨cc, ff⟩ := HP3.out.cellg HV3.out hg)
        obtain ⟨k3, k4⟩ := HP3.out.push (p := prOf x y) HV3.out (by rw [HPR.out]; exact hown) hg
        have HP4 := Lib.hid k3
        have HK4 := Lib.hid (HK3.out.trans k4)
        clear hown hg cc ff k3 k4 v0 vf c2 b2'
        go_wp2
        go_roundw
        case rel => exact ⟨k + 1, by omega, by go_num, Lib.hid (by rw [HTK.out]; exact HP4.out), HK4⟩
        case measure => simp [intOf]; omega
      · have HPR := Lib.hid hpr
        have hle1 : ¬ y.idx ≤ x.idx := by omega
        have hal := below_one W2 (.cells #[.int .i64 x.idx, .int .i64 y.idx] 106)
        have HP3 := Lib.hid (HP2.out.up hal)
        have HV3 := Lib.hid ((hal.cell (p := ⟨w0.heap.size, 0, none⟩) vz).trans HV0.out)
        have HK3 := Lib.hid (HK2.out.trans (KeepQ.of_below hal))
        clear hpr hal
        go_wp2_with (at_builtin; go_loud (refine wpList_append_rd _ rfl (.tmp 13) (.tmp 25) _ rfl (w0.heap.size + 1) 106 ip (.agg #[.int .i64 0, .int .i64 0]) 2 16 Try.underlying104 hi hz0 hz1 hz2 rfl (by decide) _ _ _ rfl (own_below HVO.out (below_one W2 (.cells #[.int .i64 x.idx, .int .i64 y.idx] 106))) (W2.heap.size + 1) (some ⟨W2.heap.size, 0, none⟩) 1 1 [.int .i64 x.idx, .int .i64 y.idx] rfl (new_pr W2 _ _ _) (by intro u hu; simp at hu; rcases hu with rfl | rfl <;> rfl) (by unfold maxLen; omega) (by omega) (by simp; omega) ?_); intro v' w3 hown hg; obtain ⟨nA, nc, rfl, _⟩ := own_form hown; obtain ⟨cc, ff⟩ := HP3.out.cellg HV3.out hg)
        obtain ⟨k3, k4⟩ := HP3.out.push (p := prOf x y) HV3.out (by rw [HPR.out]; exact hown) hg
        have HP4 := Lib.hid k3
        have HK4 := Lib.hid (HK3.out.trans k4)
        clear hown hg cc ff k3 k4 v0 vf c2 b2'
        go_wp2
        go_roundw
        case rel => exact ⟨k + 1, by omega, by go_num, Lib.hid (by rw [HTK.out]; exact HP4.out), HK4⟩
        case measure => simp [intOf]; omega
    · obtain rfl : k = op.length := by omega
      go_wp2
      go_end0
      exact ⟨rfl, by have := HPk.out; rwa [List.take_length] at this, HK1.out.trans HK.out⟩
end Go.Proofs.Ytaakcpdpkcadjaa
