/-
  A router in memory: its configuration, its index and its two maps, and how it stands while it is made. No condition.
-/
import Derived.Test.YthnbgbocanpkjaaGreatRoutP
import Derived.Test.YthnbgbocanpkjaaGreatCore
import Derived.Test.YthnbgbocanpkjaaGreatWirA
import Derived.Test.YthnbgbocanpkjaaGreatBoxC
namespace Go.Proofs.YthnbgbocanpkjaaGreat
open Go.RowKit Go.Lib
open Go.Maps (Keyed)
@[reducible] def vV (v : Value) : Value := v
theorem zeroU (w : World) : (zeroValue 34).run Tryz.prog w = .ok (.int .u16 0) w := by kernel_rfl
theorem zeroUs (w : World) : (zeroValue 36).run Tryz.prog w = .ok (.slice none 0 0) w := by kernel_rfl
/-- the channels of a configuration in memory, each with its slice of destinations -/
structure ChL (W : World) (B : Nat) (A5 : Option Addr) (L : List CE) : Prop where
  row : Rd W B 3 A5 L.length (L.flatMap CE.cells)
  rd : ∀ e ∈ L, e.x.dests.length ≤ e.c ∧ e.c ≤ maxLen ∧ Rd W B 1 e.A e.x.dests.length (e.x.dests.map (Value.int .u16))
theorem ChL.keep {W W' : World} {B : Nat} {A5 : Option Addr} {L : List CE} (h : ChL W B A5 L) (hk : ∀ b o, b < B → W'.cell? ⟨b, o, none⟩ = W.cell? ⟨b, o, none⟩) : ChL W' B A5 L :=
  ⟨h.row.keep hk, fun e he => ⟨(h.rd e he).1, (h.rd e he).2.1, (h.rd e he).2.2.keep hk⟩⟩
theorem ChL.more {W : World} {B B' : Nat} {A5 : Option Addr} {L : List CE} (h : ChL W B A5 L) (hB : B ≤ B') : ChL W B' A5 L :=
  ⟨h.row.more hB, fun e he => ⟨(h.rd e he).1, (h.rd e he).2.1, (h.rd e he).2.2.more hB⟩⟩
theorem ChL.up {W W' : World} {A5 : Option Addr} {L : List CE} (h : ChL W W.heap.size A5 L) (hb : Below W.heap.size W W') : ChL W' W'.heap.size A5 L := (h.keep fun _ _ hp => hb.cell hp).more hb.size
theorem ces_rt {w : World} {B : Nat} : ∀ {l : List Chn} {cs : List Value}, ChnsC w B l cs → ∃ L : List CE, L.map (·.x) = l ∧ L.flatMap CE.cells = cs ∧ ∀ e ∈ L, e.x.dests.length ≤ e.c ∧ e.c ≤ maxLen ∧ Rd w B 1 e.A e.x.dests.length (e.x.dests.map (Value.int .u16))
  | [], _, h => by subst h; exact ⟨[], rfl, rfl, fun e he => absurd he (by simp)⟩
  | x :: r, _, ⟨c0, c1, e, ⟨A, c, h0, h1, h2, h3⟩, hr⟩ => by
    obtain ⟨L, k1, k2, k3⟩ := ces_rt hr
    subst e h0
    refine ⟨⟨x, A, c⟩ :: L, by simp [k1], by simp [k2, CE.cells, CE.v], fun e he => ?_⟩
    rcases List.mem_cons.1 he with rfl | he
    · exact ⟨h1, h2, h3⟩
    · exact k3 e he
theorem chL_of {w : World} {B : Nat} {c : Cfg} {A1 A2 A3 A4 A5 : Option Addr} {c1 c2 c3 c4 c5 : Nat} (h : CfgR w B c A1 A2 A3 A4 A5 c1 c2 c3 c4 c5) : ∃ L : List CE, L.map (·.x) = c.chans ∧ ChL w B A5 L := by
  obtain ⟨cs, h1, h2⟩ := h.chans
  obtain ⟨L, k1, k2, k3⟩ := ces_rt h1
  refine ⟨L, k1, ?_, k3⟩
  rw [k2]
  have : L.length = c.chans.length := by rw [← k1]; simp
  rw [this]; exact h2
theorem chL_at {W : World} {B : Nat} {A5 : Option Addr} {L : List CE} (h : ChL W B A5 L) {k : Nat} {e : CE} (hk : L[k]? = some e) :
    ∃ b o, A5 = some ⟨b, o, none⟩ ∧ b < B ∧ W.cell? ⟨b, o + k * 3, none⟩ = some (.int .u16 e.x.id) ∧ W.cell? ⟨b, o + k * 3 + 1, none⟩ = some (.int .u16 e.x.source) ∧ W.cell? ⟨b, o + k * 3 + 2, none⟩ = some e.v := by
  obtain ⟨b, o, he, hb, hc⟩ := Rd.get (f := CE.cells) (sz := 3) (fun _ => rfl) h.row hk
  exact ⟨b, o, he, hb, hc 0 _ rfl, hc 1 _ rfl, hc 2 _ rfl⟩
theorem Blk.new' (w : World) (t : TypeId) (cs : Array Value) (g : Nat) (hg : g = w.heap.size) : Blk (w.alloc (.cells cs t)) g t cs := by subst hg; exact Blk.new w t cs
/-- what the map of routes holds -/
def rtE (L : List CE) : List (Int × Value) := L.map fun e => (e.x.source, e.v)
theorem rtE_next {L : List CE} {k : Nat} {e : CE} (h : L[k]? = some e) : rtE (L.take (k + 1)) = rtE (L.take k) ++ [(e.x.source, e.v)] := by
  unfold rtE; rw [take_next h, List.map_append]; rfl
theorem rtE_fresh {L : List CE} {n : Cfg} (hl : L.map (·.x) = n.chans) (hn : (n.chans.map (·.source)).Nodup) {k : Nat} {e : CE} (h : L[k]? = some e) : getv (rtE (L.take k)) e.x.source = none := by
  refine getv_none.2 fun p hp he => ?_
  obtain ⟨d, hd, rfl⟩ := List.mem_map.1 hp
  obtain ⟨i, hi⟩ := List.mem_iff_getElem?.1 hd
  have hik : i < k := by
    have := (List.getElem?_eq_some_iff.1 hi).1
    rw [List.length_take] at this; omega
  rw [List.getElem?_take_of_lt hik] at hi
  have h1 : (n.chans.map (·.source))[i]? = some d.x.source := by rw [← hl]; simp [hi]
  have h2 : (n.chans.map (·.source))[k]? = some e.x.source := by rw [← hl]; simp [h]
  exact not_nodup_of h2 (mem_take_of (h1.trans (congrArg some he)) hik) hn
theorem rtE_nodup {L : List CE} {n : Cfg} (hl : L.map (·.x) = n.chans) (hn : (n.chans.map (·.source)).Nodup) (k : Nat) : ((rtE (L.take k)).map (·.1)).Nodup := by
  have : (rtE (L.take k)).map (·.1) = (n.chans.map (·.source)).take k := by
    unfold rtE
    rw [← hl, List.map_map, List.map_map, List.map_take]
    rfl
  rw [this]
  exact List.Nodup.sublist (List.take_sublist _ _) hn
/-- what the map of sources holds after j destinations of channel k -/
def srcTo (l : List Chn) (k j : Nat) (x : Chn) : List (Int × Int) := srcPairs (l.take k) ++ (x.dests.take j).map fun d => (d, x.source)
theorem srcTo_zero (l : List Chn) (k : Nat) (x : Chn) : srcTo l k 0 x = srcPairs (l.take k) := by simp [srcTo]
theorem srcTo_next {l : List Chn} {k j : Nat} {x : Chn} {d : Int} (h : x.dests[j]? = some d) : srcTo l k (j + 1) x = srcTo l k j x ++ [(d, x.source)] := by
  unfold srcTo; rw [take_next h, List.map_append, List.append_assoc]; rfl
theorem srcTo_end {l : List Chn} {k : Nat} {x : Chn} (h : l[k]? = some x) : srcTo l k x.dests.length x = srcPairs (l.take (k + 1)) := by
  unfold srcTo srcPairs; rw [List.take_length, take_next h, List.flatMap_append]; simp
theorem srcTo_sub {l : List Chn} {k j : Nat} {x : Chn} (h : l[k]? = some x) : ((srcTo l k j x).map (·.1)).Sublist (l.flatMap (·.dests)) := by
  unfold srcTo
  rw [List.map_append, srcPairs_keys, List.map_map]
  have e : (x.dests.take j).map ((fun p : Int × Int => p.1) ∘ fun d => (d, x.source)) = x.dests.take j := by
    conv => rhs; rw [← List.map_id (x.dests.take j)]
    rfl
  rw [e]
  have h2 : l.flatMap (·.dests) = (l.take k).flatMap (·.dests) ++ (x.dests ++ (l.drop (k + 1)).flatMap (·.dests)) := by
    conv => lhs; rw [← List.take_append_drop k l, drop_cons h]
    rw [List.flatMap_append, List.flatMap_cons]
  rw [h2]
  exact List.Sublist.append (List.Sublist.refl _) ((List.take_sublist j x.dests).trans (List.sublist_append_left _ _))
theorem srcTo_nodup {l : List Chn} {k j : Nat} {x : Chn} (h : l[k]? = some x) (hn : (l.flatMap (·.dests)).Nodup) : ((srcTo l k j x).map (·.1)).Nodup := List.Nodup.sublist (srcTo_sub h) hn
theorem srcTo_fresh {l : List Chn} {k j : Nat} {x : Chn} {d : Int} (h : l[k]? = some x) (hn : (l.flatMap (·.dests)).Nodup) (hd : x.dests[j]? = some d) : getv (srcTo l k j x) d = none := by
  refine getv_none.2 fun p hp he => ?_
  have h1 := srcTo_nodup (j := j + 1) h hn
  rw [srcTo_next hd, List.map_append, List.nodup_append] at h1
  exact h1.2.2 p.1 (List.mem_map.2 ⟨p, hp, rfl⟩) d (by simp) he
theorem srcPairs_nodup {l : List Chn} (hn : (l.flatMap (·.dests)).Nodup) : ((srcPairs l).map (·.1)).Nodup := by rw [srcPairs_keys]; exact hn
/-- a step that writes a map's block alone keeps each cell -/
theorem map_keep {α β : Type} {W W' : World} {P : Program} {K : TypeId} {key : α → Value} {val : β → Value} {m : Nat} {es es' : List (α × β)} (h : MapIs W P K key val m es) (h' : MapIs W' P K key val m es') (hg : W.grownBy W' (some m)) : ∀ b o, b < W.heap.size → W'.cell? ⟨b, o, none⟩ = W.cell? ⟨b, o, none⟩ := by
  intro b o hb
  by_cases e : b = m
  · subst e
    obtain ⟨en, cl, h1, _⟩ := h
    obtain ⟨en', cl', h2, _⟩ := h'
    simp [World.cell?, h1, h2]
  · exact World.cell?_of_block (hg.block b hb fun he => e (by injection he))
/-- each channel's destinations lie in memory that begins at B -/
def DOw (W : World) (B : Nat) (L : List CE) : Prop := ∀ e ∈ L, W.ownsRow B 34 1 e.v e.x.dests.length (e.x.dests.map (Value.int .u16))
theorem DOw.below {W V : World} {B : Nat} {L : List CE} (h : DOw W B L) (hb : Below W.heap.size W V) : DOw V B L := fun e he => own_below (h e he) hb
theorem own_map {α β : Type} {W V : World} {P : Program} {K : TypeId} {key : α → Value} {val : β → Value} {m : Nat} {es : List (α × β)} {base : Nat} {e : TypeId} {size n : Nat} {v : Value} {xs : List Value} (h : W.ownsRow base e size v n xs) (hm : MapIs W P K key val m es) (hg : W.grownBy V (some m)) : V.ownsRow base e size v n xs := by
  refine ⟨h.1, ?_⟩
  rcases h.2 with h2 | ⟨g, cap, cur, rfl, hb, hh, r⟩
  · exact .inl h2
  · refine .inr ⟨g, cap, cur, rfl, hb, (hg.block g (Array.getElem?_eq_some_iff.1 hh).1 ?_).trans hh, r⟩
    intro e
    injection e with e
    subst e
    obtain ⟨en, cl, h1, _⟩ := hm
    rw [h1] at hh
    cases hh
/-- a router while it is made -/
structure RtSt (w W : World) (gx gr gi m1 m2 : Nat) (n : Cfg) (N1 N2 N3 N4 N5 : Option Addr) (n1 n2 n3 n4 n5 : Nat) (L : List CE) (e1 : List (Int × Value)) (e2 : List (Int × Int)) : Prop where
  bel : Below w.heap.size w W
  hz : w.heap.size ≤ W.heap.size
  cb : CBx W gx n N1 N2 N3 N4 N5 n1 n2 n3 n4 n5
  ch : ChL W W.heap.size N5 L
  blk : Blk W gr 76 #[.int .u64 n.frame, .slice N1 n.parts.length n1, .slice N2 n.wins.length n2, .slice N3 n.regs.length n3, .slice N4 n.ports.length n4, .slice N5 n.chans.length n5, .pointer (some ⟨gi, 0, none⟩), .map (some m1), .map (some m2)]
  idx : ∃ L0 B0, IdxIn W L0 B0 gi n ∧ B0 ≤ W.heap.size ∧ (m1 < L0 ∨ B0 ≤ m1) ∧ (m2 < L0 ∨ B0 ≤ m2)
  r1 : MapIs W Tryz.prog 34 kU vV m1 e1
  r2 : MapIs W Tryz.prog 34 kU kU m2 e2
  ne : m1 ≠ m2
  g1 : w.heap.size ≤ m1
  g2 : w.heap.size ≤ m2
  dn : DOw W w.heap.size L
section
variable {w W V : World} {gx gr gi m1 m2 : Nat} {n : Cfg} {N1 N2 N3 N4 N5 : Option Addr} {n1 n2 n3 n4 n5 : Nat} {L : List CE} {e1 e1' : List (Int × Value)} {e2 e2' : List (Int × Int)}
theorem RtSt.up (h : RtSt w W gx gr gi m1 m2 n N1 N2 N3 N4 N5 n1 n2 n3 n4 n5 L e1 e2) (hb : Below W.heap.size W V) : RtSt w V gx gr gi m1 m2 n N1 N2 N3 N4 N5 n1 n2 n3 n4 n5 L e1 e2 := by
  obtain ⟨L0, B0, i1, i2, i3, i4⟩ := h.idx
  exact ⟨h.bel.trans (hb.mono h.hz), Nat.le_trans h.hz hb.size, h.cb.up hb, h.ch.up hb, h.blk.below hb h.blk.lt, ⟨L0, B0, i1.below (hb.mono i2), Nat.le_trans i2 hb.size, i3, i4⟩, h.r1.below hb h.r1.lt, h.r2.below hb h.r2.lt, h.ne, h.g1, h.g2, h.dn.below hb⟩
theorem CBx.keep {c : Cfg} {A1 A2 A3 A4 A5 : Option Addr} {c1 c2 c3 c4 c5 : Nat} (h : CBx W gx c A1 A2 A3 A4 A5 c1 c2 c3 c4 c5) (hk : ∀ b o, b < W.heap.size → V.cell? ⟨b, o, none⟩ = W.cell? ⟨b, o, none⟩) (hz : W.heap.size ≤ V.heap.size) : CBx V gx c A1 A2 A3 A4 A5 c1 c2 c3 c4 c5 :=
  ⟨(h.R.keep hk).more hz, (hk _ _ h.z).trans h.x0, (hk _ _ h.z).trans h.x1, (hk _ _ h.z).trans h.x2, (hk _ _ h.z).trans h.x3, (hk _ _ h.z).trans h.x4, (hk _ _ h.z).trans h.x5, Nat.lt_of_lt_of_le h.z hz⟩
theorem Blk.ne_map {α β : Type} {P : Program} {K : TypeId} {key : α → Value} {val : β → Value} {m g : Nat} {es : List (α × β)} {t : TypeId} {cs : Array Value} (h : Blk W g t cs) (hm : MapIs W P K key val m es) : g ≠ m := by
  rintro rfl
  obtain ⟨en, cl, h1, _⟩ := hm
  unfold Blk at h
  rw [h1] at h
  cases h
theorem RtSt.step1 (h : RtSt w W gx gr gi m1 m2 n N1 N2 N3 N4 N5 n1 n2 n3 n4 n5 L e1 e2) (hm : MapIs V Tryz.prog 34 kU vV m1 e1') (hg : W.grownBy V (some m1)) : RtSt w V gx gr gi m1 m2 n N1 N2 N3 N4 N5 n1 n2 n3 n4 n5 L e1' e2 := by
  obtain ⟨L0, B0, i1, i2, i3, i4⟩ := h.idx
  have hk := map_keep h.r1 hm hg
  have hne := h.blk.ne_map h.r1
  exact ⟨below_grown h.bel hg h.hz h.g1, Nat.le_trans h.hz hg.size, h.cb.keep hk hg.size, (h.ch.keep hk).more hg.size, (hg.block gr h.blk.lt fun e => hne (by injection e)).trans h.blk, ⟨L0, B0, i1.grown hg i2 i3, Nat.le_trans i2 hg.size, i3, i4⟩, hm, h.r2.grown hg (Ne.symm h.ne), h.ne, h.g1, h.g2, fun e he => own_map (h.dn e he) h.r1 hg⟩
theorem RtSt.step2 (h : RtSt w W gx gr gi m1 m2 n N1 N2 N3 N4 N5 n1 n2 n3 n4 n5 L e1 e2) (hm : MapIs V Tryz.prog 34 kU kU m2 e2') (hg : W.grownBy V (some m2)) : RtSt w V gx gr gi m1 m2 n N1 N2 N3 N4 N5 n1 n2 n3 n4 n5 L e1 e2' := by
  obtain ⟨L0, B0, i1, i2, i3, i4⟩ := h.idx
  have hk := map_keep h.r2 hm hg
  have hne := h.blk.ne_map h.r2
  exact ⟨below_grown h.bel hg h.hz h.g2, Nat.le_trans h.hz hg.size, h.cb.keep hk hg.size, (h.ch.keep hk).more hg.size, (hg.block gr h.blk.lt fun e => hne (by injection e)).trans h.blk, ⟨L0, B0, i1.grown hg i2 i4, Nat.le_trans i2 hg.size, i3, i4⟩, h.r1.grown hg h.ne, hm, h.ne, h.g1, h.g2, fun e he => own_map (h.dn e he) h.r2 hg⟩
end
/-- a router that is made -/
structure RtAt (W : World) (B gr : Nat) (n : Cfg) : Prop where
  lt : gr < B
  ex : ∃ (gi m1 m2 : Nat) (N1 N2 N3 N4 N5 : Option Addr) (n1 n2 n3 n4 n5 : Nat) (L : List CE), m1 < B ∧ m2 < B ∧ L.map (·.x) = n.chans ∧
    W.cell? ⟨gr, 4, none⟩ = some (.slice N4 n.ports.length n4) ∧ W.cell? ⟨gr, 6, none⟩ = some (.pointer (some ⟨gi, 0, none⟩)) ∧ W.cell? ⟨gr, 7, none⟩ = some (.map (some m1)) ∧ W.cell? ⟨gr, 8, none⟩ = some (.map (some m2)) ∧
    CfgR W B n N1 N2 N3 N4 N5 n1 n2 n3 n4 n5 ∧ ChL W B N5 L ∧ IdxAt W B gi n ∧ MapIs W Tryz.prog 34 kU vV m1 (rtE L) ∧ MapIs W Tryz.prog 34 kU kU m2 (srcPairs n.chans)
theorem RtAt.below {W V : World} {B gr : Nat} {n : Cfg} (h : RtAt W B gr n) (hb : Below B W V) : RtAt V B gr n := by
  obtain ⟨hl, gi, m1, m2, N1, N2, N3, N4, N5, n1, n2, n3, n4, n5, L, l1, l2, lx, y4, y6, y7, y8, hR, hch, hi, r1, r2⟩ := h
  have q : ∀ j, V.cell? ⟨gr, j, none⟩ = W.cell? ⟨gr, j, none⟩ := fun j => hb.cell (p := ⟨gr, j, none⟩) hl
  exact ⟨hl, gi, m1, m2, N1, N2, N3, N4, N5, n1, n2, n3, n4, n5, L, l1, l2, lx, (q 4).trans y4, (q 6).trans y6, (q 7).trans y7, (q 8).trans y8, hR.below hb, hch.keep fun _ _ hp => hb.cell hp, hi.below hb, r1.below hb l1, r2.below hb l2⟩
theorem RtAt.more {W : World} {B B' gr : Nat} {n : Cfg} (h : RtAt W B gr n) (hB : B ≤ B') : RtAt W B' gr n := by
  obtain ⟨hl, gi, m1, m2, N1, N2, N3, N4, N5, n1, n2, n3, n4, n5, L, l1, l2, lx, y4, y6, y7, y8, hR, hch, hi, r1, r2⟩ := h
  exact ⟨by omega, gi, m1, m2, N1, N2, N3, N4, N5, n1, n2, n3, n4, n5, L, by omega, by omega, lx, y4, y6, y7, y8, hR.more hB, hch.more hB, hi.more hB, r1, r2⟩
theorem RtAt.up {W V : World} {gr : Nat} {n : Cfg} (h : RtAt W W.heap.size gr n) (hb : Below W.heap.size W V) : RtAt V V.heap.size gr n := (h.below hb).more hb.size
theorem RtSt.at_ {w W : World} {gx gr gi m1 m2 : Nat} {n : Cfg} {N1 N2 N3 N4 N5 : Option Addr} {n1 n2 n3 n4 n5 : Nat} {L : List CE} (h : RtSt w W gx gr gi m1 m2 n N1 N2 N3 N4 N5 n1 n2 n3 n4 n5 L (rtE L) (srcPairs n.chans)) (hl : L.map (·.x) = n.chans) : RtAt W W.heap.size gr n := by
  obtain ⟨L0, B0, i1, i2, i3, i4⟩ := h.idx
  have y4 := h.blk.cell 4
  have y6 := h.blk.cell 6
  have y7 := h.blk.cell 7
  have y8 := h.blk.cell 8
  simp at y4 y6 y7 y8
  exact ⟨h.blk.lt, gi, m1, m2, N1, N2, N3, N4, N5, n1, n2, n3, n4, n5, L, h.r1.lt, h.r2.lt, hl, y4, y6, y7, y8, h.cb.R, h.ch, i1.at_.more i2, h.r1, h.r2⟩
/-- what Route reads of a router: all rows lie in memory that begins at lo -/
structure RtRow (W : World) (lo gr : Nat) (n : Cfg) : Prop where
  ex : ∃ (m1 : Nat) (cs : Array Value) (L : List CE), L.map (·.x) = n.chans ∧ Blk W gr 76 cs ∧ cs[7]? = some (.map (some m1)) ∧ MapIs W Tryz.prog 34 kU vV m1 (rtE L) ∧ DOw W lo L
theorem RtSt.row {w W : World} {gx gr gi m1 m2 : Nat} {n : Cfg} {N1 N2 N3 N4 N5 : Option Addr} {n1 n2 n3 n4 n5 : Nat} {L : List CE} (h : RtSt w W gx gr gi m1 m2 n N1 N2 N3 N4 N5 n1 n2 n3 n4 n5 L (rtE L) (srcPairs n.chans)) (hl : L.map (·.x) = n.chans) : RtRow W w.heap.size gr n :=
  ⟨m1, _, L, hl, h.blk, rfl, h.r1, h.dn⟩
theorem RtRow.up {W V : World} {lo gr : Nat} {n : Cfg} (h : RtRow W lo gr n) (hb : Below W.heap.size W V) : RtRow V lo gr n := by
  obtain ⟨m1, cs, L, h1, h2, h3, h4, h5⟩ := h
  exact ⟨m1, cs, L, h1, h2.below hb h2.lt, h3, h4.below hb h4.lt, h5.below hb⟩
/-- a store into a row of numbers ahead of lo -/
theorem RtRow.set {W : World} {lo gr : Nat} {n : Cfg} (h : RtRow W lo gr n) {p : Addr} {u : Value} (hof : Off 34 W (W.setCell p u)) (hp : p.block < lo) : RtRow (W.setCell p u) lo gr n := by
  obtain ⟨m1, cs, L, h1, h2, h3, h4, h5⟩ := h
  refine ⟨m1, cs, L, h1, ?_, h3, ?_, fun e he => own_set (h5 e he) hp u⟩
  · refine (hof.block gr h2.lt fun c f hc => ?_).trans h2
    unfold Blk at h2
    rw [h2] at hc
    injection hc with hc
    injection hc with _ hc
    exact absurd hc (by decide)
  · refine h4.block (hof.block m1 h4.lt fun c f hc => ?_)
    obtain ⟨en, cl, h6, _⟩ := h4
    rw [h6] at hc
    cases hc
end Go.Proofs.YthnbgbocanpkjaaGreat
