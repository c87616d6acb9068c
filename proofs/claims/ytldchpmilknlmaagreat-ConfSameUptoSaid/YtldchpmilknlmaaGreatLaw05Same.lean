/-
  The laws of the chapter of layer 5: ConfSame, walked: what is written into a clone lies in memory of its own.
-/
import Derived.BigQuiet
import Derived.Deep.RegionHeld3
import Derived.Laws.OwnMore
import Derived.Test.YtldchpmilknlmaaGreatAlive05
import Derived.Test.YtldchpmilknlmaaGreatBoxC
namespace Go.Proofs.YtldchpmilknlmaaGreat
open Go.RowKit Go.Lib
attribute [local go_sem] ext_cell
/-- a clone in memory of its own, and its box -/
structure YSt (B g : Nat) (W3 W : World) (F : Int) (v1 v2 v3 v4 v5 : Value) (P : List Par) (N : List Win) (R : List Reg) (T : List Prt) (L : List CE) : Prop where
  bel : Below B W3 W
  hg : B ≤ g
  hB : B ≤ W.heap.size
  box : Blk W g 29 #[.int .u64 F, v1, v2, v3, v4, v5]
  o1 : W.ownsRow B 36 4 v1 P.length (P.flatMap Par.cells)
  o2 : W.ownsRow B 38 3 v2 N.length (N.flatMap Win.cells)
  o3 : W.ownsRow B 40 5 v3 R.length (R.flatMap Reg.cells)
  o4 : W.ownsRow B 43 6 v4 T.length (T.flatMap Prt.cells)
  o5 : W.ownsRow B 46 3 v5 L.length (L.flatMap CE.cells)
  ch : ChnsO W B L
theorem flat_set {α : Type} (f : α → List Value) (sz : Nat) (hf : ∀ x, (f x).length = sz) (hsz : 0 < sz) (u : Value) (x' : α) : ∀ (l : List α) (k : Nat) (x : α), l[k]? = some x → f x' = (f x).set 0 u → (l.flatMap f).set (k * sz) u = (l.set k x').flatMap f
  | [], k, x, h, _ => by simp at h
  | y :: r, 0, x, h, hx => by
    simp at h; subst h
    rw [Nat.zero_mul, List.flatMap_cons, List.set_append_left _ _ (by rw [hf]; exact hsz)]
    simp [hx]
  | y :: r, k + 1, x, h, hx => by
    have := flat_set f sz hf hsz u x' r k x (by simpa using h) hx
    rw [List.flatMap_cons, List.set_append_right _ _ (by rw [hf, Nat.succ_mul]; omega), hf, Nat.succ_mul, show k * sz + sz - sz = k * sz by omega, this]
    simp
theorem own_rec0 {α : Type} (f : α → List Value) (sz : Nat) (hf : ∀ x, (f x).length = sz) (hsz : 0 < sz) {w : World} {base : Nat} {e : TypeId} {l : List α} {k : Nat} {x x' : α} {u : Value} {g n cap : Nat} (h : w.ownsRow base e sz (.slice (some ⟨g, 0, none⟩) n cap) l.length (l.flatMap f)) (hn : n = l.length) (hk : l[k]? = some x) (hx : f x' = (f x).set 0 u) :
    (w.setCell ⟨g, k * sz, none⟩ u).ownsRow base e sz (.slice (some ⟨g, 0, none⟩) n cap) (l.set k x').length ((l.set k x').flatMap f) ∧ w.grownBy (w.setCell ⟨g, k * sz, none⟩ u) (Value.slice (some ⟨g, 0, none⟩) n cap).ownBlock := by
  subst hn
  obtain ⟨h1, h2⟩ := World.ownsRow.stored h (k * sz) u
  rw [flat_set f sz hf hsz u x' l k x hk hx] at h1
  rw [List.length_set]
  exact ⟨h1, h2⟩
theorem own_at0 {α : Type} (f : α → List Value) (sz : Nat) (hf : ∀ x, (f x).length = sz) {w : World} {base : Nat} {e : TypeId} {l : List α} {k : Nat} {x : α} {g n cap : Nat} (h : w.ownsRow base e sz (.slice (some ⟨g, 0, none⟩) n cap) l.length (l.flatMap f)) (hn : n = l.length) (hk : l[k]? = some x) (j : Nat) (u : Value) (hu : (f x)[j]? = some u) (hj : j < sz) : w.cell? ⟨g, k * sz + j, none⟩ = some u := by
  subst hn
  obtain ⟨b, o, e1, _, hc⟩ := (own_slice h).2.2 (by have := (List.getElem?_eq_some_iff.1 hk).1; omega)
  injection e1 with e1
  injection e1 with e1 e2
  subst e1 e2
  have := hc (k * sz + j) u (by rw [flat_at f sz hf l k x j hk hj]; exact hu)
  rwa [Nat.zero_add] at this
section
variable {B g : Nat} {W3 W V : World} {F : Int} {v1 v2 v3 v4 v5 : Value} {P P' : List Par} {N N' : List Win} {R R' : List Reg} {T T' : List Prt} {L L' : List CE}
theorem YSt.up (h : YSt B g W3 W F v1 v2 v3 v4 v5 P N R T L) (hb : Below W.heap.size W V) : YSt B g W3 V F v1 v2 v3 v4 v5 P N R T L :=
  ⟨h.bel.trans (hb.mono h.hB), h.hg, Nat.le_trans h.hB hb.size, h.box.below hb h.box.lt, own_below h.o1 hb, own_below h.o2 hb, own_below h.o3 hb, own_below h.o4 hb, own_below h.o5 hb, h.ch.below hb⟩
theorem YSt.mv1 (h : YSt B g W3 W F v1 v2 v3 v4 v5 P N R T L) (hb : Below B W V) (hof : Off 36 W V) (ho : V.ownsRow B 36 4 v1 P'.length (P'.flatMap Par.cells)) : YSt B g W3 V F v1 v2 v3 v4 v5 P' N R T L :=
  ⟨h.bel.trans hb, h.hg, Nat.le_trans h.hB hb.size, h.box.off hof (by decide), ho, own_off h.o2 hof (by decide), own_off h.o3 hof (by decide), own_off h.o4 hof (by decide), own_off h.o5 hof (by decide), h.ch.off hof (by decide)⟩
theorem YSt.inc1 {b n cap k : Nat} {x : Par} (h : YSt B g W3 W F (.slice (some ⟨b, 0, none⟩) n cap) v2 v3 v4 v5 P N R T L) (hn : n = P.length) (hk : P[k]? = some x) (z : Int) : YSt B g W3 (W.setCell ⟨b, k * 4, none⟩ (.int .u16 z)) F (.slice (some ⟨b, 0, none⟩) n cap) v2 v3 v4 v5 (P.set k { x with id := z }) N R T L := by
  obtain ⟨h1, h2⟩ := own_rec0 Par.cells 4 (fun _ => rfl) (by decide) (x' := { x with id := z }) (u := .int .u16 z) h.o1 hn hk rfl
  exact h.mv1 (below_own (Below.refl B W) h2 h.o1 h.hB) (Off.of_own h.o1 h2) h1
theorem YSt.mv2 (h : YSt B g W3 W F v1 v2 v3 v4 v5 P N R T L) (hb : Below B W V) (hof : Off 38 W V) (ho : V.ownsRow B 38 3 v2 N'.length (N'.flatMap Win.cells)) : YSt B g W3 V F v1 v2 v3 v4 v5 P N' R T L :=
  ⟨h.bel.trans hb, h.hg, Nat.le_trans h.hB hb.size, h.box.off hof (by decide), own_off h.o1 hof (by decide), ho, own_off h.o3 hof (by decide), own_off h.o4 hof (by decide), own_off h.o5 hof (by decide), h.ch.off hof (by decide)⟩
theorem YSt.inc2 {b n cap k : Nat} {x : Win} (h : YSt B g W3 W F v1 (.slice (some ⟨b, 0, none⟩) n cap) v3 v4 v5 P N R T L) (hn : n = N.length) (hk : N[k]? = some x) (z : Int) : YSt B g W3 (W.setCell ⟨b, k * 3, none⟩ (.int .u64 z)) F v1 (.slice (some ⟨b, 0, none⟩) n cap) v3 v4 v5 P (N.set k { x with start := z }) R T L := by
  obtain ⟨h1, h2⟩ := own_rec0 Win.cells 3 (fun _ => rfl) (by decide) (x' := { x with start := z }) (u := .int .u64 z) h.o2 hn hk rfl
  exact h.mv2 (below_own (Below.refl B W) h2 h.o2 h.hB) (Off.of_own h.o2 h2) h1
theorem YSt.mv3 (h : YSt B g W3 W F v1 v2 v3 v4 v5 P N R T L) (hb : Below B W V) (hof : Off 40 W V) (ho : V.ownsRow B 40 5 v3 R'.length (R'.flatMap Reg.cells)) : YSt B g W3 V F v1 v2 v3 v4 v5 P N R' T L :=
  ⟨h.bel.trans hb, h.hg, Nat.le_trans h.hB hb.size, h.box.off hof (by decide), own_off h.o1 hof (by decide), own_off h.o2 hof (by decide), ho, own_off h.o4 hof (by decide), own_off h.o5 hof (by decide), h.ch.off hof (by decide)⟩
theorem YSt.inc3 {b n cap k : Nat} {x : Reg} (h : YSt B g W3 W F v1 v2 (.slice (some ⟨b, 0, none⟩) n cap) v4 v5 P N R T L) (hn : n = R.length) (hk : R[k]? = some x) (z : Int) : YSt B g W3 (W.setCell ⟨b, k * 5, none⟩ (.int .u64 z)) F v1 v2 (.slice (some ⟨b, 0, none⟩) n cap) v4 v5 P N (R.set k { x with base := z }) T L := by
  obtain ⟨h1, h2⟩ := own_rec0 Reg.cells 5 (fun _ => rfl) (by decide) (x' := { x with base := z }) (u := .int .u64 z) h.o3 hn hk rfl
  exact h.mv3 (below_own (Below.refl B W) h2 h.o3 h.hB) (Off.of_own h.o3 h2) h1
theorem YSt.mv4 (h : YSt B g W3 W F v1 v2 v3 v4 v5 P N R T L) (hb : Below B W V) (hof : Off 43 W V) (ho : V.ownsRow B 43 6 v4 T'.length (T'.flatMap Prt.cells)) : YSt B g W3 V F v1 v2 v3 v4 v5 P N R T' L :=
  ⟨h.bel.trans hb, h.hg, Nat.le_trans h.hB hb.size, h.box.off hof (by decide), own_off h.o1 hof (by decide), own_off h.o2 hof (by decide), own_off h.o3 hof (by decide), ho, own_off h.o5 hof (by decide), h.ch.off hof (by decide)⟩
theorem YSt.inc4 {b n cap k : Nat} {x : Prt} (h : YSt B g W3 W F v1 v2 v3 (.slice (some ⟨b, 0, none⟩) n cap) v5 P N R T L) (hn : n = T.length) (hk : T[k]? = some x) (z : Int) : YSt B g W3 (W.setCell ⟨b, k * 6, none⟩ (.int .u16 z)) F v1 v2 v3 (.slice (some ⟨b, 0, none⟩) n cap) v5 P N R (T.set k { x with id := z }) L := by
  obtain ⟨h1, h2⟩ := own_rec0 Prt.cells 6 (fun _ => rfl) (by decide) (x' := { x with id := z }) (u := .int .u16 z) h.o4 hn hk rfl
  exact h.mv4 (below_own (Below.refl B W) h2 h.o4 h.hB) (Off.of_own h.o4 h2) h1
theorem YSt.mvD (h : YSt B g W3 W F v1 v2 v3 v4 v5 P N R T L) (hb : Below B W V) (hof : Off 34 W V) (hl : L'.length = L.length) (hc : L'.flatMap CE.cells = L.flatMap CE.cells) (hch : ChnsO V B L') : YSt B g W3 V F v1 v2 v3 v4 v5 P N R T L' :=
  ⟨h.bel.trans hb, h.hg, Nat.le_trans h.hB hb.size, h.box.off hof (by decide), own_off h.o1 hof (by decide), own_off h.o2 hof (by decide), own_off h.o3 hof (by decide), own_off h.o4 hof (by decide), by rw [hl, hc]; exact own_off h.o5 hof (by decide), hch⟩
theorem set_cells {L : List CE} {k : Nat} {e e' : CE} (hk : L[k]? = some e) (he : e'.cells = e.cells) : (L.set k e').flatMap CE.cells = L.flatMap CE.cells := by
  obtain ⟨hlt, rfl⟩ := List.getElem?_eq_some_iff.1 hk
  have h1 : L = L.take k ++ L[k] :: L.drop (k + 1) := by rw [← List.drop_eq_getElem_cons hlt, List.take_append_drop]
  have h2 : L.set k e' = L.take k ++ e' :: L.drop (k + 1) := by rw [List.set_eq_take_append_cons_drop, if_pos hlt]
  rw [h2]
  conv => rhs; rw [h1]
  simp only [List.flatMap_append, List.flatMap_cons, he]
/-- one destination of channel k is written -/
theorem YSt.incD {k j : Nat} {e : CE} (h : YSt B g W3 W F v1 v2 v3 v4 v5 P N R T L) (hk : L[k]? = some e) {b : Nat} (hA : e.A = some ⟨b, 0, none⟩) (z : Int) : YSt B g W3 (W.setCell ⟨b, j, none⟩ (.int .u16 z)) F v1 v2 v3 v4 v5 P N R T (L.set k ⟨{ e.x with dests := e.x.dests.set j z }, e.A, e.c⟩) := by
  obtain ⟨x, A, c⟩ := e
  simp only at hA
  subst hA
  have ho := h.ch.own _ (List.mem_of_getElem? hk)
  obtain ⟨h1, h2'⟩ := World.ownsRow.stored ho j (.int .u16 z)
  have h2 : W.grownBy (W.setCell ⟨b, j, none⟩ (.int .u16 z)) (CE.v ⟨x, some ⟨b, 0, none⟩, c⟩).ownBlock := h2'
  rw [← List.map_set] at h1
  have hv : CE.v ⟨{ x with dests := x.dests.set j z }, some ⟨b, 0, none⟩, c⟩ = CE.v ⟨x, some ⟨b, 0, none⟩, c⟩ := by simp [CE.v]
  refine h.mvD (below_own (Below.refl B W) h2 ho h.hB) (Off.of_own ho h2) (by simp) (set_cells hk (by simp [CE.cells, CE.v])) (h.ch.turn hk hv ?_ h2)
  simpa [CE.v] using h1
end
theorem YSt.start {B : Nat} {W3 w : World} {c : Cfg} {A1 A2 A3 A4 A5 : Option Addr} {c1 c2 c3 c4 c5 : Nat} (hb : Below B W3 w) (hB : B ≤ w.heap.size) (h : OwnC w B c A1 A2 A3 A4 A5 c1 c2 c3 c4 c5) : ∃ (V : World) (L : List CE), w.alloc (.cells #[.int .u64 c.frame, .slice A1 c.parts.length c1, .slice A2 c.wins.length c2, .slice A3 c.regs.length c3, .slice A4 c.ports.length c4, .slice A5 c.chans.length c5] 29) = V ∧ L.length = c.chans.length ∧ L.map (·.x) = c.chans ∧ YSt B w.heap.size W3 V c.frame (.slice A1 c.parts.length c1) (.slice A2 c.wins.length c2) (.slice A3 c.regs.length c3) (.slice A4 c.ports.length c4) (.slice A5 c.chans.length c5) c.parts c.wins c.regs c.ports L := by
  obtain ⟨L, o5, ch, lx⟩ := h.o5
  have hl : L.length = c.chans.length := by have := congrArg List.length lx; simpa using this
  have hba := below_one w (.cells #[.int .u64 c.frame, .slice A1 c.parts.length c1, .slice A2 c.wins.length c2, .slice A3 c.regs.length c3, .slice A4 c.ports.length c4, .slice A5 c.chans.length c5] 29)
  exact ⟨_, L, rfl, hl, lx, hb.trans (hba.mono hB), hB, by simp; omega, Blk.new _ _ _, own_below h.o1 hba, own_below h.o2 hba, own_below h.o3 hba, own_below h.o4 hba, by rw [hl]; exact own_below o5 hba, ch.below hba⟩
set_option maxRecDepth 100000 in
set_option maxHeartbeats 16000000 in
theorem confSame_ok (a : Cfg) (A1 A2 A3 A4 A5 : Option Addr) (a1 a2 a3 a4 a5 : Nat) (b : Cfg) (B1 B2 B3 B4 B5 : Option Addr) (b1 b2 b3 b4 b5 : Nat) (w : World) (hRa : CfgR w w.heap.size a A1 A2 A3 A4 A5 a1 a2 a3 a4 a5) (hsa : a.small) (hoka : a.ok) (hRb : CfgR w w.heap.size b B1 B2 B3 B4 B5 b1 b2 b3 b4 b5) (hsb : b.small) (hokb : b.ok) :
    Calls Tryz.prog 4 #[cfgV a.frame A1 A2 A3 A4 A5 a.parts.length a.wins.length a.regs.length a.ports.length a.chans.length a1 a2 a3 a4 a5, cfgV b.frame B1 B2 B3 B4 B5 b.parts.length b.wins.length b.regs.length b.ports.length b.chans.length b1 b2 b3 b4 b5] w fun e w' => e = .returned (.bool true) ∧ Below w.heap.size w w' := by
  obtain ⟨W0, hW0, ca, hb0⟩ := CBx.new hRa 29
  obtain ⟨W1, hW1, cb, hb1⟩ := CBx.new (hRb.up hb0) 29
  have HW0 := Lib.hid hW0
  have HW1 := Lib.hid hW1
  have e0 : W0.heap.size = w.heap.size + 1 := by rw [← hW0]; simp
  rw [e0] at cb
  have CA := Lib.hid (ca.up hb1)
  have CB := Lib.hid cb
  have HZ1 := Lib.hid (Below.then_ hb0 hb1)
  have HOA := Lib.hid hoka
  have HOB := Lib.hid hokb
  have HSA := Lib.hid hsa
  have HSB := Lib.hid hsb
  have HEA := Lib.hid (show eqC a a = true from eqC_yes rfl)
  obtain ⟨v, hv⟩ : ∃ v, eqC a b = v := ⟨_, rfl⟩
  have HV := Lib.hid hv
  have HTA := Lib.hid hsa.tot
  have HTB := Lib.hid hsb.tot
  obtain ⟨p0, p1, p2, p3, p4, p5⟩ := CA.out.cells
  obtain ⟨q0, q1, q2, q3, q4, q5⟩ := CB.out.cells
  have hz1 := CA.out.z
  have hz2 := CB.out.z
  clear hRa hRb hW0 hW1 ca cb hb0 hb1 hoka hokb hsa hsb hv e0
  rcases Bool.eq_false_or_eq_true (few a) with h1 | h1
  · rcases Bool.eq_false_or_eq_true (few b) with h2 | h2
    · have H1 := Lib.hid h1
      have H2 := Lib.hid h2
      clear h1 h2
      go_enter Tryz.func4, Tryz.ntmps4
      go_upto_region 1 with (fail)
      rw [HW0.out, HW1.out]
      go_wp2_with fail
      refine (few_valB a A1 A2 A3 A4 A5 a1 a2 a3 a4 a5 W1 CA.out.R HSA.out true H1).mono ?_
      rintro e w2 ⟨rfl, hb2⟩
      have CB2 := Lib.hid (CB.out.up hb2)
      have HB2 := Lib.hid hb2
      clear hb2 p0 p1 p2 p3 p4 p5 q0 q1 q2 q3 q4 q5 hz1 hz2
      obtain ⟨q0, q1, q2, q3, q4, q5⟩ := CB2.out.cells
      go_wp2_with fail
      refine (few_valB b B1 B2 B3 B4 B5 b1 b2 b3 b4 b5 w2 CB2.out.R HSB.out true H2).mono ?_
      rintro e w3 ⟨rfl, hb3⟩
      have CA3 := Lib.hid (CA.out.up (Below.then_ HB2.out hb3))
      have CB3 := Lib.hid (CB2.out.up hb3)
      have HZ3 := Lib.hid (Below.then_ HZ1.out (Below.then_ HB2.out hb3))
      clear hb3 q0 q1 q2 q3 q4 q5
      obtain ⟨p0, p1, p2, p3, p4, p5⟩ := CA3.out.cells
      have hz1 := CA3.out.z
      go_wp2_with fail
      refine (cloneR_ok a A1 A2 A3 A4 A5 a1 a2 a3 a4 a5 w3 CA3.out.R HTA.out).mono ?_
      rintro e w4 ⟨X1, X2, X3, X4, X5, x1, x2, x3, x4, x5, rfl, hX, hb4⟩
      obtain ⟨V, hV, cx, hb5⟩ := CBx.new hX 29
      have HVV := Lib.hid hV
      have CAV := Lib.hid (CA3.out.up (Below.then_ hb4 hb5))
      have CBV := Lib.hid (CB3.out.up (Below.then_ hb4 hb5))
      have CXV := Lib.hid cx
      have HZV := Lib.hid (Below.then_ HZ3.out (Below.then_ hb4 hb5))
      clear p0 p1 p2 p3 p4 p5 hz1 hX hb4 hV cx hb5
      go_upto_region 4 with (fail)
      rw [HVV.out]
      clear HVV
      generalize w4.heap.size = gx at *
      have KEEP : ∀ U, Below V.heap.size V U → (fun U => U.cell? ⟨w.heap.size, 0, none⟩ = some (.int .u64 a.frame) ∧ U.cell? ⟨w.heap.size, 1, none⟩ = some (.slice A1 a.parts.length a1) ∧ U.cell? ⟨w.heap.size, 2, none⟩ = some (.slice A2 a.wins.length a2) ∧ U.cell? ⟨w.heap.size, 3, none⟩ = some (.slice A3 a.regs.length a3) ∧ U.cell? ⟨w.heap.size, 4, none⟩ = some (.slice A4 a.ports.length a4) ∧ U.cell? ⟨w.heap.size, 5, none⟩ = some (.slice A5 a.chans.length a5) ∧ U.cell? ⟨w.heap.size + 1, 0, none⟩ = some (.int .u64 b.frame) ∧ U.cell? ⟨w.heap.size + 1, 1, none⟩ = some (.slice B1 b.parts.length b1) ∧ U.cell? ⟨w.heap.size + 1, 2, none⟩ = some (.slice B2 b.wins.length b2) ∧ U.cell? ⟨w.heap.size + 1, 3, none⟩ = some (.slice B3 b.regs.length b3) ∧ U.cell? ⟨w.heap.size + 1, 4, none⟩ = some (.slice B4 b.ports.length b4) ∧ U.cell? ⟨w.heap.size + 1, 5, none⟩ = some (.slice B5 b.chans.length b5) ∧ U.cell? ⟨gx, 0, none⟩ = some (.int .u64 a.frame) ∧ U.cell? ⟨gx, 1, none⟩ = some (.slice X1 a.parts.length x1) ∧ U.cell? ⟨gx, 2, none⟩ = some (.slice X2 a.wins.length x2) ∧ U.cell? ⟨gx, 3, none⟩ = some (.slice X3 a.regs.length x3) ∧ U.cell? ⟨gx, 4, none⟩ = some (.slice X4 a.ports.length x4) ∧ U.cell? ⟨gx, 5, none⟩ = some (.slice X5 a.chans.length x5)) U := fun U hU => by
        obtain ⟨a0, a1, a2, a3, a4, a5⟩ := (CAV.out.up hU).cells
        obtain ⟨b0, b1, b2, b3, b4, b5⟩ := (CBV.out.up hU).cells
        obtain ⟨e0, e1, e2, e3, e4, e5⟩ := (CXV.out.up hU).cells
        exact ⟨a0, a1, a2, a3, a4, a5, b0, b1, b2, b3, b4, b5, e0, e1, e2, e3, e4, e5⟩
      have HKP := Lib.hid KEEP
      obtain ⟨t0, t1, t2, t3, t4, t5, s0, s1, s2, s3, s4, s5, r0, r1, r2, r3, r4, r5⟩ := KEEP V (Below.refl _ _)
      have HBW := Lib.hid (Below.refl V.heap.size V)
      clear KEEP
      go_cut [37] (fun v wx => v = .bool false ∧ Hid (Below V.heap.size V wx))
      case first =>
        go_region_held3 (fun U => U.cell? ⟨w.heap.size, 0, none⟩ = some (.int .u64 a.frame) ∧ U.cell? ⟨w.heap.size, 1, none⟩ = some (.slice A1 a.parts.length a1) ∧ U.cell? ⟨w.heap.size, 2, none⟩ = some (.slice A2 a.wins.length a2) ∧ U.cell? ⟨w.heap.size, 3, none⟩ = some (.slice A3 a.regs.length a3) ∧ U.cell? ⟨w.heap.size, 4, none⟩ = some (.slice A4 a.ports.length a4) ∧ U.cell? ⟨w.heap.size, 5, none⟩ = some (.slice A5 a.chans.length a5) ∧ U.cell? ⟨w.heap.size + 1, 0, none⟩ = some (.int .u64 b.frame) ∧ U.cell? ⟨w.heap.size + 1, 1, none⟩ = some (.slice B1 b.parts.length b1) ∧ U.cell? ⟨w.heap.size + 1, 2, none⟩ = some (.slice B2 b.wins.length b2) ∧ U.cell? ⟨w.heap.size + 1, 3, none⟩ = some (.slice B3 b.regs.length b3) ∧ U.cell? ⟨w.heap.size + 1, 4, none⟩ = some (.slice B4 b.ports.length b4) ∧ U.cell? ⟨w.heap.size + 1, 5, none⟩ = some (.slice B5 b.chans.length b5) ∧ U.cell? ⟨gx, 0, none⟩ = some (.int .u64 a.frame) ∧ U.cell? ⟨gx, 1, none⟩ = some (.slice X1 a.parts.length x1) ∧ U.cell? ⟨gx, 2, none⟩ = some (.slice X2 a.wins.length x2) ∧ U.cell? ⟨gx, 3, none⟩ = some (.slice X3 a.regs.length x3) ∧ U.cell? ⟨gx, 4, none⟩ = some (.slice X4 a.ports.length x4) ∧ U.cell? ⟨gx, 5, none⟩ = some (.slice X5 a.chans.length x5))
          (first | (refine HKP.out _ ?_; (repeat (first | with_reducible exact HBW.out | with_reducible exact Below.refl _ _ | with_reducible refine Below.drew ?_ | (with_reducible refine Below.alloc ?_ (by first | (simp; done) | (have hq := HBW.out.size; simp at hq ⊢; omega)) _) | (with_reducible refine Below.setCell ?_ (by first | (simp; done) | (have hq := HBW.out.size; simp at hq ⊢; omega)) _))); done) | go_keep)
          (first
          | (go_at_call 16; refine (same_ok a A1 A2 A3 A4 A5 a1 a2 a3 a4 a5 b B1 B2 B3 B4 B5 b1 b2 b3 b4 b5 _ (CAV.out.up (by (repeat (first | with_reducible exact HBW.out | with_reducible exact Below.refl _ _ | with_reducible refine Below.drew ?_ | (with_reducible refine Below.alloc ?_ (by first | (simp; done) | (have hq := HBW.out.size; simp at hq ⊢; omega)) _) | (with_reducible refine Below.setCell ?_ (by first | (simp; done) | (have hq := HBW.out.size; simp at hq ⊢; omega)) _))))).R HTA.out (CBV.out.up (by (repeat (first | with_reducible exact HBW.out | with_reducible exact Below.refl _ _ | with_reducible refine Below.drew ?_ | (with_reducible refine Below.alloc ?_ (by first | (simp; done) | (have hq := HBW.out.size; simp at hq ⊢; omega)) _) | (with_reducible refine Below.setCell ?_ (by first | (simp; done) | (have hq := HBW.out.size; simp at hq ⊢; omega)) _))))).R HTB.out v HV).mono ?_; rintro e q1 ⟨rfl, hq⟩; have HBW := Lib.hid (Below.then_ (show Below V.heap.size V _ from (by (repeat (first | with_reducible exact HBW.out | with_reducible exact Below.refl _ _ | with_reducible refine Below.drew ?_ | (with_reducible refine Below.alloc ?_ (by first | (simp; done) | (have hq := HBW.out.size; simp at hq ⊢; omega)) _) | (with_reducible refine Below.setCell ?_ (by first | (simp; done) | (have hq := HBW.out.size; simp at hq ⊢; omega)) _))))) hq); clear hq)
          | (go_at_call 14; ((with_reducible refine (rSame_ok a A1 A2 A3 A4 A5 a1 a2 a3 a4 a5 b B1 B2 B3 B4 B5 b1 b2 b3 b4 b5 _ (CAV.out.up (by (repeat (first | with_reducible exact HBW.out | with_reducible exact Below.refl _ _ | with_reducible refine Below.drew ?_ | (with_reducible refine Below.alloc ?_ (by first | (simp; done) | (have hq := HBW.out.size; simp at hq ⊢; omega)) _) | (with_reducible refine Below.setCell ?_ (by first | (simp; done) | (have hq := HBW.out.size; simp at hq ⊢; omega)) _))))).R (CBV.out.up (by (repeat (first | with_reducible exact HBW.out | with_reducible exact Below.refl _ _ | with_reducible refine Below.drew ?_ | (with_reducible refine Below.alloc ?_ (by first | (simp; done) | (have hq := HBW.out.size; simp at hq ⊢; omega)) _) | (with_reducible refine Below.setCell ?_ (by first | (simp; done) | (have hq := HBW.out.size; simp at hq ⊢; omega)) _))))).R HOA.out HSA.out HOB.out HSB.out v HV).mono ?_); rintro e q1 ⟨rfl, hq⟩; have HBW := Lib.hid (Below.then_ (show Below V.heap.size V _ from (by (repeat (first | with_reducible exact HBW.out | with_reducible exact Below.refl _ _ | with_reducible refine Below.drew ?_ | (with_reducible refine Below.alloc ?_ (by first | (simp; done) | (have hq := HBW.out.size; simp at hq ⊢; omega)) _) | (with_reducible refine Below.setCell ?_ (by first | (simp; done) | (have hq := HBW.out.size; simp at hq ⊢; omega)) _))))) hq); clear hq))
          | (go_at_call 14; ((with_reducible refine (rSame_ok a X1 X2 X3 X4 X5 x1 x2 x3 x4 x5 a A1 A2 A3 A4 A5 a1 a2 a3 a4 a5 _ (CXV.out.up (by (repeat (first | with_reducible exact HBW.out | with_reducible exact Below.refl _ _ | with_reducible refine Below.drew ?_ | (with_reducible refine Below.alloc ?_ (by first | (simp; done) | (have hq := HBW.out.size; simp at hq ⊢; omega)) _) | (with_reducible refine Below.setCell ?_ (by first | (simp; done) | (have hq := HBW.out.size; simp at hq ⊢; omega)) _))))).R (CAV.out.up (by (repeat (first | with_reducible exact HBW.out | with_reducible exact Below.refl _ _ | with_reducible refine Below.drew ?_ | (with_reducible refine Below.alloc ?_ (by first | (simp; done) | (have hq := HBW.out.size; simp at hq ⊢; omega)) _) | (with_reducible refine Below.setCell ?_ (by first | (simp; done) | (have hq := HBW.out.size; simp at hq ⊢; omega)) _))))).R HOA.out HSA.out HOA.out HSA.out true HEA).mono ?_); rintro e q1 ⟨rfl, hq⟩; have HBW := Lib.hid (Below.then_ (show Below V.heap.size V _ from (by (repeat (first | with_reducible exact HBW.out | with_reducible exact Below.refl _ _ | with_reducible refine Below.drew ?_ | (with_reducible refine Below.alloc ?_ (by first | (simp; done) | (have hq := HBW.out.size; simp at hq ⊢; omega)) _) | (with_reducible refine Below.setCell ?_ (by first | (simp; done) | (have hq := HBW.out.size; simp at hq ⊢; omega)) _))))) hq); clear hq))
          | fail)
        all_goals
          clear t0 t1 t2 t3 t4 t5 s0 s1 s2 s3 s4 s5 r0 r1 r2 r3 r4 r5
          go_wp2_with fail
          go_meet
          case rel => exact ⟨by simp, HBW⟩
      case rest =>
      obtain ⟨rfl, HBC⟩ := hcut
      clear t0 t1 t2 t3 t4 t5 s0 s1 s2 s3 s4 s5 r0 r1 r2 r3 r4 r5
      obtain ⟨WA, rfl⟩ : ∃ WA, WA = wc := ⟨_, rfl⟩
      have CAA := Lib.hid (CAV.out.up HBC.out)
      have CXA := Lib.hid (CXV.out.up HBC.out)
      have HZA := Lib.hid (Below.then_ HZV.out HBC.out)
      obtain ⟨r0, r1, r2, r3, r4, r5⟩ := CXA.out.cells
      go_wp2_with fail
      refine (cloneC_ok a X1 X2 X3 X4 X5 x1 x2 x3 x4 x5 WA CXA.out.R HTA.out).mono ?_
      rintro e w6 ⟨Y1, Y2, Y3, Y4, Y5, y1, y2, y3, y4, y5, rfl, hown, hb6⟩
      obtain ⟨W7, L, hW7, hll, hlx, hy⟩ := YSt.start (W3 := WA) hb6 hb6.size hown
      have HW7 := Lib.hid hW7
      have HY := Lib.hid hy
      have HL5 := Lib.hid hll
      have HDL := Lib.hid (show ∀ e ∈ L, e.x.dests.length ≤ 4194304 from fun e he => dests_le HTA.out e.x (by rw [← hlx]; exact List.mem_map.2 ⟨e, he, rfl⟩))
      have HL1 := Lib.hid (rfl : a.parts.length = a.parts.length)
      have HL2 := Lib.hid (rfl : a.wins.length = a.wins.length)
      have HL3 := Lib.hid (rfl : a.regs.length = a.regs.length)
      have HL4 := Lib.hid (rfl : a.ports.length = a.ports.length)
      have bx : a.chans.length ≤ 1048576 := HSA.out.bd.x
      have bp : a.parts.length ≤ 1048576 := HSA.out.bd.p
      have bw : a.wins.length ≤ 1048576 := HSA.out.bd.w
      have br : a.regs.length ≤ 1048576 := HSA.out.bd.r
      have bt : a.ports.length ≤ 1048576 := HSA.out.bd.t
      clear r0 r1 r2 r3 r4 r5 hb6 hown hW7 hll hlx hy
      go_upto_region 7 with (fail)
      rw [HW7.out]
      clear HW7
      generalize w6.heap.size = g at *
      have y1c := HY.out.box.cell 1
      simp at y1c
      have hgl := HY.out.box.lt
      go_upto_region 8 with (fail)
      clear y1c hgl
      go_loopw [43] (fun i wr => ∃ (k : Nat) (P : List Par), k ≤ a.parts.length ∧ i = .int .i64 k ∧ P.length = a.parts.length ∧ Hid (YSt WA.heap.size g WA wr a.frame (.slice Y1 a.parts.length y1) (.slice Y2 a.wins.length y2) (.slice Y3 a.regs.length y3) (.slice Y4 a.ports.length y4) (.slice Y5 a.chans.length y5) P a.wins a.regs a.ports L)) (fun i _ => a.parts.length - (intOf i).toNat)
      case atStart => exact ⟨0, a.parts, Nat.zero_le _, rfl, rfl, HY⟩
      case round =>
        clear HY HL1
        obtain ⟨k, P, hk, rfl, hl, HY⟩ := hrel
        by_cases hlt : k < a.parts.length
        · obtain ⟨x, hx⟩ := get_lt (l := P) (k := k) (by omega)
          have HX := Lib.hid hx
          obtain ⟨b, cap, hv, _, hbl⟩ := HY.out.o1.form (by omega)
          injection hv with hv1 hv2 hv3
          subst hv1 hv3
          clear hv2
          have HLN := Lib.hid hl
          have g0 := own_at0 Par.cells 4 (fun _ => rfl) HY.out.o1 hl.symm hx 0 _ rfl (by decide)
          rw [Nat.add_zero] at g0
          have hoo := HY.out.o1
          rw [hl] at hoo
          have f0 := World.ownsRow.frozenAt hoo (k * 4)
          clear hoo
          have y1c := HY.out.box.cell 1
          simp at y1c
          have hgl := HY.out.box.lt
          have n0 : (0 : Int) ≤ (k : Int) := by omega
          have n1 : (k : Int) < (a.parts.length : Int) := by omega
          clear hx hl
          go_wp2
          go_roundw
          case rel => exact ⟨k + 1, _, by omega, by go_num, by rw [List.length_set]; exact HLN.out, Lib.hid (YSt.inc1 HY.out HLN.out.symm HX.out _)⟩
          case measure => simp [intOf]; omega
        · obtain rfl : k = a.parts.length := by omega
          have HL1' := Lib.hid hl
          clear hl
          have y2c := HY.out.box.cell 2
          simp at y2c
          have hgl := HY.out.box.lt
          go_upto_region 13 with (fail)
          clear y2c hgl
          go_loopw [59] (fun i wr => ∃ (k : Nat) (N : List Win), k ≤ a.wins.length ∧ i = .int .i64 k ∧ N.length = a.wins.length ∧ Hid (YSt WA.heap.size g WA wr a.frame (.slice Y1 a.parts.length y1) (.slice Y2 a.wins.length y2) (.slice Y3 a.regs.length y3) (.slice Y4 a.ports.length y4) (.slice Y5 a.chans.length y5) P N a.regs a.ports L)) (fun i _ => a.wins.length - (intOf i).toNat)
          case atStart => exact ⟨0, a.wins, Nat.zero_le _, rfl, rfl, HY⟩
          case round =>
            clear HY HL2
            obtain ⟨k, N, hk, rfl, hl, HY⟩ := hrel
            by_cases hlt : k < a.wins.length
            · obtain ⟨x, hx⟩ := get_lt (l := N) (k := k) (by omega)
              have HX := Lib.hid hx
              obtain ⟨b, cap, hv, _, hbl⟩ := HY.out.o2.form (by omega)
              injection hv with hv1 hv2 hv3
              subst hv1 hv3
              clear hv2
              have HLN := Lib.hid hl
              have g0 := own_at0 Win.cells 3 (fun _ => rfl) HY.out.o2 hl.symm hx 0 _ rfl (by decide)
              rw [Nat.add_zero] at g0
              have hoo := HY.out.o2
              rw [hl] at hoo
              have f0 := World.ownsRow.frozenAt hoo (k * 3)
              clear hoo
              have y2c := HY.out.box.cell 2
              simp at y2c
              have hgl := HY.out.box.lt
              have n0 : (0 : Int) ≤ (k : Int) := by omega
              have n1 : (k : Int) < (a.wins.length : Int) := by omega
              clear hx hl
              go_wp2
              go_roundw
              case rel => exact ⟨k + 1, _, by omega, by go_num, by rw [List.length_set]; exact HLN.out, Lib.hid (YSt.inc2 HY.out HLN.out.symm HX.out _)⟩
              case measure => simp [intOf]; omega
            · obtain rfl : k = a.wins.length := by omega
              have HL2' := Lib.hid hl
              clear hl
              have y3c := HY.out.box.cell 3
              simp at y3c
              have hgl := HY.out.box.lt
              go_upto_region 18 with (fail)
              clear y3c hgl
              go_loopw [75] (fun i wr => ∃ (k : Nat) (R : List Reg), k ≤ a.regs.length ∧ i = .int .i64 k ∧ R.length = a.regs.length ∧ Hid (YSt WA.heap.size g WA wr a.frame (.slice Y1 a.parts.length y1) (.slice Y2 a.wins.length y2) (.slice Y3 a.regs.length y3) (.slice Y4 a.ports.length y4) (.slice Y5 a.chans.length y5) P N R a.ports L)) (fun i _ => a.regs.length - (intOf i).toNat)
              case atStart => exact ⟨0, a.regs, Nat.zero_le _, rfl, rfl, HY⟩
              case round =>
                clear HY HL3
                obtain ⟨k, R, hk, rfl, hl, HY⟩ := hrel
                by_cases hlt : k < a.regs.length
                · obtain ⟨x, hx⟩ := get_lt (l := R) (k := k) (by omega)
                  have HX := Lib.hid hx
                  obtain ⟨b, cap, hv, _, hbl⟩ := HY.out.o3.form (by omega)
                  injection hv with hv1 hv2 hv3
                  subst hv1 hv3
                  clear hv2
                  have HLN := Lib.hid hl
                  have g0 := own_at0 Reg.cells 5 (fun _ => rfl) HY.out.o3 hl.symm hx 0 _ rfl (by decide)
                  rw [Nat.add_zero] at g0
                  have hoo := HY.out.o3
                  rw [hl] at hoo
                  have f0 := World.ownsRow.frozenAt hoo (k * 5)
                  clear hoo
                  have y3c := HY.out.box.cell 3
                  simp at y3c
                  have hgl := HY.out.box.lt
                  have n0 : (0 : Int) ≤ (k : Int) := by omega
                  have n1 : (k : Int) < (a.regs.length : Int) := by omega
                  clear hx hl
                  go_wp2
                  go_roundw
                  case rel => exact ⟨k + 1, _, by omega, by go_num, by rw [List.length_set]; exact HLN.out, Lib.hid (YSt.inc3 HY.out HLN.out.symm HX.out _)⟩
                  case measure => simp [intOf]; omega
                · obtain rfl : k = a.regs.length := by omega
                  have HL3' := Lib.hid hl
                  clear hl
                  have y4c := HY.out.box.cell 4
                  simp at y4c
                  have hgl := HY.out.box.lt
                  go_upto_region 23 with (fail)
                  clear y4c hgl
                  go_loopw [91] (fun i wr => ∃ (k : Nat) (T : List Prt), k ≤ a.ports.length ∧ i = .int .i64 k ∧ T.length = a.ports.length ∧ Hid (YSt WA.heap.size g WA wr a.frame (.slice Y1 a.parts.length y1) (.slice Y2 a.wins.length y2) (.slice Y3 a.regs.length y3) (.slice Y4 a.ports.length y4) (.slice Y5 a.chans.length y5) P N R T L)) (fun i _ => a.ports.length - (intOf i).toNat)
                  case atStart => exact ⟨0, a.ports, Nat.zero_le _, rfl, rfl, HY⟩
                  case round =>
                    clear HY HL4
                    obtain ⟨k, T, hk, rfl, hl, HY⟩ := hrel
                    by_cases hlt : k < a.ports.length
                    · obtain ⟨x, hx⟩ := get_lt (l := T) (k := k) (by omega)
                      have HX := Lib.hid hx
                      obtain ⟨b, cap, hv, _, hbl⟩ := HY.out.o4.form (by omega)
                      injection hv with hv1 hv2 hv3
                      subst hv1 hv3
                      clear hv2
                      have HLN := Lib.hid hl
                      have g0 := own_at0 Prt.cells 6 (fun _ => rfl) HY.out.o4 hl.symm hx 0 _ rfl (by decide)
                      rw [Nat.add_zero] at g0
                      have hoo := HY.out.o4
                      rw [hl] at hoo
                      have f0 := World.ownsRow.frozenAt hoo (k * 6)
                      clear hoo
                      have y4c := HY.out.box.cell 4
                      simp at y4c
                      have hgl := HY.out.box.lt
                      have n0 : (0 : Int) ≤ (k : Int) := by omega
                      have n1 : (k : Int) < (a.ports.length : Int) := by omega
                      clear hx hl
                      go_wp2
                      go_roundw
                      case rel => exact ⟨k + 1, _, by omega, by go_num, by rw [List.length_set]; exact HLN.out, Lib.hid (YSt.inc4 HY.out HLN.out.symm HX.out _)⟩
                      case measure => simp [intOf]; omega
                    · obtain rfl : k = a.ports.length := by omega
                      have HL4' := Lib.hid hl
                      clear hl
                      have y5c := HY.out.box.cell 5
                      simp at y5c
                      have hgl := HY.out.box.lt
                      go_upto_region 28 with (fail)
                      clear y5c hgl
                      go_loopw [107] (fun i wr => ∃ (k : Nat) (L : List CE), k ≤ a.chans.length ∧ i = .int .i64 k ∧ L.length = a.chans.length ∧ Hid (∀ e ∈ L, e.x.dests.length ≤ 4194304) ∧ Hid (YSt WA.heap.size g WA wr a.frame (.slice Y1 a.parts.length y1) (.slice Y2 a.wins.length y2) (.slice Y3 a.regs.length y3) (.slice Y4 a.ports.length y4) (.slice Y5 a.chans.length y5) P N R T L)) (fun i _ => a.chans.length - (intOf i).toNat)
                      case atStart => exact ⟨0, _, Nat.zero_le _, rfl, HL5.out, HDL, HY⟩
                      case round =>
                        clear HY HL5 HDL
                        obtain ⟨k, L, hk, rfl, hl, HDL, HY⟩ := hrel
                        by_cases hlt : k < a.chans.length
                        · obtain ⟨e, he⟩ := get_lt (l := L) (k := k) (by omega)
                          have HE := Lib.hid he
                          obtain ⟨b, cap, hv, _, hbl⟩ := HY.out.o5.form (by omega)
                          injection hv with hv1 hv2 hv3
                          subst hv1 hv3
                          clear hv2
                          have HLN := Lib.hid hl
                          have hdl := HDL.out e (List.mem_of_getElem? he)
                          have g0 := own_at0 CE.cells 3 (fun _ => rfl) HY.out.o5 hl.symm he 0 _ rfl (by decide)
                          have g1 := own_at0 CE.cells 3 (fun _ => rfl) HY.out.o5 hl.symm he 1 _ rfl (by decide)
                          have g2 := own_at0 CE.cells 3 (fun _ => rfl) HY.out.o5 hl.symm he 2 _ rfl (by decide)
                          rw [Nat.add_zero] at g0
                          have n0 : (0 : Int) ≤ (k : Int) := by omega
                          have n1 : (k : Int) < (a.chans.length : Int) := by omega
                          clear he hl
                          go_upto_region 30 with (fail)
                          have hba := below_one wr (.cells #[.int .u16 e.x.id, .int .u16 e.x.source, .slice e.A e.x.dests.length e.c] 46)
                          have HYa := Lib.hid (HY.out.up hba)
                          have hbk := Blk.new wr 46 #[.int .u16 e.x.id, .int .u16 e.x.source, .slice e.A e.x.dests.length e.c]
                          clear g0 g1 g2 HY hba
                          generalize World.alloc wr _ = W5 at *
                          generalize wr.heap.size = gd at *
                          obtain ⟨ex, eA, ec⟩ := e
                          simp only at hdl hbk HE ⊢
                          have hq := hbk.cell 2
                          simp at hq
                          have hqlt := hbk.lt
                          have HBK := Lib.hid hbk
                          obtain ⟨m, hm⟩ : ∃ m, ex.dests.length = m := ⟨_, rfl⟩
                          rw [hm] at hq HBK hdl
                          try rw [hm]
                          have HM := Lib.hid hm
                          clear hm hbk
                          go_upto_region 31 with (fail)
                          clear hq hqlt
                          go_loopw [114] (fun i wr => ∃ (j : Nat) (l : List Int), j ≤ m ∧ i = .int .i64 j ∧ l.length = m ∧ Hid (Blk wr gd 46 #[.int .u16 ex.id, .int .u16 ex.source, .slice eA m ec]) ∧ Hid (YSt WA.heap.size g WA wr a.frame (.slice Y1 a.parts.length y1) (.slice Y2 a.wins.length y2) (.slice Y3 a.regs.length y3) (.slice Y4 a.ports.length y4) (.slice (some ⟨b, 0, none⟩) a.chans.length y5) P N R T (L.set k ⟨{ ex with dests := l }, eA, ec⟩))) (fun i _ => m - (intOf i).toNat)
                          case atStart => exact ⟨0, ex.dests, Nat.zero_le _, rfl, HM.out, HBK, Lib.hid (by
                            have h : L.set k ⟨{ ex with dests := ex.dests }, eA, ec⟩ = L := by
                              obtain ⟨hlk, hek⟩ := List.getElem?_eq_some_iff.1 HE.out
                              rw [← hek]
                              exact List.set_getElem_self hlk
                            rw [h]
                            exact HYa.out)⟩
                          case round =>
                            clear HBK HYa
                            obtain ⟨j, l, hj, rfl, hll, HBK, HYj⟩ := hrel
                            have HLL := Lib.hid hll
                            have hek := List.getElem?_set_self (l := L) (i := k) (a := (⟨{ ex with dests := l }, eA, ec⟩ : CE)) (by rw [HLN.out]; exact hlt)
                            have HEK := Lib.hid hek
                            by_cases hltj : j < m
                            · have ho := HYj.out.ch.own _ (List.mem_of_getElem? hek)
                              obtain ⟨b2, cap2, hv, _, hbl2⟩ := ho.form (by show 0 < l.length; omega)
                              injection hv with hv1 hv2 hv3
                              simp only at hv1 hv3
                              subst hv1 hv3
                              clear hv2
                              obtain ⟨z, hz⟩ := get_lt (l := l) (k := j) (by omega)
                              have hq2 : (CE.v ⟨{ ex with dests := l }, some ⟨b2, 0, none⟩, ec⟩) = .slice (some ⟨b2, 0, none⟩) l.length ec := rfl
                              rw [hq2] at ho
                              have g0 := intF_at (own_slice ho).2 hz
                              rw [Nat.zero_add] at g0
                              have f0 := World.ownsRow.frozenAt ho j
                              have hq := HBK.out.cell 2
                              simp at hq
                              have hqlt := HBK.out.lt
                              have n0 : (0 : Int) ≤ (j : Int) := by omega
                              have n1 : (j : Int) < (m : Int) := by omega
                              have HOF := Lib.hid (fun u : Int => Off.of_own (v := .slice (some ⟨b2, 0, none⟩) l.length ec) ho (World.ownsRow.stored ho j (.int .u16 u)).2)
                              clear ho hz hek hll hq2
                              go_wp2
                              go_roundw
                              case rel => exact ⟨j + 1, l.set j (IntKind.u16.wrap (z + 1)), by omega, by go_num, by rw [List.length_set]; exact HLL.out, Lib.hid (HBK.out.off (HOF.out _) (by decide)), Lib.hid (by
                                have h := YSt.incD (j := j) HYj.out HEK.out rfl (IntKind.u16.wrap (z + 1))
                                rw [List.set_set] at h
                                exact h)⟩
                              case measure => simp [intOf]; omega
                            · obtain rfl : j = m := by omega
                              have HD2 := Lib.hid (show ∀ e ∈ L.set k ⟨{ ex with dests := l }, eA, ec⟩, e.x.dests.length ≤ 4194304 from fun e he => by
                                rcases List.mem_or_eq_of_mem_set he with h | rfl
                                · exact HDL.out e h
                                · show l.length ≤ _
                                  rw [HLL.out]; exact hdl)
                              clear hek hll
                              go_wp2
                              go_roundw
                              case rel => exact ⟨k + 1, _, by omega, by go_num, by rw [List.length_set]; exact HLN.out, HD2, HYj⟩
                              case measure => simp [intOf]; omega
                        · obtain rfl : k = a.chans.length := by omega
                          have BX := Lib.hid (CXA.out.up HY.out.bel)
                          have BA := Lib.hid (CAA.out.up HY.out.bel)
                          have HZ := Lib.hid (Below.then_ HZA.out HY.out.bel)
                          obtain ⟨s0, s1, s2, s3, s4, s5⟩ := BA.out.cells
                          obtain ⟨r0, r1, r2, r3, r4, r5⟩ := BX.out.cells
                          have hz1 := BA.out.z
                          have hz2 := BX.out.z
                          clear hl HDL
                          go_wp2_with fail
                          refine (alive_ok _).mono ?_
                          rintro e w8 ⟨rfl, hb8⟩
                          have BX8 := Lib.hid (BX.out.up hb8)
                          have BA8 := Lib.hid (BA.out.up hb8)
                          have HZ8 := Lib.hid (Below.then_ HZ.out hb8)
                          clear s0 s1 s2 s3 s4 s5 r0 r1 r2 r3 r4 r5 hz1 hz2 hb8
                          obtain ⟨s0, s1, s2, s3, s4, s5⟩ := BA8.out.cells
                          obtain ⟨r0, r1, r2, r3, r4, r5⟩ := BX8.out.cells
                          go_wp2_with fail
                          refine (rSame_ok a X1 X2 X3 X4 X5 x1 x2 x3 x4 x5 a A1 A2 A3 A4 A5 a1 a2 a3 a4 a5 w8 BX8.out.R BA8.out.R HOA.out HSA.out HOA.out HSA.out true HEA).mono ?_
                          rintro e w9 ⟨rfl, hb9⟩
                          have HZ9 := Lib.hid (Below.then_ HZ8.out hb9)
                          clear hb9
                          go_wp2
                          go_ret
                          exact ⟨rfl, HZ9.out⟩
    · have H1 := Lib.hid h1
      have H2 := Lib.hid h2
      clear h1 h2
      go_enter Tryz.func4, Tryz.ntmps4
      go_upto_region 1 with (fail)
      rw [HW0.out, HW1.out]
      go_wp2_with fail
      refine (few_valB a A1 A2 A3 A4 A5 a1 a2 a3 a4 a5 W1 CA.out.R HSA.out true H1).mono ?_
      rintro e w2 ⟨rfl, hb2⟩
      have CB2 := Lib.hid (CB.out.up hb2)
      have HB2 := Lib.hid (Below.then_ HZ1.out hb2)
      clear hb2 p0 p1 p2 p3 p4 p5 q0 q1 q2 q3 q4 q5 hz1 hz2
      obtain ⟨q0, q1, q2, q3, q4, q5⟩ := CB2.out.cells
      go_wp2_with fail
      refine (few_valB b B1 B2 B3 B4 B5 b1 b2 b3 b4 b5 w2 CB2.out.R HSB.out false H2).mono ?_
      rintro e w3 ⟨rfl, hb3⟩
      have HZx := Lib.hid (Below.then_ HB2.out hb3)
      clear hb3 q0 q1 q2 q3 q4 q5
      go_wp2_with fail
      refine (alive_ok _).mono ?_
      rintro e w9 ⟨rfl, hb9⟩
      have HZ9 := Lib.hid (Below.then_ HZx.out hb9)
      clear hb9
      go_wp2
      go_ret
      exact ⟨rfl, HZ9.out⟩
  · have H1 := Lib.hid h1
    clear h1
    go_enter Tryz.func4, Tryz.ntmps4
    go_upto_region 1 with (fail)
    rw [HW0.out, HW1.out]
    go_wp2_with fail
    refine (few_valB a A1 A2 A3 A4 A5 a1 a2 a3 a4 a5 W1 CA.out.R HSA.out false H1).mono ?_
    rintro e w2 ⟨rfl, hb2⟩
    have HZx := Lib.hid (Below.then_ HZ1.out hb2)
    clear hb2 p0 p1 p2 p3 p4 p5 q0 q1 q2 q3 q4 q5 hz1 hz2
    go_wp2_with fail
    refine (alive_ok _).mono ?_
    rintro e w9 ⟨rfl, hb9⟩
    have HZ9 := Lib.hid (Below.then_ HZx.out hb9)
    clear hb9
    go_wp2
    go_ret
    exact ⟨rfl, HZ9.out⟩
end Go.Proofs.YtldchpmilknlmaaGreat
