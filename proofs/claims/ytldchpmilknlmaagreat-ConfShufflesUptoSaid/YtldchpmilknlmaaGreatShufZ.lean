/-
  The laws of the chapter of layer 5: ConfSame, walked: what is written into a clone lies in memory of its own.
-/
import Derived.BigQuiet
import Derived.Deep.RegionHeld3
import Derived.Laws.OwnMore
import Derived.Test.YtldchpmilknlmaaGreatAlive05
import Derived.Test.YtldchpmilknlmaaGreatBoxC
import Derived.Test.YtldchpmilknlmaaGreatRevG
import Derived.Test.YtldchpmilknlmaaGreatChnO
import Derived.Test.YtldchpmilknlmaaGreatNormR
import Derived.Lib.AppendZeros
import Derived.Test.YtldchpmilknlmaaGreatMrgSt
import Derived.Test.YtldchpmilknlmaaGreatOwnG
namespace Go.Proofs.YtldchpmilknlmaaGreat
open Go.RowKit Go.Lib
attribute [local go_sem] ext_cell
/-- a clone in memory of its own, and its box -/
structure YSt (B g : Nat) (W3 W : World) (F : Int) (v1 v2 v3 v4 v5 : Value) (P : List Par) (N : List Win) (R : List Reg) (T : List Prt) (L : List CE) : Prop where
  bel : Below B W3 W
  hg : B ≤ g
  hB : B ≤ W.heap.size
  box : Blk W g 29 #[.int .u64 F, v1, v2, v3, v4, v5]
  o1 : W.ownsRow B 36 4 v1 P.length (P.flatMap Par.cells)
  o2 : W.ownsRow B 38 3 v2 N.length (N.flatMap Win.cells)
  o3 : W.ownsRow B 40 5 v3 R.length (R.flatMap Reg.cells)
  o4 : W.ownsRow B 43 6 v4 T.length (T.flatMap Prt.cells)
  o5 : W.ownsRow B 46 3 v5 L.length (L.flatMap CE.cells)
  ch : ChnsO W B L
theorem flat_set {α : Type} (f : α → List Value) (sz : Nat) (hf : ∀ x, (f x).length = sz) (hsz : 0 < sz) (u : Value) (x' : α) : ∀ (l : List α) (k : Nat) (x : α), l[k]? = some x → f x' = (f x).set 0 u → (l.flatMap f).set (k * sz) u = (l.set k x').flatMap f
  | [], k, x, h, _ => by simp at h
  | y :: r, 0, x, h, hx => by
    simp at h; subst h
    rw [Nat.zero_mul, List.flatMap_cons, List.set_append_left _ _ (by rw [hf]; exact hsz)]
    simp [hx]
  | y :: r, k + 1, x, h, hx => by
    have := flat_set f sz hf hsz u x' r k x (by simpa using h) hx
    rw [List.flatMap_cons, List.set_append_right _ _ (by rw [hf, Nat.succ_mul]; omega), hf, Nat.succ_mul, show k * sz + sz - sz = k * sz by omega, this]
    simp
theorem own_rec0 {α : Type} (f : α → List Value) (sz : Nat) (hf : ∀ x, (f x).length = sz) (hsz : 0 < sz) {w : World} {base : Nat} {e : TypeId} {l : List α} {k : Nat} {x x' : α} {u : Value} {g n cap : Nat} (h : w.ownsRow base e sz (.slice (some ⟨g, 0, none⟩) n cap) l.length (l.flatMap f)) (hn : n = l.length) (hk : l[k]? = some x) (hx : f x' = (f x).set 0 u) :
    (w.setCell ⟨g, k * sz, none⟩ u).ownsRow base e sz (.slice (some ⟨g, 0, none⟩) n cap) (l.set k x').length ((l.set k x').flatMap f) ∧ w.grownBy (w.setCell ⟨g, k * sz, none⟩ u) (Value.slice (some ⟨g, 0, none⟩) n cap).ownBlock := by
  subst hn
  obtain ⟨h1, h2⟩ := World.ownsRow.stored h (k * sz) u
  rw [flat_set f sz hf hsz u x' l k x hk hx] at h1
  rw [List.length_set]
  exact ⟨h1, h2⟩
theorem own_at0 {α : Type} (f : α → List Value) (sz : Nat) (hf : ∀ x, (f x).length = sz) {w : World} {base : Nat} {e : TypeId} {l : List α} {k : Nat} {x : α} {g n cap : Nat} (h : w.ownsRow base e sz (.slice (some ⟨g, 0, none⟩) n cap) l.length (l.flatMap f)) (hn : n = l.length) (hk : l[k]? = some x) (j : Nat) (u : Value) (hu : (f x)[j]? = some u) (hj : j < sz) : w.cell? ⟨g, k * sz + j, none⟩ = some u := by
  subst hn
  obtain ⟨b, o, e1, _, hc⟩ := (own_slice h).2.2 (by have := (List.getElem?_eq_some_iff.1 hk).1; omega)
  injection e1 with e1
  injection e1 with e1 e2
  subst e1 e2
  have := hc (k * sz + j) u (by rw [flat_at f sz hf l k x j hk hj]; exact hu)
  rwa [Nat.zero_add] at this
section
variable {B g : Nat} {W3 W V : World} {F : Int} {v1 v2 v3 v4 v5 : Value} {P P' : List Par} {N N' : List Win} {R R' : List Reg} {T T' : List Prt} {L L' : List CE}
theorem YSt.up (h : YSt B g W3 W F v1 v2 v3 v4 v5 P N R T L) (hb : Below W.heap.size W V) : YSt B g W3 V F v1 v2 v3 v4 v5 P N R T L :=
  ⟨h.bel.trans (hb.mono h.hB), h.hg, Nat.le_trans h.hB hb.size, h.box.below hb h.box.lt, own_below h.o1 hb, own_below h.o2 hb, own_below h.o3 hb, own_below h.o4 hb, own_below h.o5 hb, h.ch.below hb⟩
theorem YSt.mv1 (h : YSt B g W3 W F v1 v2 v3 v4 v5 P N R T L) (hb : Below B W V) (hof : Off 36 W V) (ho : V.ownsRow B 36 4 v1 P'.length (P'.flatMap Par.cells)) : YSt B g W3 V F v1 v2 v3 v4 v5 P' N R T L :=
  ⟨h.bel.trans hb, h.hg, Nat.le_trans h.hB hb.size, h.box.off hof (by decide), ho, own_off h.o2 hof (by decide), own_off h.o3 hof (by decide), own_off h.o4 hof (by decide), own_off h.o5 hof (by decide), h.ch.off hof (by decide)⟩
theorem YSt.inc1 {b n cap k : Nat} {x : Par} (h : YSt B g W3 W F (.slice (some ⟨b, 0, none⟩) n cap) v2 v3 v4 v5 P N R T L) (hn : n = P.length) (hk : P[k]? = some x) (z : Int) : YSt B g W3 (W.setCell ⟨b, k * 4, none⟩ (.int .u16 z)) F (.slice (some ⟨b, 0, none⟩) n cap) v2 v3 v4 v5 (P.set k { x with id := z }) N R T L := by
  obtain ⟨h1, h2⟩ := own_rec0 Par.cells 4 (fun _ => rfl) (by decide) (x' := { x with id := z }) (u := .int .u16 z) h.o1 hn hk rfl
  exact h.mv1 (below_own (Below.refl B W) h2 h.o1 h.hB) (Off.of_own h.o1 h2) h1
theorem YSt.mv2 (h : YSt B g W3 W F v1 v2 v3 v4 v5 P N R T L) (hb : Below B W V) (hof : Off 38 W V) (ho : V.ownsRow B 38 3 v2 N'.length (N'.flatMap Win.cells)) : YSt B g W3 V F v1 v2 v3 v4 v5 P N' R T L :=
  ⟨h.bel.trans hb, h.hg, Nat.le_trans h.hB hb.size, h.box.off hof (by decide), own_off h.o1 hof (by decide), ho, own_off h.o3 hof (by decide), own_off h.o4 hof (by decide), own_off h.o5 hof (by decide), h.ch.off hof (by decide)⟩
theorem YSt.inc2 {b n cap k : Nat} {x : Win} (h : YSt B g W3 W F v1 (.slice (some ⟨b, 0, none⟩) n cap) v3 v4 v5 P N R T L) (hn : n = N.length) (hk : N[k]? = some x) (z : Int) : YSt B g W3 (W.setCell ⟨b, k * 3, none⟩ (.int .u64 z)) F v1 (.slice (some ⟨b, 0, none⟩) n cap) v3 v4 v5 P (N.set k { x with start := z }) R T L := by
  obtain ⟨h1, h2⟩ := own_rec0 Win.cells 3 (fun _ => rfl) (by decide) (x' := { x with start := z }) (u := .int .u64 z) h.o2 hn hk rfl
  exact h.mv2 (below_own (Below.refl B W) h2 h.o2 h.hB) (Off.of_own h.o2 h2) h1
theorem YSt.mv3 (h : YSt B g W3 W F v1 v2 v3 v4 v5 P N R T L) (hb : Below B W V) (hof : Off 40 W V) (ho : V.ownsRow B 40 5 v3 R'.length (R'.flatMap Reg.cells)) : YSt B g W3 V F v1 v2 v3 v4 v5 P N R' T L :=
  ⟨h.bel.trans hb, h.hg, Nat.le_trans h.hB hb.size, h.box.off hof (by decide), own_off h.o1 hof (by decide), own_off h.o2 hof (by decide), ho, own_off h.o4 hof (by decide), own_off h.o5 hof (by decide), h.ch.off hof (by decide)⟩
theorem YSt.inc3 {b n cap k : Nat} {x : Reg} (h : YSt B g W3 W F v1 v2 (.slice (some ⟨b, 0, none⟩) n cap) v4 v5 P N R T L) (hn : n = R.length) (hk : R[k]? = some x) (z : Int) : YSt B g W3 (W.setCell ⟨b, k * 5, none⟩ (.int .u64 z)) F v1 v2 (.slice (some ⟨b, 0, none⟩) n cap) v4 v5 P N (R.set k { x with base := z }) T L := by
  obtain ⟨h1, h2⟩ := own_rec0 Reg.cells 5 (fun _ => rfl) (by decide) (x' := { x with base := z }) (u := .int .u64 z) h.o3 hn hk rfl
  exact h.mv3 (below_own (Below.refl B W) h2 h.o3 h.hB) (Off.of_own h.o3 h2) h1
theorem YSt.mv4 (h : YSt B g W3 W F v1 v2 v3 v4 v5 P N R T L) (hb : Below B W V) (hof : Off 43 W V) (ho : V.ownsRow B 43 6 v4 T'.length (T'.flatMap Prt.cells)) : YSt B g W3 V F v1 v2 v3 v4 v5 P N R T' L :=
  ⟨h.bel.trans hb, h.hg, Nat.le_trans h.hB hb.size, h.box.off hof (by decide), own_off h.o1 hof (by decide), own_off h.o2 hof (by decide), own_off h.o3 hof (by decide), ho, own_off h.o5 hof (by decide), h.ch.off hof (by decide)⟩
theorem YSt.inc4 {b n cap k : Nat} {x : Prt} (h : YSt B g W3 W F v1 v2 v3 (.slice (some ⟨b, 0, none⟩) n cap) v5 P N R T L) (hn : n = T.length) (hk : T[k]? = some x) (z : Int) : YSt B g W3 (W.setCell ⟨b, k * 6, none⟩ (.int .u16 z)) F v1 v2 v3 (.slice (some ⟨b, 0, none⟩) n cap) v5 P N R (T.set k { x with id := z }) L := by
  obtain ⟨h1, h2⟩ := own_rec0 Prt.cells 6 (fun _ => rfl) (by decide) (x' := { x with id := z }) (u := .int .u16 z) h.o4 hn hk rfl
  exact h.mv4 (below_own (Below.refl B W) h2 h.o4 h.hB) (Off.of_own h.o4 h2) h1
theorem YSt.mvD (h : YSt B g W3 W F v1 v2 v3 v4 v5 P N R T L) (hb : Below B W V) (hof : Off 34 W V) (hl : L'.length = L.length) (hc : L'.flatMap CE.cells = L.flatMap CE.cells) (hch : ChnsO V B L') : YSt B g W3 V F v1 v2 v3 v4 v5 P N R T L' :=
  ⟨h.bel.trans hb, h.hg, Nat.le_trans h.hB hb.size, h.box.off hof (by decide), own_off h.o1 hof (by decide), own_off h.o2 hof (by decide), own_off h.o3 hof (by decide), own_off h.o4 hof (by decide), by rw [hl, hc]; exact own_off h.o5 hof (by decide), hch⟩
theorem set_cells {L : List CE} {k : Nat} {e e' : CE} (hk : L[k]? = some e) (he : e'.cells = e.cells) : (L.set k e').flatMap CE.cells = L.flatMap CE.cells := by
  obtain ⟨hlt, rfl⟩ := List.getElem?_eq_some_iff.1 hk
  have h1 : L = L.take k ++ L[k] :: L.drop (k + 1) := by rw [← List.drop_eq_getElem_cons hlt, List.take_append_drop]
  have h2 : L.set k e' = L.take k ++ e' :: L.drop (k + 1) := by rw [List.set_eq_take_append_cons_drop, if_pos hlt]
  rw [h2]
  conv => rhs; rw [h1]
  simp only [List.flatMap_append, List.flatMap_cons, he]
/-- one destination of channel k is written -/
theorem YSt.incD {k j : Nat} {e : CE} (h : YSt B g W3 W F v1 v2 v3 v4 v5 P N R T L) (hk : L[k]? = some e) {b : Nat} (hA : e.A = some ⟨b, 0, none⟩) (z : Int) : YSt B g W3 (W.setCell ⟨b, j, none⟩ (.int .u16 z)) F v1 v2 v3 v4 v5 P N R T (L.set k ⟨{ e.x with dests := e.x.dests.set j z }, e.A, e.c⟩) := by
  obtain ⟨x, A, c⟩ := e
  simp only at hA
  subst hA
  have ho := h.ch.own _ (List.mem_of_getElem? hk)
  obtain ⟨h1, h2'⟩ := World.ownsRow.stored ho j (.int .u16 z)
  have h2 : W.grownBy (W.setCell ⟨b, j, none⟩ (.int .u16 z)) (CE.v ⟨x, some ⟨b, 0, none⟩, c⟩).ownBlock := h2'
  rw [← List.map_set] at h1
  have hv : CE.v ⟨{ x with dests := x.dests.set j z }, some ⟨b, 0, none⟩, c⟩ = CE.v ⟨x, some ⟨b, 0, none⟩, c⟩ := by simp [CE.v]
  refine h.mvD (below_own (Below.refl B W) h2 ho h.hB) (Off.of_own ho h2) (by simp) (set_cells hk (by simp [CE.cells, CE.v])) (h.ch.turn hk hv ?_ h2)
  simpa [CE.v] using h1
end
theorem YSt.start {B : Nat} {W3 w : World} {c : Cfg} {A1 A2 A3 A4 A5 : Option Addr} {c1 c2 c3 c4 c5 : Nat} (hb : Below B W3 w) (hB : B ≤ w.heap.size) (h : OwnC w B c A1 A2 A3 A4 A5 c1 c2 c3 c4 c5) : ∃ (V : World) (L : List CE), w.alloc (.cells #[.int .u64 c.frame, .slice A1 c.parts.length c1, .slice A2 c.wins.length c2, .slice A3 c.regs.length c3, .slice A4 c.ports.length c4, .slice A5 c.chans.length c5] 29) = V ∧ L.length = c.chans.length ∧ L.map (·.x) = c.chans ∧ YSt B w.heap.size W3 V c.frame (.slice A1 c.parts.length c1) (.slice A2 c.wins.length c2) (.slice A3 c.regs.length c3) (.slice A4 c.ports.length c4) (.slice A5 c.chans.length c5) c.parts c.wins c.regs c.ports L := by
  obtain ⟨L, o5, ch, lx⟩ := h.o5
  have hl : L.length = c.chans.length := by have := congrArg List.length lx; simpa using this
  have hba := below_one w (.cells #[.int .u64 c.frame, .slice A1 c.parts.length c1, .slice A2 c.wins.length c2, .slice A3 c.regs.length c3, .slice A4 c.ports.length c4, .slice A5 c.chans.length c5] 29)
  exact ⟨_, L, rfl, hl, lx, hb.trans (hba.mono hB), hB, by simp; omega, Blk.new _ _ _, own_below h.o1 hba, own_below h.o2 hba, own_below h.o3 hba, own_below h.o4 hba, by rw [hl]; exact own_below o5 hba, ch.below hba⟩
set_option maxRecDepth 100000 in
set_option maxHeartbeats 16000000 in
theorem confSame_ok (a : Cfg) (A1 A2 A3 A4 A5 : Option Addr) (a1 a2 a3 a4 a5 : Nat) (b : Cfg) (B1 B2 B3 B4 B5 : Option Addr) (b1 b2 b3 b4 b5 : Nat) (w : World) (hRa : CfgR w w.heap.size a A1 A2 A3 A4 A5 a1 a2 a3 a4 a5) (hsa : a.small) (hoka : a.ok) (hRb : CfgR w w.heap.size b B1 B2 B3 B4 B5 b1 b2 b3 b4 b5) (hsb : b.small) (hokb : b.ok) :
    Calls Tryz.prog 4 #[cfgV a.frame A1 A2 A3 A4 A5 a.parts.length a.wins.length a.regs.length a.ports.length a.chans.length a1 a2 a3 a4 a5, cfgV b.frame B1 B2 B3 B4 B5 b.parts.length b.wins.length b.regs.length b.ports.length b.chans.length b1 b2 b3 b4 b5] w fun e w' => e = .returned (.bool true) ∧ Below w.heap.size w w' := by
  obtain ⟨W0, hW0, ca, hb0⟩ := CBx.new hRa 29
  obtain ⟨W1, hW1, cb, hb1⟩ := CBx.new (hRb.up hb0) 29
  have HW0 := Lib.hid hW0
  have HW1 := Lib.hid hW1
  have e0 : W0.heap.size = w.heap.size + 1 := by rw [← hW0]; simp
  rw [e0] at cb
  have CA := Lib.hid (ca.up hb1)
  have CB := Lib.hid cb
  have HZ1 := Lib.hid (Below.then_ hb0 hb1)
  have HOA := Lib.hid hoka
  have HOB := Lib.hid hokb
  have HSA := Lib.hid hsa
  have HSB := Lib.hid hsb
  have HEA := Lib.hid (show eqC a a = true from eqC_yes rfl)
  obtain ⟨v, hv⟩ : ∃ v, eqC a b = v := ⟨_, rfl⟩
  have HV := Lib.hid hv
  have HTA := Lib.hid hsa.tot
  have HTB := Lib.hid hsb.tot
  obtain ⟨p0, p1, p2, p3, p4, p5⟩ := CA.out.cells
  obtain ⟨q0, q1, q2, q3, q4, q5⟩ := CB.out.cells
  have hz1 := CA.out.z
  have hz2 := CB.out.z
  clear hRa hRb hW0 hW1 ca cb hb0 hb1 hoka hokb hsa hsb hv e0
  rcases Bool.eq_false_or_eq_true (few a) with h1 | h1
  · rcases Bool.eq_false_or_eq_true (few b) with h2 | h2
    · have H1 := Lib.hid h1
      have H2 := Lib.hid h2
      clear h1 h2
      go_enter Tryz.func4, Tryz.ntmps4
      go_upto_region 1 with (fail)
      rw [HW0.out, HW1.out]
      go_wp2_with fail
      refine (few_valB a A1 A2 A3 A4 A5 a1 a2 a3 a4 a5 W1 CA.out.R HSA.out true H1).mono ?_
      rintro e w2 ⟨rfl, hb2⟩
      have CB2 := Lib.hid (CB.out.up hb2)
      have HB2 := Lib.hid hb2
      clear hb2 p0 p1 p2 p3 p4 p5 q0 q1 q2 q3 q4 q5 hz1 hz2
      obtain ⟨q0, q1, q2, q3, q4, q5⟩ := CB2.out.cells
      go_wp2_with fail
      refine (few_valB b B1 B2 B3 B4 B5 b1 b2 b3 b4 b5 w2 CB2.out.R HSB.out true H2).mono ?_
      rintro e w3 ⟨rfl, hb3⟩
      have CA3 := Lib.hid (CA.out.up (Below.then_ HB2.out hb3))
      have CB3 := Lib.hid (CB2.out.up hb3)
      have HZ3 := Lib.hid (Below.then_ HZ1.out (Below.then_ HB2.out hb3))
      clear hb3 q0 q1 q2 q3 q4 q5
      obtain ⟨p0, p1, p2, p3, p4, p5⟩ := CA3.out.cells
      have hz1 := CA3.out.z
      go_wp2_with fail
      refine (cloneR_ok a A1 A2 A3 A4 A5 a1 a2 a3 a4 a5 w3 CA3.out.R HTA.out).mono ?_
      rintro e w4 ⟨X1, X2, X3, X4, X5, x1, x2, x3, x4, x5, rfl, hX, hb4⟩
      obtain ⟨V, hV, cx, hb5⟩ := CBx.new hX 29
      have HVV := Lib.hid hV
      have CAV := Lib.hid (CA3.out.up (Below.then_ hb4 hb5))
      have CBV := Lib.hid (CB3.out.up (Below.then_ hb4 hb5))
      have CXV := Lib.hid cx
      have HZV := Lib.hid (Below.then_ HZ3.out (Below.then_ hb4 hb5))
      clear p0 p1 p2 p3 p4 p5 hz1 hX hb4 hV cx hb5
      go_upto_region 4 with (fail)
      rw [HVV.out]
      clear HVV
      generalize w4.heap.size = gx at *
      have KEEP : ∀ U, Below V.heap.size V U → (fun U => U.cell? ⟨w.heap.size, 0, none⟩ = some (.int .u64 a.frame) ∧ U.cell? ⟨w.heap.size, 1, none⟩ = some (.slice A1 a.parts.length a1) ∧ U.cell? ⟨w.heap.size, 2, none⟩ = some (.slice A2 a.wins.length a2) ∧ U.cell? ⟨w.heap.size, 3, none⟩ = some (.slice A3 a.regs.length a3) ∧ U.cell? ⟨w.heap.size, 4, none⟩ = some (.slice A4 a.ports.length a4) ∧ U.cell? ⟨w.heap.size, 5, none⟩ = some (.slice A5 a.chans.length a5) ∧ U.cell? ⟨w.heap.size + 1, 0, none⟩ = some (.int .u64 b.frame) ∧ U.cell? ⟨w.heap.size + 1, 1, none⟩ = some (.slice B1 b.parts.length b1) ∧ U.cell? ⟨w.heap.size + 1, 2, none⟩ = some (.slice B2 b.wins.length b2) ∧ U.cell? ⟨w.heap.size + 1, 3, none⟩ = some (.slice B3 b.regs.length b3) ∧ U.cell? ⟨w.heap.size + 1, 4, none⟩ = some (.slice B4 b.ports.length b4) ∧ U.cell? ⟨w.heap.size + 1, 5, none⟩ = some (.slice B5 b.chans.length b5) ∧ U.cell? ⟨gx, 0, none⟩ = some (.int .u64 a.frame) ∧ U.cell? ⟨gx, 1, none⟩ = some (.slice X1 a.parts.length x1) ∧ U.cell? ⟨gx, 2, none⟩ = some (.slice X2 a.wins.length x2) ∧ U.cell? ⟨gx, 3, none⟩ = some (.slice X3 a.regs.length x3) ∧ U.cell? ⟨gx, 4, none⟩ = some (.slice X4 a.ports.length x4) ∧ U.cell? ⟨gx, 5, none⟩ = some (.slice X5 a.chans.length x5)) U := fun U hU => by
        obtain ⟨a0, a1, a2, a3, a4, a5⟩ := (CAV.out.up hU).cells
        obtain ⟨b0, b1, b2, b3, b4, b5⟩ := (CBV.out.up hU).cells
        obtain ⟨e0, e1, e2, e3, e4, e5⟩ := (CXV.out.up hU).cells
        exact ⟨a0, a1, a2, a3, a4, a5, b0, b1, b2, b3, b4, b5, e0, e1, e2, e3, e4, e5⟩
      have HKP := Lib.hid KEEP
      obtain ⟨t0, t1, t2, t3, t4, t5, s0, s1, s2, s3, s4, s5, r0, r1, r2, r3, r4, r5⟩ := KEEP V (Below.refl _ _)
      have HBW := Lib.hid (Below.refl V.heap.size V)
      clear KEEP
      go_cut [37] (fun v wx => v = .bool false ∧ Hid (Below V.heap.size V wx))
      case first =>
        go_region_held3 (fun U => U.cell? ⟨w.heap.size, 0, none⟩ = some (.int .u64 a.frame) ∧ U.cell? ⟨w.heap.size, 1, none⟩ = some (.slice A1 a.parts.length a1) ∧ U.cell? ⟨w.heap.size, 2, none⟩ = some (.slice A2 a.wins.length a2) ∧ U.cell? ⟨w.heap.size, 3, none⟩ = some (.slice A3 a.regs.length a3) ∧ U.cell? ⟨w.heap.size, 4, none⟩ = some (.slice A4 a.ports.length a4) ∧ U.cell? ⟨w.heap.size, 5, none⟩ = some (.slice A5 a.chans.length a5) ∧ U.cell? ⟨w.heap.size + 1, 0, none⟩ = some (.int .u64 b.frame) ∧ U.cell? ⟨w.heap.size + 1, 1, none⟩ = some (.slice B1 b.parts.length b1) ∧ U.cell? ⟨w.heap.size + 1, 2, none⟩ = some (.slice B2 b.wins.length b2) ∧ U.cell? ⟨w.heap.size + 1, 3, none⟩ = some (.slice B3 b.regs.length b3) ∧ U.cell? ⟨w.heap.size + 1, 4, none⟩ = some (.slice B4 b.ports.length b4) ∧ U.cell? ⟨w.heap.size + 1, 5, none⟩ = some (.slice B5 b.chans.length b5) ∧ U.cell? ⟨gx, 0, none⟩ = some (.int .u64 a.frame) ∧ U.cell? ⟨gx, 1, none⟩ = some (.slice X1 a.parts.length x1) ∧ U.cell? ⟨gx, 2, none⟩ = some (.slice X2 a.wins.length x2) ∧ U.cell? ⟨gx, 3, none⟩ = some (.slice X3 a.regs.length x3) ∧ U.cell? ⟨gx, 4, none⟩ = some (.slice X4 a.ports.length x4) ∧ U.cell? ⟨gx, 5, none⟩ = some (.slice X5 a.chans.length x5))
          (first | (refine HKP.out _ ?_; (repeat (first | with_reducible exact HBW.out | with_reducible exact Below.refl _ _ | with_reducible refine Below.drew ?_ | (with_reducible refine Below.alloc ?_ (by first | (simp; done) | (have hq := HBW.out.size; simp at hq ⊢; omega)) _) | (with_reducible refine Below.setCell ?_ (by first | (simp; done) | (have hq := HBW.out.size; simp at hq ⊢; omega)) _))); done) | go_keep)
          (first
          | (go_at_call 16; refine (same_ok a A1 A2 A3 A4 A5 a1 a2 a3 a4 a5 b B1 B2 B3 B4 B5 b1 b2 b3 b4 b5 _ (CAV.out.up (by (repeat (first | with_reducible exact HBW.out | with_reducible exact Below.refl _ _ | with_reducible refine Below.drew ?_ | (with_reducible refine Below.alloc ?_ (by first | (simp; done) | (have hq := HBW.out.size; simp at hq ⊢; omega)) _) | (with_reducible refine Below.setCell ?_ (by first | (simp; done) | (have hq := HBW.out.size; simp at hq ⊢; omega)) _))))).R HTA.out (CBV.out.up (by (repeat (first | with_reducible exact HBW.out | with_reducible exact Below.refl _ _ | with_reducible refine Below.drew ?_ | (with_reducible refine Below.alloc ?_ (by first | (simp; done) | (have hq := HBW.out.size; simp at hq ⊢; omega)) _) | (with_reducible refine Below.setCell ?_ (by first | (simp; done) | (have hq := HBW.out.size; simp at hq ⊢; omega)) _))))).R HTB.out v HV).mono ?_; rintro e q1 ⟨rfl, hq⟩; have HBW := Lib.hid (Below.then_ (show Below V.heap.size V _ from (by (repeat (first | with_reducible exact HBW.out | with_reducible exact Below.refl _ _ | with_reducible refine Below.drew ?_ | (with_reducible refine Below.alloc ?_ (by first | (simp; done) | (have hq := HBW.out.size; simp at hq ⊢; omega)) _) | (with_reducible refine Below.setCell ?_ (by first | (simp; done) | (have hq := HBW.out.size; simp at hq ⊢; omega)) _))))) hq); clear hq)
          | (go_at_call 14; ((with_reducible refine (rSame_ok a A1 A2 A3 A4 A5 a1 a2 a3 a4 a5 b B1 B2 B3 B4 B5 b1 b2 b3 b4 b5 _ (CAV.out.up (by (repeat (first | with_reducible exact HBW.out | with_reducible exact Below.refl _ _ | with_reducible refine Below.drew ?_ | (with_reducible refine Below.alloc ?_ (by first | (simp; done) | (have hq := HBW.out.size; simp at hq ⊢; omega)) _) | (with_reducible refine Below.setCell ?_ (by first | (simp; done) | (have hq := HBW.out.size; simp at hq ⊢; omega)) _))))).R (CBV.out.up (by (repeat (first | with_reducible exact HBW.out | with_reducible exact Below.refl _ _ | with_reducible refine Below.drew ?_ | (with_reducible refine Below.alloc ?_ (by first | (simp; done) | (have hq := HBW.out.size; simp at hq ⊢; omega)) _) | (with_reducible refine Below.setCell ?_ (by first | (simp; done) | (have hq := HBW.out.size; simp at hq ⊢; omega)) _))))).R HOA.out HSA.out HOB.out HSB.out v HV).mono ?_); rintro e q1 ⟨rfl, hq⟩; have HBW := Lib.hid (Below.then_ (show Below V.heap.size V _ from (by (repeat (first | with_reducible exact HBW.out | with_reducible exact Below.refl _ _ | with_reducible refine Below.drew ?_ | (with_reducible refine Below.alloc ?_ (by first | (simp; done) | (have hq := HBW.out.size; simp at hq ⊢; omega)) _) | (with_reducible refine Below.setCell ?_ (by first | (simp; done) | (have hq := HBW.out.size; simp at hq ⊢; omega)) _))))) hq); clear hq))
          | (go_at_call 14; ((with_reducible refine (rSame_ok a X1 X2 X3 X4 X5 x1 x2 x3 x4 x5 a A1 A2 A3 A4 A5 a1 a2 a3 a4 a5 _ (CXV.out.up (by (repeat (first | with_reducible exact HBW.out | with_reducible exact Below.refl _ _ | with_reducible refine Below.drew ?_ | (with_reducible refine Below.alloc ?_ (by first | (simp; done) | (have hq := HBW.out.size; simp at hq ⊢; omega)) _) | (with_reducible refine Below.setCell ?_ (by first | (simp; done) | (have hq := HBW.out.size; simp at hq ⊢; omega)) _))))).R (CAV.out.up (by (repeat (first | with_reducible exact HBW.out | with_reducible exact Below.refl _ _ | with_reducible refine Below.drew ?_ | (with_reducible refine Below.alloc ?_ (by first | (simp; done) | (have hq := HBW.out.size; simp at hq ⊢; omega)) _) | (with_reducible refine Below.setCell ?_ (by first | (simp; done) | (have hq := HBW.out.size; simp at hq ⊢; omega)) _))))).R HOA.out HSA.out HOA.out HSA.out true HEA).mono ?_); rintro e q1 ⟨rfl, hq⟩; have HBW := Lib.hid (Below.then_ (show Below V.heap.size V _ from (by (repeat (first | with_reducible exact HBW.out | with_reducible exact Below.refl _ _ | with_reducible refine Below.drew ?_ | (with_reducible refine Below.alloc ?_ (by first | (simp; done) | (have hq := HBW.out.size; simp at hq ⊢; omega)) _) | (with_reducible refine Below.setCell ?_ (by first | (simp; done) | (have hq := HBW.out.size; simp at hq ⊢; omega)) _))))) hq); clear hq))
          | fail)
        all_goals
          clear t0 t1 t2 t3 t4 t5 s0 s1 s2 s3 s4 s5 r0 r1 r2 r3 r4 r5
          go_wp2_with fail
          go_meet
          case rel => exact ⟨by simp, HBW⟩
      case rest =>
      obtain ⟨rfl, HBC⟩ := hcut
      clear t0 t1 t2 t3 t4 t5 s0 s1 s2 s3 s4 s5 r0 r1 r2 r3 r4 r5
      obtain ⟨WA, rfl⟩ : ∃ WA, WA = wc := ⟨_, rfl⟩
      have CAA := Lib.hid (CAV.out.up HBC.out)
      have CXA := Lib.hid (CXV.out.up HBC.out)
      have HZA := Lib.hid (Below.then_ HZV.out HBC.out)
      obtain ⟨r0, r1, r2, r3, r4, r5⟩ := CXA.out.cells
      go_wp2_with fail
      refine (cloneC_ok a X1 X2 X3 X4 X5 x1 x2 x3 x4 x5 WA CXA.out.R HTA.out).mono ?_
      rintro e w6 ⟨Y1, Y2, Y3, Y4, Y5, y1, y2, y3, y4, y5, rfl, hown, hb6⟩
      obtain ⟨W7, L, hW7, hll, hlx, hy⟩ := YSt.start (W3 := WA) hb6 hb6.size hown
      have HW7 := Lib.hid hW7
      have HY := Lib.hid hy
      have HL5 := Lib.hid hll
      have HDL := Lib.hid (show ∀ e ∈ L, e.x.dests.length ≤ 4194304 from fun e he => dests_le HTA.out e.x (by rw [← hlx]; exact List.mem_map.2 ⟨e, he, rfl⟩))
      have HL1 := Lib.hid (rfl : a.parts.length = a.parts.length)
      have HL2 := Lib.hid (rfl : a.wins.length = a.wins.length)
      have HL3 := Lib.hid (rfl : a.regs.length = a.regs.length)
      have HL4 := Lib.hid (rfl : a.ports.length = a.ports.length)
      have bx : a.chans.length ≤ 1048576 := HSA.out.bd.x
      have bp : a.parts.length ≤ 1048576 := HSA.out.bd.p
      have bw : a.wins.length ≤ 1048576 := HSA.out.bd.w
      have br : a.regs.length ≤ 1048576 := HSA.out.bd.r
      have bt : a.ports.length ≤ 1048576 := HSA.out.bd.t
      clear r0 r1 r2 r3 r4 r5 hb6 hown hW7 hll hlx hy
      go_upto_region 7 with (fail)
      rw [HW7.out]
      clear HW7
      generalize w6.heap.size = g at *
      have y1c := HY.out.box.cell 1
      simp at y1c
      have hgl := HY.out.box.lt
      go_upto_region 8 with (fail)
      clear y1c hgl
      go_loopw [43] (fun i wr => ∃ (k : Nat) (P : List Par), k ≤ a.parts.length ∧ i = .int .i64 k ∧ P.length = a.parts.length ∧ Hid (YSt WA.heap.size g WA wr a.frame (.slice Y1 a.parts.length y1) (.slice Y2 a.wins.length y2) (.slice Y3 a.regs.length y3) (.slice Y4 a.ports.length y4) (.slice Y5 a.chans.length y5) P a.wins a.regs a.ports L)) (fun i _ => a.parts.length - (intOf i).toNat)
      case atStart => exact ⟨0, a.parts, Nat.zero_le _, rfl, rfl, HY⟩
      case round =>
        clear HY HL1
        obtain ⟨k, P, hk, rfl, hl, HY⟩ := hrel
        by_cases hlt : k < a.parts.length
        · obtain ⟨x, hx⟩ := get_lt (l := P) (k := k) (by omega)
          have HX := Lib.hid hx
          obtain ⟨b, cap, hv, _, hbl⟩ := HY.out.o1.form (by omega)
          injection hv with hv1 hv2 hv3
          subst hv1 hv3
          clear hv2
          have HLN := Lib.hid hl
          have g0 := own_at0 Par.cells 4 (fun _ => rfl) HY.out.o1 hl.symm hx 0 _ rfl (by decide)
          rw [Nat.add_zero] at g0
          have hoo := HY.out.o1
          rw [hl] at hoo
          have f0 := World.ownsRow.frozenAt hoo (k * 4)
          clear hoo
          have y1c := HY.out.box.cell 1
          simp at y1c
          have hgl := HY.out.box.lt
          have n0 : (0 : Int) ≤ (k : Int) := by omega
          have n1 : (k : Int) < (a.parts.length : Int) := by omega
          clear hx hl
          go_wp2
          go_roundw
          case rel => exact ⟨k + 1, _, by omega, by go_num, by rw [List.length_set]; exact HLN.out, Lib.hid (YSt.inc1 HY.out HLN.out.symm HX.out _)⟩
          case measure => simp [intOf]; omega
        · obtain rfl : k = a.parts.length := by omega
          have HL1' := Lib.hid hl
          clear hl
          have y2c := HY.out.box.cell 2
          simp at y2c
          have hgl := HY.out.box.lt
          go_upto_region 13 with (fail)
          clear y2c hgl
          go_loopw [59] (fun i wr => ∃ (k : Nat) (N : List Win), k ≤ a.wins.length ∧ i = .int .i64 k ∧ N.length = a.wins.length ∧ Hid (YSt WA.heap.size g WA wr a.frame (.slice Y1 a.parts.length y1) (.slice Y2 a.wins.length y2) (.slice Y3 a.regs.length y3) (.slice Y4 a.ports.length y4) (.slice Y5 a.chans.length y5) P N a.regs a.ports L)) (fun i _ => a.wins.length - (intOf i).toNat)
          case atStart => exact ⟨0, a.wins, Nat.zero_le _, rfl, rfl, HY⟩
          case round =>
            clear HY HL2
            obtain ⟨k, N, hk, rfl, hl, HY⟩ := hrel
            by_cases hlt : k < a.wins.length
            · obtain ⟨x, hx⟩ := get_lt (l := N) (k := k) (by omega)
              have HX := Lib.hid hx
              obtain ⟨b, cap, hv, _, hbl⟩ := HY.out.o2.form (by omega)
              injection hv with hv1 hv2 hv3
              subst hv1 hv3
              clear hv2
              have HLN := Lib.hid hl
              have g0 := own_at0 Win.cells 3 (fun _ => rfl) HY.out.o2 hl.symm hx 0 _ rfl (by decide)
              rw [Nat.add_zero] at g0
              have hoo := HY.out.o2
              rw [hl] at hoo
              have f0 := World.ownsRow.frozenAt hoo (k * 3)
              clear hoo
              have y2c := HY.out.box.cell 2
              simp at y2c
              have hgl := HY.out.box.lt
              have n0 : (0 : Int) ≤ (k : Int) := by omega
              have n1 : (k : Int) < (a.wins.length : Int) := by omega
              clear hx hl
              go_wp2
              go_roundw
              case rel => exact ⟨k + 1, _, by omega, by go_num, by rw [List.length_set]; exact HLN.out, Lib.hid (YSt.inc2 HY.out HLN.out.symm HX.out _)⟩
              case measure => simp [intOf]; omega
            · obtain rfl : k = a.wins.length := by omega
              have HL2' := Lib.hid hl
              clear hl
              have y3c := HY.out.box.cell 3
              simp at y3c
              have hgl := HY.out.box.lt
              go_upto_region 18 with (fail)
              clear y3c hgl
              go_loopw [75] (fun i wr => ∃ (k : Nat) (R : List Reg), k ≤ a.regs.length ∧ i = .int .i64 k ∧ R.length = a.regs.length ∧ Hid (YSt WA.heap.size g WA wr a.frame (.slice Y1 a.parts.length y1) (.slice Y2 a.wins.length y2) (.slice Y3 a.regs.length y3) (.slice Y4 a.ports.length y4) (.slice Y5 a.chans.length y5) P N R a.ports L)) (fun i _ => a.regs.length - (intOf i).toNat)
              case atStart => exact ⟨0, a.regs, Nat.zero_le _, rfl, rfl, HY⟩
              case round =>
                clear HY HL3
                obtain ⟨k, R, hk, rfl, hl, HY⟩ := hrel
                by_cases hlt : k < a.regs.length
                · obtain ⟨x, hx⟩ := get_lt (l := R) (k := k) (by omega)
                  have HX := Lib.hid hx
                  obtain ⟨b, cap, hv, _, hbl⟩ := HY.out.o3.form (by omega)
                  injection hv with hv1 hv2 hv3
                  subst hv1 hv3
                  clear hv2
                  have HLN := Lib.hid hl
                  have g0 := own_at0 Reg.cells 5 (fun _ => rfl) HY.out.o3 hl.symm hx 0 _ rfl (by decide)
                  rw [Nat.add_zero] at g0
                  have hoo := HY.out.o3
                  rw [hl] at hoo
                  have f0 := World.ownsRow.frozenAt hoo (k * 5)
                  clear hoo
                  have y3c := HY.out.box.cell 3
                  simp at y3c
                  have hgl := HY.out.box.lt
                  have n0 : (0 : Int) ≤ (k : Int) := by omega
                  have n1 : (k : Int) < (a.regs.length : Int) := by omega
                  clear hx hl
                  go_wp2
                  go_roundw
                  case rel => exact ⟨k + 1, _, by omega, by go_num, by rw [List.length_set]; exact HLN.out, Lib.hid (YSt.inc3 HY.out HLN.out.symm HX.out _)⟩
                  case measure => simp [intOf]; omega
                · obtain rfl : k = a.regs.length := by omega
                  have HL3' := Lib.hid hl
                  clear hl
                  have y4c := HY.out.box.cell 4
                  simp at y4c
                  have hgl := HY.out.box.lt
                  go_upto_region 23 with (fail)
                  clear y4c hgl
                  go_loopw [91] (fun i wr => ∃ (k : Nat) (T : List Prt), k ≤ a.ports.length ∧ i = .int .i64 k ∧ T.length = a.ports.length ∧ Hid (YSt WA.heap.size g WA wr a.frame (.slice Y1 a.parts.length y1) (.slice Y2 a.wins.length y2) (.slice Y3 a.regs.length y3) (.slice Y4 a.ports.length y4) (.slice Y5 a.chans.length y5) P N R T L)) (fun i _ => a.ports.length - (intOf i).toNat)
                  case atStart => exact ⟨0, a.ports, Nat.zero_le _, rfl, rfl, HY⟩
                  case round =>
                    clear HY HL4
                    obtain ⟨k, T, hk, rfl, hl, HY⟩ := hrel
                    by_cases hlt : k < a.ports.length
                    · obtain ⟨x, hx⟩ := get_lt (l := T) (k := k) (by omega)
                      have HX := Lib.hid hx
                      obtain ⟨b, cap, hv, _, hbl⟩ := HY.out.o4.form (by omega)
                      injection hv with hv1 hv2 hv3
                      subst hv1 hv3
                      clear hv2
                      have HLN := Lib.hid hl
                      have g0 := own_at0 Prt.cells 6 (fun _ => rfl) HY.out.o4 hl.symm hx 0 _ rfl (by decide)
                      rw [Nat.add_zero] at g0
                      have hoo := HY.out.o4
                      rw [hl] at hoo
                      have f0 := World.ownsRow.frozenAt hoo (k * 6)
                      clear hoo
                      have y4c := HY.out.box.cell 4
                      simp at y4c
                      have hgl := HY.out.box.lt
                      have n0 : (0 : Int) ≤ (k : Int) := by omega
                      have n1 : (k : Int) < (a.ports.length : Int) := by omega
                      clear hx hl
                      go_wp2
                      go_roundw
                      case rel => exact ⟨k + 1, _, by omega, by go_num, by rw [List.length_set]; exact HLN.out, Lib.hid (YSt.inc4 HY.out HLN.out.symm HX.out _)⟩
                      case measure => simp [intOf]; omega
                    · obtain rfl : k = a.ports.length := by omega
                      have HL4' := Lib.hid hl
                      clear hl
                      have y5c := HY.out.box.cell 5
                      simp at y5c
                      have hgl := HY.out.box.lt
                      go_upto_region 28 with (fail)
                      clear y5c hgl
                      go_loopw [107] (fun i wr => ∃ (k : Nat) (L : List CE), k ≤ a.chans.length ∧ i = .int .i64 k ∧ L.length = a.chans.length ∧ Hid (∀ e ∈ L, e.x.dests.length ≤ 4194304) ∧ Hid (YSt WA.heap.size g WA wr a.frame (.slice Y1 a.parts.length y1) (.slice Y2 a.wins.length y2) (.slice Y3 a.regs.length y3) (.slice Y4 a.ports.length y4) (.slice Y5 a.chans.length y5) P N R T L)) (fun i _ => a.chans.length - (intOf i).toNat)
                      case atStart => exact ⟨0, _, Nat.zero_le _, rfl, HL5.out, HDL, HY⟩
                      case round =>
                        clear HY HL5 HDL
                        obtain ⟨k, L, hk, rfl, hl, HDL, HY⟩ := hrel
                        by_cases hlt : k < a.chans.length
                        · obtain ⟨e, he⟩ := get_lt (l := L) (k := k) (by omega)
                          have HE := Lib.hid he
                          obtain ⟨b, cap, hv, _, hbl⟩ := HY.out.o5.form (by omega)
                          injection hv with hv1 hv2 hv3
                          subst hv1 hv3
                          clear hv2
                          have HLN := Lib.hid hl
                          have hdl := HDL.out e (List.mem_of_getElem? he)
                          have g0 := own_at0 CE.cells 3 (fun _ => rfl) HY.out.o5 hl.symm he 0 _ rfl (by decide)
                          have g1 := own_at0 CE.cells 3 (fun _ => rfl) HY.out.o5 hl.symm he 1 _ rfl (by decide)
                          have g2 := own_at0 CE.cells 3 (fun _ => rfl) HY.out.o5 hl.symm he 2 _ rfl (by decide)
                          rw [Nat.add_zero] at g0
                          have n0 : (0 : Int) ≤ (k : Int) := by omega
                          have n1 : (k : Int) < (a.chans.length : Int) := by omega
                          clear he hl
                          go_upto_region 30 with (fail)
                          have hba := below_one wr (.cells #[.int .u16 e.x.id, .int .u16 e.x.source, .slice e.A e.x.dests.length e.c] 46)
                          have HYa := Lib.hid (HY.out.up hba)
                          have hbk := Blk.new wr 46 #[.int .u16 e.x.id, .int .u16 e.x.source, .slice e.A e.x.dests.length e.c]
                          clear g0 g1 g2 HY hba
                          generalize World.alloc wr _ = W5 at *
                          generalize wr.heap.size = gd at *
                          obtain ⟨ex, eA, ec⟩ := e
                          simp only at hdl hbk HE ⊢
                          have hq := hbk.cell 2
                          simp at hq
                          have hqlt := hbk.lt
                          have HBK := Lib.hid hbk
                          obtain ⟨m, hm⟩ : ∃ m, ex.dests.length = m := ⟨_, rfl⟩
                          rw [hm] at hq HBK hdl
                          try rw [hm]
                          have HM := Lib.hid hm
                          clear hm hbk
                          go_upto_region 31 with (fail)
                          clear hq hqlt
                          go_loopw [114] (fun i wr => ∃ (j : Nat) (l : List Int), j ≤ m ∧ i = .int .i64 j ∧ l.length = m ∧ Hid (Blk wr gd 46 #[.int .u16 ex.id, .int .u16 ex.source, .slice eA m ec]) ∧ Hid (YSt WA.heap.size g WA wr a.frame (.slice Y1 a.parts.length y1) (.slice Y2 a.wins.length y2) (.slice Y3 a.regs.length y3) (.slice Y4 a.ports.length y4) (.slice (some ⟨b, 0, none⟩) a.chans.length y5) P N R T (L.set k ⟨{ ex with dests := l }, eA, ec⟩))) (fun i _ => m - (intOf i).toNat)
                          case atStart => exact ⟨0, ex.dests, Nat.zero_le _, rfl, HM.out, HBK, Lib.hid (by
                            have h : L.set k ⟨{ ex with dests := ex.dests }, eA, ec⟩ = L := by
                              obtain ⟨hlk, hek⟩ := List.getElem?_eq_some_iff.1 HE.out
                              rw [← hek]
                              exact List.set_getElem_self hlk
                            rw [h]
                            exact HYa.out)⟩
                          case round =>
                            clear HBK HYa
                            obtain ⟨j, l, hj, rfl, hll, HBK, HYj⟩ := hrel
                            have HLL := Lib.hid hll
                            have hek := List.getElem?_set_self (l := L) (i := k) (a := (⟨{ ex with dests := l }, eA, ec⟩ : CE)) (by rw [HLN.out]; exact hlt)
                            have HEK := Lib.hid hek
                            by_cases hltj : j < m
                            · have ho := HYj.out.ch.own _ (List.mem_of_getElem? hek)
                              obtain ⟨b2, cap2, hv, _, hbl2⟩ := ho.form (by show 0 < l.length; omega)
                              injection hv with hv1 hv2 hv3
                              simp only at hv1 hv3
                              subst hv1 hv3
                              clear hv2
                              obtain ⟨z, hz⟩ := get_lt (l := l) (k := j) (by omega)
                              have hq2 : (CE.v ⟨{ ex with dests := l }, some ⟨b2, 0, none⟩, ec⟩) = .slice (some ⟨b2, 0, none⟩) l.length ec := rfl
                              rw [hq2] at ho
                              have g0 := intF_at (own_slice ho).2 hz
                              rw [Nat.zero_add] at g0
                              have f0 := World.ownsRow.frozenAt ho j
                              have hq := HBK.out.cell 2
                              simp at hq
                              have hqlt := HBK.out.lt
                              have n0 : (0 : Int) ≤ (j : Int) := by omega
                              have n1 : (j : Int) < (m : Int) := by omega
                              have HOF := Lib.hid (fun u : Int => Off.of_own (v := .slice (some ⟨b2, 0, none⟩) l.length ec) ho (World.ownsRow.stored ho j (.int .u16 u)).2)
                              clear ho hz hek hll hq2
                              go_wp2
                              go_roundw
                              case rel => exact ⟨j + 1, l.set j (IntKind.u16.wrap (z + 1)), by omega, by go_num, by rw [List.length_set]; exact HLL.out, Lib.hid (HBK.out.off (HOF.out _) (by decide)), Lib.hid (by
                                have h := YSt.incD (j := j) HYj.out HEK.out rfl (IntKind.u16.wrap (z + 1))
                                rw [List.set_set] at h
                                exact h)⟩
                              case measure => simp [intOf]; omega
                            · obtain rfl : j = m := by omega
                              have HD2 := Lib.hid (show ∀ e ∈ L.set k ⟨{ ex with dests := l }, eA, ec⟩, e.x.dests.length ≤ 4194304 from fun e he => by
                                rcases List.mem_or_eq_of_mem_set he with h | rfl
                                · exact HDL.out e h
                                · show l.length ≤ _
                                  rw [HLL.out]; exact hdl)
                              clear hek hll
                              go_wp2
                              go_roundw
                              case rel => exact ⟨k + 1, _, by omega, by go_num, by rw [List.length_set]; exact HLN.out, HD2, HYj⟩
                              case measure => simp [intOf]; omega
                        · obtain rfl : k = a.chans.length := by omega
                          have BX := Lib.hid (CXA.out.up HY.out.bel)
                          have BA := Lib.hid (CAA.out.up HY.out.bel)
                          have HZ := Lib.hid (Below.then_ HZA.out HY.out.bel)
                          obtain ⟨s0, s1, s2, s3, s4, s5⟩ := BA.out.cells
                          obtain ⟨r0, r1, r2, r3, r4, r5⟩ := BX.out.cells
                          have hz1 := BA.out.z
                          have hz2 := BX.out.z
                          clear hl HDL
                          go_wp2_with fail
                          refine (alive_ok _).mono ?_
                          rintro e w8 ⟨rfl, hb8⟩
                          have BX8 := Lib.hid (BX.out.up hb8)
                          have BA8 := Lib.hid (BA.out.up hb8)
                          have HZ8 := Lib.hid (Below.then_ HZ.out hb8)
                          clear s0 s1 s2 s3 s4 s5 r0 r1 r2 r3 r4 r5 hz1 hz2 hb8
                          obtain ⟨s0, s1, s2, s3, s4, s5⟩ := BA8.out.cells
                          obtain ⟨r0, r1, r2, r3, r4, r5⟩ := BX8.out.cells
                          go_wp2_with fail
                          refine (rSame_ok a X1 X2 X3 X4 X5 x1 x2 x3 x4 x5 a A1 A2 A3 A4 A5 a1 a2 a3 a4 a5 w8 BX8.out.R BA8.out.R HOA.out HSA.out HOA.out HSA.out true HEA).mono ?_
                          rintro e w9 ⟨rfl, hb9⟩
                          have HZ9 := Lib.hid (Below.then_ HZ8.out hb9)
                          clear hb9
                          go_wp2
                          go_ret
                          exact ⟨rfl, HZ9.out⟩
    · have H1 := Lib.hid h1
      have H2 := Lib.hid h2
      clear h1 h2
      go_enter Tryz.func4, Tryz.ntmps4
      go_upto_region 1 with (fail)
      rw [HW0.out, HW1.out]
      go_wp2_with fail
      refine (few_valB a A1 A2 A3 A4 A5 a1 a2 a3 a4 a5 W1 CA.out.R HSA.out true H1).mono ?_
      rintro e w2 ⟨rfl, hb2⟩
      have CB2 := Lib.hid (CB.out.up hb2)
      have HB2 := Lib.hid (Below.then_ HZ1.out hb2)
      clear hb2 p0 p1 p2 p3 p4 p5 q0 q1 q2 q3 q4 q5 hz1 hz2
      obtain ⟨q0, q1, q2, q3, q4, q5⟩ := CB2.out.cells
      go_wp2_with fail
      refine (few_valB b B1 B2 B3 B4 B5 b1 b2 b3 b4 b5 w2 CB2.out.R HSB.out false H2).mono ?_
      rintro e w3 ⟨rfl, hb3⟩
      have HZx := Lib.hid (Below.then_ HB2.out hb3)
      clear hb3 q0 q1 q2 q3 q4 q5
      go_wp2_with fail
      refine (alive_ok _).mono ?_
      rintro e w9 ⟨rfl, hb9⟩
      have HZ9 := Lib.hid (Below.then_ HZx.out hb9)
      clear hb9
      go_wp2
      go_ret
      exact ⟨rfl, HZ9.out⟩
  · have H1 := Lib.hid h1
    clear h1
    go_enter Tryz.func4, Tryz.ntmps4
    go_upto_region 1 with (fail)
    rw [HW0.out, HW1.out]
    go_wp2_with fail
    refine (few_valB a A1 A2 A3 A4 A5 a1 a2 a3 a4 a5 W1 CA.out.R HSA.out false H1).mono ?_
    rintro e w2 ⟨rfl, hb2⟩
    have HZx := Lib.hid (Below.then_ HZ1.out hb2)
    clear hb2 p0 p1 p2 p3 p4 p5 q0 q1 q2 q3 q4 q5 hz1 hz2
    go_wp2_with fail
    refine (alive_ok _).mono ?_
    rintro e w9 ⟨rfl, hb9⟩
    have HZ9 := Lib.hid (Below.then_ HZx.out hb9)
    clear hb9
    go_wp2
    go_ret
    exact ⟨rfl, HZ9.out⟩
end Go.Proofs.YtldchpmilknlmaaGreat
namespace Go.Proofs.YtldchpmilknlmaaGreat
open Go.RowKit Go.Shelf Go.Lib Go.Sort
instance revInhCE : Inhabited CE := ⟨⟨⟨0, 0, []⟩, none, 0⟩⟩
theorem revPar_own {w : World} {base : Nat} {v : Value} {l : List Par} (h : w.ownsRow base 36 4 v l.length (l.flatMap Par.cells)) (hl : l.length ≤ 4194304) :
    Calls Tryz.prog 26 #[v] w fun r w' => r = .returned (.tuple #[]) ∧ w'.ownsRow base 36 4 v l.length (l.reverse.flatMap Par.cells) ∧ Off 36 w w' ∧ Below base w w' := by
  have h1 : ∀ x, ∀ v ∈ Par.cells x, v.oneCell' = true := fun x v hv => by simp [Par.cells] at hv; rcases hv with rfl | rfl | rfl | rfl <;> rfl
  exact rev_own (enc := Par.cells) (fun _ => rfl) (fun blk off cap d w => AnyQ.slices_Reverse Tryz.reversePar 4 Tryz.isAgg36 Tryz.sizeOf36 Par.cells (fun _ => rfl) h1 blk off cap d w) (fun a cap w => AnyQ.slices_Reverse_empty Tryz.reversePar a cap w) h hl
theorem revChn_own {w : World} {base : Nat} {v : Value} {l : List CE} (h : w.ownsRow base 46 3 v l.length (l.flatMap CE.cells)) (hl : l.length ≤ 4194304) :
    Calls Tryz.prog 28 #[v] w fun r w' => r = .returned (.tuple #[]) ∧ w'.ownsRow base 46 3 v l.length (l.reverse.flatMap CE.cells) ∧ Off 46 w w' ∧ Below base w w' := by
  have h1 : ∀ x, ∀ v ∈ CE.cells x, v.oneCell' = true := fun x v hv => by simp [CE.cells] at hv; rcases hv with rfl | rfl | rfl <;> rfl
  exact rev_own (enc := CE.cells) (fun _ => rfl) (fun blk off cap d w => AnyQ.slices_Reverse Tryz.reverseChn 3 Tryz.isAgg46 Tryz.sizeOf46 CE.cells (fun _ => rfl) h1 blk off cap d w) (fun a cap w => AnyQ.slices_Reverse_empty Tryz.reverseChn a cap w) h hl
end Go.Proofs.YtldchpmilknlmaaGreat
namespace Go.Proofs.YtldchpmilknlmaaGreat
open Go.RowKit
theorem Cfg.norm_ok {c : Cfg} (h : c.ok) : c.norm.ok := by
  have h2 := Cfg.srt_ok h
  exact ⟨h.frame, fun p hp => h.parts p ((normK_perm keyPar c.parts).mem_iff.1 hp), fun p hp => h.wins p ((normK_perm keyWin c.wins).mem_iff.1 hp), fun p hp => h.regs p ((normK_perm keyReg c.regs).mem_iff.1 hp), fun p hp => h.ports p ((normK_perm keyPrt c.ports).mem_iff.1 hp), fun p hp => h2.chans p ((normK_perm keyChn _).mem_iff.1 hp)⟩
theorem rNormalD_ok (c d : Cfg) (hd : Hid (c.norm = d)) (A1 A2 A3 A4 A5 : Option Addr) (c1 c2 c3 c4 c5 : Nat) (w : World) (hR : CfgR w w.heap.size c A1 A2 A3 A4 A5 c1 c2 c3 c4 c5) (hok : c.ok) (hs : c.small) : Calls Tryz.prog 13 #[cfgV c.frame A1 A2 A3 A4 A5 c.parts.length c.wins.length c.regs.length c.ports.length c.chans.length c1 c2 c3 c4 c5] w fun e w' => ∃ (B1 B2 B3 B4 B5 : Option Addr) (b1 b2 b3 b4 b5 : Nat),
    e = .returned (cfgV d.frame B1 B2 B3 B4 B5 d.parts.length d.wins.length d.regs.length d.ports.length d.chans.length b1 b2 b3 b4 b5) ∧ CfgR w' w'.heap.size d B1 B2 B3 B4 B5 b1 b2 b3 b4 b5 ∧ Below w.heap.size w w' := by
  have h := rNormal_ok c A1 A2 A3 A4 A5 c1 c2 c3 c4 c5 w hR hok hs
  rw [hd.out] at h
  exact h
end Go.Proofs.YtldchpmilknlmaaGreat
namespace Go.Proofs.YtldchpmilknlmaaGreat
open Go.RowKit
theorem run_grow_nil {P : Program} (w : World) (t tn ty e : TypeId) (i : TypeInfo) (z : Value) (sz bytes : Nat) (ht : P.underlying t = some (.slice e)) (htn : P.underlying tn = some (.int .i64)) (hi : P.info? e = some i) (hz : i.zero = some z) (hs : i.size = sz) (hby : i.bytes = bytes) (hzs : z.cells.size = sz) (hs0 : 0 < sz)
    (n : Nat) (h0 : 0 < n) (h63 : n ≤ 16777216) (h48 : bytes ≤ 1024) :
    ∃ C W1, (Builtin.append_ #[t, tn] ty #[.slice none 0 0, .int .i64 n]).run P w = .ok (.slice (some ⟨w.heap.size, 0, none⟩) n C) W1 ∧ 0 < C ∧ W1.ownsRow w.heap.size e sz (.slice (some ⟨w.heap.size, 0, none⟩) 0 C) 0 [] ∧ Below w.heap.size w W1 := by
  subst hs hby
  have h := Lib.run_append_nil_zeros (P := P) w t tn ty e i z .i64 .i64 ht htn hi hz n h0 hs0 (by omega) (by
    have := Nat.mul_le_mul h63 h48
    omega)
  refine ⟨_, _, h, Nat.lt_of_lt_of_le h0 (grownCap_ge w n 0 e), ⟨by simp, .inr ⟨w.heap.size, _, _, rfl, Nat.le_refl _, heap_alloc_new w.drew _, Nat.zero_le _, grownCap_le_maxLen w n 0 e (by unfold maxLen; omega), ?_, by simp⟩⟩, ((Below.refl _ _).drew).alloc (Nat.le_refl _) _⟩
  have hge := grownCap_ge w n 0 e
  rw [Array.size_append, size_zeroCells, size_zeroCells, hzs, ← Nat.add_mul]
  congr 1
  omega
theorem slice_zero {P : Program} {t : TypeId} {sz : Nat} (ht : P.underlying t = some (.slice (P.elem t))) (hz : ∀ W, (sizeOf (P.elem t)).run P W = .ok sz W) (g n C : Nat) (h0 : 0 < C) (W : World) : (Instr.slice t (.slice (some ⟨g, 0, none⟩) n C) none (some (.int .i64 0)) none).run P W = .ok (.slice (some ⟨g, 0, none⟩) 0 C) W := by
  have h := run_slice_h (P := P) W t (some ⟨g, 0, none⟩) n C ht .i64 0 (by omega) (by omega)
  rw [h, hz]
  simp [Result.andThen, sliced, addr_add]
theorem run_sizeOfC {P : Program} {e : TypeId} {i : TypeInfo} {sz : Nat} (hi : P.info? e = some i) (hs : i.size = sz) (W : World) : (sizeOf e).run P W = .ok sz W := by
  simp [sizeOf, typeInfo, hi, hs]
theorem int_und : Tryz.prog.underlying 3 = some (.int .i64) := by kernel_rfl
set_option maxRecDepth 100000 in
set_option maxHeartbeats 2000000 in
theorem growPar_ok (n : Nat) (hn : n ≤ 16777216) (w : World) : Calls Tryz.prog 63 #[.slice none 0 0, .int .i64 n] w fun e w' => ∃ v, e = .returned v ∧ w'.ownsRow w.heap.size 36 4 v 0 [] ∧ Below w.heap.size w w' := by
  obtain ⟨i0, hi, hz0, hz1, hz2⟩ := info_parts infoPartition
  by_cases h0 : n = 0
  · subst h0
    go_enter Tryz.func63, Tryz.ntmps63
    go_wp2
    go_ret
    exact ⟨_, rfl, World.ownsRow_nil _ _ _ _, Below.refl _ _⟩
  · have hp : (0 : Int) < (n : Int) := by omega
    obtain ⟨C, W1, hr, hC, hown, hb⟩ := run_grow_nil (P := Tryz.prog) w 23 3 23 36 i0 (.agg #[.int .u16 0, .string .empty, .int .u64 0, .int .u64 0]) 4 40 Tryz.underlying23 int_und hi hz0 hz1 hz2 rfl (by decide) n (by omega) hn (by decide)
    have HR := Lib.hid hr
    have HO := Lib.hid hown
    have HB := Lib.hid hb
    have hsl := slice_zero (P := Tryz.prog) (t := 23) (sz := 4) Tryz.underlying23 (run_sizeOfC hi hz1) w.heap.size n C hC
    clear hr hown hb h0
    go_enter Tryz.func63, Tryz.ntmps63
    go_wp2_with (at_builtin; go_loud (refine Lib.wpList_append_run _ rfl (.tmp 20) (.tmp 21) _ _ rfl (.slice none 0 0) (.int .i64 n) rfl rfl _ _ HR.out ?_))
    go_ret
    exact ⟨_, rfl, HO.out, HB.out⟩
set_option maxRecDepth 100000 in
set_option maxHeartbeats 4000000 in
theorem concatPar_ok (A B : Option Addr) (n m a b g : Nat) (xs ys : List Value) (w : World) (c0 : w.cell? ⟨g, 0, none⟩ = some (.slice A n a)) (c1 : w.cell? ⟨g, 1, none⟩ = some (.slice B m b)) (hg : g < w.heap.size) (hA : Rd w w.heap.size 4 A n xs) (hB : Rd w w.heap.size 4 B m ys) (h1 : ∀ u ∈ xs, u.oneCell' = true) (h2 : ∀ u ∈ ys, u.oneCell' = true) (hn : n ≤ 4194304) (hm : m ≤ 4194304) :
    Calls Tryz.prog 17 #[.slice (some ⟨g, 0, none⟩) 2 2] w fun e w' => ∃ v, e = .returned v ∧ w'.ownsRow w.heap.size 36 4 v (n + m) (xs ++ ys) ∧ Below w.heap.size w w' := by
  obtain ⟨i0, hi, hz0, hz1, hz2⟩ := info_parts infoPartition
  have HA := Lib.hid hA
  have HB := Lib.hid hB
  have H1 := Lib.hid h1
  have H2 := Lib.hid h2
  have C0 := Lib.hid c0
  have C1 := Lib.hid c1
  have HG := Lib.hid hg
  clear hA hB h1 h2
  go_enter Tryz.func17, Tryz.ntmps17
  go_wp2
  go_loop [3, 11] (fun s i => (s = .int .i64 (0 : Nat) ∧ i = .int .i64 (0 : Nat)) ∨ (s = .int .i64 n ∧ i = .int .i64 (1 : Nat)) ∨ (s = .int .i64 (n + m : Nat) ∧ i = .int .i64 (2 : Nat))) (fun _ i => 2 - (intOf i).toNat)
  case atStart => exact .inl ⟨rfl, rfl⟩
  case round =>
    rcases hrel with ⟨rfl, rfl⟩ | ⟨rfl, rfl⟩ | ⟨rfl, rfl⟩
    · go_wp2
      go_round
      case rel => exact .inr (.inl ⟨by simp, by simp⟩)
      case measure => simp [intOf]
    · go_wp2
      go_round
      case rel => exact .inr (.inr ⟨by simp, by simp⟩)
      case measure => simp [intOf]
    · clear c0 c1 hg
      go_wp2_with fail
      refine (growPar_ok (n + m) (by omega) w).mono ?_
      rintro e w1 ⟨v, rfl, ho, hb⟩
      have HO := Lib.hid ho
      have HBl := Lib.hid hb
      obtain ⟨vA, vc, rfl, _⟩ := own_form ho
      clear ho hb
      go_wp2
      go_loopw [6, 27] (fun s i wr => (i = .int .i64 (0 : Nat) ∧ Hid (wr.ownsRow w.heap.size 36 4 s 0 []) ∧ Hid (Below w.heap.size w wr)) ∨ (i = .int .i64 (1 : Nat) ∧ Hid (wr.ownsRow w.heap.size 36 4 s n xs) ∧ Hid (Below w.heap.size w wr)) ∨ (i = .int .i64 (2 : Nat) ∧ Hid (wr.ownsRow w.heap.size 36 4 s (n + m) (xs ++ ys)) ∧ Hid (Below w.heap.size w wr))) (fun _ i _ => 2 - (intOf i).toNat)
      case atStart => exact .inl ⟨rfl, HO, HBl⟩
      case round =>
        clear HO HBl
        rcases hrel with ⟨rfl, HO, HBl⟩ | ⟨rfl, HO, HBl⟩ | ⟨rfl, HO, HBl⟩
        · have g0 := (HBl.out.cell (p := ⟨g, 0, none⟩) HG.out).trans C0.out
          have HAr := Lib.hid (HA.out.below HBl.out)
          obtain ⟨vA, vc, rfl, _⟩ := own_form HO.out
          have hszr := HBl.out.size
          go_wp2_with (at_builtin; go_loud (refine wpList_append_rd _ rfl (.tmp 31) (.tmp 32) _ rfl w.heap.size 36 i0 (.agg #[.int .u16 0, .string .empty, .int .u64 0, .int .u64 0]) 4 40 Tryz.underlying23 hi hz0 hz1 hz2 rfl (by decide) _ 0 [] rfl HO.out w.heap.size A n a xs rfl HAr.out H1.out (by unfold maxLen; omega) (by omega) hszr ?_); intro v' w3 hown hgr)
          have HB3 := Lib.hid (below_own HBl.out hgr HO.out hszr)
          have HO3 := Lib.hid (show w3.ownsRow w.heap.size 36 4 v' n xs by simpa using hown)
          clear hown hgr
          go_roundw
          case rel => exact .inr (.inl ⟨by simp, HO3, HB3⟩)
          case measure => simp [intOf]
        · have g1 := (HBl.out.cell (p := ⟨g, 1, none⟩) HG.out).trans C1.out
          have HAr := Lib.hid (HB.out.below HBl.out)
          obtain ⟨vA, vc, rfl, _⟩ := own_form HO.out
          have hszr := HBl.out.size
          go_wp2_with (at_builtin; go_loud (refine wpList_append_rd _ rfl (.tmp 31) (.tmp 32) _ rfl w.heap.size 36 i0 (.agg #[.int .u16 0, .string .empty, .int .u64 0, .int .u64 0]) 4 40 Tryz.underlying23 hi hz0 hz1 hz2 rfl (by decide) _ n xs rfl HO.out w.heap.size B m b ys rfl HAr.out H2.out (by unfold maxLen; omega) (by omega) hszr ?_); intro v' w3 hown hgr)
          have HB3 := Lib.hid (below_own HBl.out hgr HO.out hszr)
          have HO3 := Lib.hid hown
          clear hown hgr
          go_roundw
          case rel => exact .inr (.inr ⟨by simp, HO3, HB3⟩)
          case measure => simp [intOf]
        · obtain ⟨vA, vc, rfl, _⟩ := own_form HO.out
          go_wp2
          go_ret
          exact ⟨_, rfl, HO.out, HBl.out⟩
set_option maxRecDepth 100000 in
set_option maxHeartbeats 2000000 in
theorem growWin_ok (n : Nat) (hn : n ≤ 16777216) (w : World) : Calls Tryz.prog 64 #[.slice none 0 0, .int .i64 n] w fun e w' => ∃ v, e = .returned v ∧ w'.ownsRow w.heap.size 38 3 v 0 [] ∧ Below w.heap.size w w' := by
  obtain ⟨i0, hi, hz0, hz1, hz2⟩ := info_parts infoWindow
  by_cases h0 : n = 0
  · subst h0
    go_enter Tryz.func64, Tryz.ntmps64
    go_wp2
    go_ret
    exact ⟨_, rfl, World.ownsRow_nil _ _ _ _, Below.refl _ _⟩
  · have hp : (0 : Int) < (n : Int) := by omega
    obtain ⟨C, W1, hr, hC, hown, hb⟩ := run_grow_nil (P := Tryz.prog) w 24 3 24 38 i0 (.agg #[.int .u64 0, .int .u64 0, .int .u16 0]) 3 24 Tryz.underlying24 int_und hi hz0 hz1 hz2 rfl (by decide) n (by omega) hn (by decide)
    have HR := Lib.hid hr
    have HO := Lib.hid hown
    have HB := Lib.hid hb
    have hsl := slice_zero (P := Tryz.prog) (t := 24) (sz := 3) Tryz.underlying24 (run_sizeOfC hi hz1) w.heap.size n C hC
    clear hr hown hb h0
    go_enter Tryz.func64, Tryz.ntmps64
    go_wp2_with (at_builtin; go_loud (refine Lib.wpList_append_run _ rfl (.tmp 20) (.tmp 21) _ _ rfl (.slice none 0 0) (.int .i64 n) rfl rfl _ _ HR.out ?_))
    go_ret
    exact ⟨_, rfl, HO.out, HB.out⟩
set_option maxRecDepth 100000 in
set_option maxHeartbeats 4000000 in
theorem concatWin_ok (A B : Option Addr) (n m a b g : Nat) (xs ys : List Value) (w : World) (c0 : w.cell? ⟨g, 0, none⟩ = some (.slice A n a)) (c1 : w.cell? ⟨g, 1, none⟩ = some (.slice B m b)) (hg : g < w.heap.size) (hA : Rd w w.heap.size 3 A n xs) (hB : Rd w w.heap.size 3 B m ys) (h1 : ∀ u ∈ xs, u.oneCell' = true) (h2 : ∀ u ∈ ys, u.oneCell' = true) (hn : n ≤ 4194304) (hm : m ≤ 4194304) :
    Calls Tryz.prog 18 #[.slice (some ⟨g, 0, none⟩) 2 2] w fun e w' => ∃ v, e = .returned v ∧ w'.ownsRow w.heap.size 38 3 v (n + m) (xs ++ ys) ∧ Below w.heap.size w w' := by
  obtain ⟨i0, hi, hz0, hz1, hz2⟩ := info_parts infoWindow
  have HA := Lib.hid hA
  have HB := Lib.hid hB
  have H1 := Lib.hid h1
  have H2 := Lib.hid h2
  have C0 := Lib.hid c0
  have C1 := Lib.hid c1
  have HG := Lib.hid hg
  clear hA hB h1 h2
  go_enter Tryz.func18, Tryz.ntmps18
  go_wp2
  go_loop [3, 11] (fun s i => (s = .int .i64 (0 : Nat) ∧ i = .int .i64 (0 : Nat)) ∨ (s = .int .i64 n ∧ i = .int .i64 (1 : Nat)) ∨ (s = .int .i64 (n + m : Nat) ∧ i = .int .i64 (2 : Nat))) (fun _ i => 2 - (intOf i).toNat)
  case atStart => exact .inl ⟨rfl, rfl⟩
  case round =>
    rcases hrel with ⟨rfl, rfl⟩ | ⟨rfl, rfl⟩ | ⟨rfl, rfl⟩
    · go_wp2
      go_round
      case rel => exact .inr (.inl ⟨by simp, by simp⟩)
      case measure => simp [intOf]
    · go_wp2
      go_round
      case rel => exact .inr (.inr ⟨by simp, by simp⟩)
      case measure => simp [intOf]
    · clear c0 c1 hg
      go_wp2_with fail
      refine (growWin_ok (n + m) (by omega) w).mono ?_
      rintro e w1 ⟨v, rfl, ho, hb⟩
      have HO := Lib.hid ho
      have HBl := Lib.hid hb
      obtain ⟨vA, vc, rfl, _⟩ := own_form ho
      clear ho hb
      go_wp2
      go_loopw [6, 27] (fun s i wr => (i = .int .i64 (0 : Nat) ∧ Hid (wr.ownsRow w.heap.size 38 3 s 0 []) ∧ Hid (Below w.heap.size w wr)) ∨ (i = .int .i64 (1 : Nat) ∧ Hid (wr.ownsRow w.heap.size 38 3 s n xs) ∧ Hid (Below w.heap.size w wr)) ∨ (i = .int .i64 (2 : Nat) ∧ Hid (wr.ownsRow w.heap.size 38 3 s (n + m) (xs ++ ys)) ∧ Hid (Below w.heap.size w wr))) (fun _ i _ => 2 - (intOf i).toNat)
      case atStart => exact .inl ⟨rfl, HO, HBl⟩
      case round =>
        clear HO HBl
        rcases hrel with ⟨rfl, HO, HBl⟩ | ⟨rfl, HO, HBl⟩ | ⟨rfl, HO, HBl⟩
        · have g0 := (HBl.out.cell (p := ⟨g, 0, none⟩) HG.out).trans C0.out
          have HAr := Lib.hid (HA.out.below HBl.out)
          obtain ⟨vA, vc, rfl, _⟩ := own_form HO.out
          have hszr := HBl.out.size
          go_wp2_with (at_builtin; go_loud (refine wpList_append_rd _ rfl (.tmp 31) (.tmp 32) _ rfl w.heap.size 38 i0 (.agg #[.int .u64 0, .int .u64 0, .int .u16 0]) 3 24 Tryz.underlying24 hi hz0 hz1 hz2 rfl (by decide) _ 0 [] rfl HO.out w.heap.size A n a xs rfl HAr.out H1.out (by unfold maxLen; omega) (by omega) hszr ?_); intro v' w3 hown hgr)
          have HB3 := Lib.hid (below_own HBl.out hgr HO.out hszr)
          have HO3 := Lib.hid (show w3.ownsRow w.heap.size 38 3 v' n xs by simpa using hown)
          clear hown hgr
          go_roundw
          case rel => exact .inr (.inl ⟨by simp, HO3, HB3⟩)
          case measure => simp [intOf]
        · have g1 := (HBl.out.cell (p := ⟨g, 1, none⟩) HG.out).trans C1.out
          have HAr := Lib.hid (HB.out.below HBl.out)
          obtain ⟨vA, vc, rfl, _⟩ := own_form HO.out
          have hszr := HBl.out.size
          go_wp2_with (at_builtin; go_loud (refine wpList_append_rd _ rfl (.tmp 31) (.tmp 32) _ rfl w.heap.size 38 i0 (.agg #[.int .u64 0, .int .u64 0, .int .u16 0]) 3 24 Tryz.underlying24 hi hz0 hz1 hz2 rfl (by decide) _ n xs rfl HO.out w.heap.size B m b ys rfl HAr.out H2.out (by unfold maxLen; omega) (by omega) hszr ?_); intro v' w3 hown hgr)
          have HB3 := Lib.hid (below_own HBl.out hgr HO.out hszr)
          have HO3 := Lib.hid hown
          clear hown hgr
          go_roundw
          case rel => exact .inr (.inr ⟨by simp, HO3, HB3⟩)
          case measure => simp [intOf]
        · obtain ⟨vA, vc, rfl, _⟩ := own_form HO.out
          go_wp2
          go_ret
          exact ⟨_, rfl, HO.out, HBl.out⟩
set_option maxRecDepth 100000 in
set_option maxHeartbeats 2000000 in
theorem growReg_ok (n : Nat) (hn : n ≤ 16777216) (w : World) : Calls Tryz.prog 65 #[.slice none 0 0, .int .i64 n] w fun e w' => ∃ v, e = .returned v ∧ w'.ownsRow w.heap.size 40 5 v 0 [] ∧ Below w.heap.size w w' := by
  obtain ⟨i0, hi, hz0, hz1, hz2⟩ := info_parts infoRegion
  by_cases h0 : n = 0
  · subst h0
    go_enter Tryz.func65, Tryz.ntmps65
    go_wp2
    go_ret
    exact ⟨_, rfl, World.ownsRow_nil _ _ _ _, Below.refl _ _⟩
  · have hp : (0 : Int) < (n : Int) := by omega
    obtain ⟨C, W1, hr, hC, hown, hb⟩ := run_grow_nil (P := Tryz.prog) w 25 3 25 40 i0 (.agg #[.int .u64 0, .int .u64 0, .int .u16 0, .int .u8 0, .bool false]) 5 24 Tryz.underlying25 int_und hi hz0 hz1 hz2 rfl (by decide) n (by omega) hn (by decide)
    have HR := Lib.hid hr
    have HO := Lib.hid hown
    have HB := Lib.hid hb
    have hsl := slice_zero (P := Tryz.prog) (t := 25) (sz := 5) Tryz.underlying25 (run_sizeOfC hi hz1) w.heap.size n C hC
    clear hr hown hb h0
    go_enter Tryz.func65, Tryz.ntmps65
    go_wp2_with (at_builtin; go_loud (refine Lib.wpList_append_run _ rfl (.tmp 20) (.tmp 21) _ _ rfl (.slice none 0 0) (.int .i64 n) rfl rfl _ _ HR.out ?_))
    go_ret
    exact ⟨_, rfl, HO.out, HB.out⟩
set_option maxRecDepth 100000 in
set_option maxHeartbeats 4000000 in
theorem concatReg_ok (A B : Option Addr) (n m a b g : Nat) (xs ys : List Value) (w : World) (c0 : w.cell? ⟨g, 0, none⟩ = some (.slice A n a)) (c1 : w.cell? ⟨g, 1, none⟩ = some (.slice B m b)) (hg : g < w.heap.size) (hA : Rd w w.heap.size 5 A n xs) (hB : Rd w w.heap.size 5 B m ys) (h1 : ∀ u ∈ xs, u.oneCell' = true) (h2 : ∀ u ∈ ys, u.oneCell' = true) (hn : n ≤ 4194304) (hm : m ≤ 4194304) :
    Calls Tryz.prog 19 #[.slice (some ⟨g, 0, none⟩) 2 2] w fun e w' => ∃ v, e = .returned v ∧ w'.ownsRow w.heap.size 40 5 v (n + m) (xs ++ ys) ∧ Below w.heap.size w w' := by
  obtain ⟨i0, hi, hz0, hz1, hz2⟩ := info_parts infoRegion
  have HA := Lib.hid hA
  have HB := Lib.hid hB
  have H1 := Lib.hid h1
  have H2 := Lib.hid h2
  have C0 := Lib.hid c0
  have C1 := Lib.hid c1
  have HG := Lib.hid hg
  clear hA hB h1 h2
  go_enter Tryz.func19, Tryz.ntmps19
  go_wp2
  go_loop [3, 11] (fun s i => (s = .int .i64 (0 : Nat) ∧ i = .int .i64 (0 : Nat)) ∨ (s = .int .i64 n ∧ i = .int .i64 (1 : Nat)) ∨ (s = .int .i64 (n + m : Nat) ∧ i = .int .i64 (2 : Nat))) (fun _ i => 2 - (intOf i).toNat)
  case atStart => exact .inl ⟨rfl, rfl⟩
  case round =>
    rcases hrel with ⟨rfl, rfl⟩ | ⟨rfl, rfl⟩ | ⟨rfl, rfl⟩
    · go_wp2
      go_round
      case rel => exact .inr (.inl ⟨by simp, by simp⟩)
      case measure => simp [intOf]
    · go_wp2
      go_round
      case rel => exact .inr (.inr ⟨by simp, by simp⟩)
      case measure => simp [intOf]
    · clear c0 c1 hg
      go_wp2_with fail
      refine (growReg_ok (n + m) (by omega) w).mono ?_
      rintro e w1 ⟨v, rfl, ho, hb⟩
      have HO := Lib.hid ho
      have HBl := Lib.hid hb
      obtain ⟨vA, vc, rfl, _⟩ := own_form ho
      clear ho hb
      go_wp2
      go_loopw [6, 27] (fun s i wr => (i = .int .i64 (0 : Nat) ∧ Hid (wr.ownsRow w.heap.size 40 5 s 0 []) ∧ Hid (Below w.heap.size w wr)) ∨ (i = .int .i64 (1 : Nat) ∧ Hid (wr.ownsRow w.heap.size 40 5 s n xs) ∧ Hid (Below w.heap.size w wr)) ∨ (i = .int .i64 (2 : Nat) ∧ Hid (wr.ownsRow w.heap.size 40 5 s (n + m) (xs ++ ys)) ∧ Hid (Below w.heap.size w wr))) (fun _ i _ => 2 - (intOf i).toNat)
      case atStart => exact .inl ⟨rfl, HO, HBl⟩
      case round =>
        clear HO HBl
        rcases hrel with ⟨rfl, HO, HBl⟩ | ⟨rfl, HO, HBl⟩ | ⟨rfl, HO, HBl⟩
        · have g0 := (HBl.out.cell (p := ⟨g, 0, none⟩) HG.out).trans C0.out
          have HAr := Lib.hid (HA.out.below HBl.out)
          obtain ⟨vA, vc, rfl, _⟩ := own_form HO.out
          have hszr := HBl.out.size
          go_wp2_with (at_builtin; go_loud (refine wpList_append_rd _ rfl (.tmp 31) (.tmp 32) _ rfl w.heap.size 40 i0 (.agg #[.int .u64 0, .int .u64 0, .int .u16 0, .int .u8 0, .bool false]) 5 24 Tryz.underlying25 hi hz0 hz1 hz2 rfl (by decide) _ 0 [] rfl HO.out w.heap.size A n a xs rfl HAr.out H1.out (by unfold maxLen; omega) (by omega) hszr ?_); intro v' w3 hown hgr)
          have HB3 := Lib.hid (below_own HBl.out hgr HO.out hszr)
          have HO3 := Lib.hid (show w3.ownsRow w.heap.size 40 5 v' n xs by simpa using hown)
          clear hown hgr
          go_roundw
          case rel => exact .inr (.inl ⟨by simp, HO3, HB3⟩)
          case measure => simp [intOf]
        · have g1 := (HBl.out.cell (p := ⟨g, 1, none⟩) HG.out).trans C1.out
          have HAr := Lib.hid (HB.out.below HBl.out)
          obtain ⟨vA, vc, rfl, _⟩ := own_form HO.out
          have hszr := HBl.out.size
          go_wp2_with (at_builtin; go_loud (refine wpList_append_rd _ rfl (.tmp 31) (.tmp 32) _ rfl w.heap.size 40 i0 (.agg #[.int .u64 0, .int .u64 0, .int .u16 0, .int .u8 0, .bool false]) 5 24 Tryz.underlying25 hi hz0 hz1 hz2 rfl (by decide) _ n xs rfl HO.out w.heap.size B m b ys rfl HAr.out H2.out (by unfold maxLen; omega) (by omega) hszr ?_); intro v' w3 hown hgr)
          have HB3 := Lib.hid (below_own HBl.out hgr HO.out hszr)
          have HO3 := Lib.hid hown
          clear hown hgr
          go_roundw
          case rel => exact .inr (.inr ⟨by simp, HO3, HB3⟩)
          case measure => simp [intOf]
        · obtain ⟨vA, vc, rfl, _⟩ := own_form HO.out
          go_wp2
          go_ret
          exact ⟨_, rfl, HO.out, HBl.out⟩
set_option maxRecDepth 100000 in
set_option maxHeartbeats 2000000 in
theorem growPrt_ok (n : Nat) (hn : n ≤ 16777216) (w : World) : Calls Tryz.prog 66 #[.slice none 0 0, .int .i64 n] w fun e w' => ∃ v, e = .returned v ∧ w'.ownsRow w.heap.size 43 6 v 0 [] ∧ Below w.heap.size w w' := by
  obtain ⟨i0, hi, hz0, hz1, hz2⟩ := info_parts infoPort
  by_cases h0 : n = 0
  · subst h0
    go_enter Tryz.func66, Tryz.ntmps66
    go_wp2
    go_ret
    exact ⟨_, rfl, World.ownsRow_nil _ _ _ _, Below.refl _ _⟩
  · have hp : (0 : Int) < (n : Int) := by omega
    obtain ⟨C, W1, hr, hC, hown, hb⟩ := run_grow_nil (P := Tryz.prog) w 26 3 26 43 i0 (.agg #[.int .u16 0, .int .u16 0, .string .empty, .bool false, .bool false, .int .u32 0]) 6 32 Tryz.underlying26 int_und hi hz0 hz1 hz2 rfl (by decide) n (by omega) hn (by decide)
    have HR := Lib.hid hr
    have HO := Lib.hid hown
    have HB := Lib.hid hb
    have hsl := slice_zero (P := Tryz.prog) (t := 26) (sz := 6) Tryz.underlying26 (run_sizeOfC hi hz1) w.heap.size n C hC
    clear hr hown hb h0
    go_enter Tryz.func66, Tryz.ntmps66
    go_wp2_with (at_builtin; go_loud (refine Lib.wpList_append_run _ rfl (.tmp 20) (.tmp 21) _ _ rfl (.slice none 0 0) (.int .i64 n) rfl rfl _ _ HR.out ?_))
    go_ret
    exact ⟨_, rfl, HO.out, HB.out⟩
set_option maxRecDepth 100000 in
set_option maxHeartbeats 4000000 in
theorem concatPrt_ok (A B : Option Addr) (n m a b g : Nat) (xs ys : List Value) (w : World) (c0 : w.cell? ⟨g, 0, none⟩ = some (.slice A n a)) (c1 : w.cell? ⟨g, 1, none⟩ = some (.slice B m b)) (hg : g < w.heap.size) (hA : Rd w w.heap.size 6 A n xs) (hB : Rd w w.heap.size 6 B m ys) (h1 : ∀ u ∈ xs, u.oneCell' = true) (h2 : ∀ u ∈ ys, u.oneCell' = true) (hn : n ≤ 4194304) (hm : m ≤ 4194304) :
    Calls Tryz.prog 20 #[.slice (some ⟨g, 0, none⟩) 2 2] w fun e w' => ∃ v, e = .returned v ∧ w'.ownsRow w.heap.size 43 6 v (n + m) (xs ++ ys) ∧ Below w.heap.size w w' := by
  obtain ⟨i0, hi, hz0, hz1, hz2⟩ := info_parts infoPort
  have HA := Lib.hid hA
  have HB := Lib.hid hB
  have H1 := Lib.hid h1
  have H2 := Lib.hid h2
  have C0 := Lib.hid c0
  have C1 := Lib.hid c1
  have HG := Lib.hid hg
  clear hA hB h1 h2
  go_enter Tryz.func20, Tryz.ntmps20
  go_wp2
  go_loop [3, 11] (fun s i => (s = .int .i64 (0 : Nat) ∧ i = .int .i64 (0 : Nat)) ∨ (s = .int .i64 n ∧ i = .int .i64 (1 : Nat)) ∨ (s = .int .i64 (n + m : Nat) ∧ i = .int .i64 (2 : Nat))) (fun _ i => 2 - (intOf i).toNat)
  case atStart => exact .inl ⟨rfl, rfl⟩
  case round =>
    rcases hrel with ⟨rfl, rfl⟩ | ⟨rfl, rfl⟩ | ⟨rfl, rfl⟩
    · go_wp2
      go_round
      case rel => exact .inr (.inl ⟨by simp, by simp⟩)
      case measure => simp [intOf]
    · go_wp2
      go_round
      case rel => exact .inr (.inr ⟨by simp, by simp⟩)
      case measure => simp [intOf]
    · clear c0 c1 hg
      go_wp2_with fail
      refine (growPrt_ok (n + m) (by omega) w).mono ?_
      rintro e w1 ⟨v, rfl, ho, hb⟩
      have HO := Lib.hid ho
      have HBl := Lib.hid hb
      obtain ⟨vA, vc, rfl, _⟩ := own_form ho
      clear ho hb
      go_wp2
      go_loopw [6, 27] (fun s i wr => (i = .int .i64 (0 : Nat) ∧ Hid (wr.ownsRow w.heap.size 43 6 s 0 []) ∧ Hid (Below w.heap.size w wr)) ∨ (i = .int .i64 (1 : Nat) ∧ Hid (wr.ownsRow w.heap.size 43 6 s n xs) ∧ Hid (Below w.heap.size w wr)) ∨ (i = .int .i64 (2 : Nat) ∧ Hid (wr.ownsRow w.heap.size 43 6 s (n + m) (xs ++ ys)) ∧ Hid (Below w.heap.size w wr))) (fun _ i _ => 2 - (intOf i).toNat)
      case atStart => exact .inl ⟨rfl, HO, HBl⟩
      case round =>
        clear HO HBl
        rcases hrel with ⟨rfl, HO, HBl⟩ | ⟨rfl, HO, HBl⟩ | ⟨rfl, HO, HBl⟩
        · have g0 := (HBl.out.cell (p := ⟨g, 0, none⟩) HG.out).trans C0.out
          have HAr := Lib.hid (HA.out.below HBl.out)
          obtain ⟨vA, vc, rfl, _⟩ := own_form HO.out
          have hszr := HBl.out.size
          go_wp2_with (at_builtin; go_loud (refine wpList_append_rd _ rfl (.tmp 31) (.tmp 32) _ rfl w.heap.size 43 i0 (.agg #[.int .u16 0, .int .u16 0, .string .empty, .bool false, .bool false, .int .u32 0]) 6 32 Tryz.underlying26 hi hz0 hz1 hz2 rfl (by decide) _ 0 [] rfl HO.out w.heap.size A n a xs rfl HAr.out H1.out (by unfold maxLen; omega) (by omega) hszr ?_); intro v' w3 hown hgr)
          have HB3 := Lib.hid (below_own HBl.out hgr HO.out hszr)
          have HO3 := Lib.hid (show w3.ownsRow w.heap.size 43 6 v' n xs by simpa using hown)
          clear hown hgr
          go_roundw
          case rel => exact .inr (.inl ⟨by simp, HO3, HB3⟩)
          case measure => simp [intOf]
        · have g1 := (HBl.out.cell (p := ⟨g, 1, none⟩) HG.out).trans C1.out
          have HAr := Lib.hid (HB.out.below HBl.out)
          obtain ⟨vA, vc, rfl, _⟩ := own_form HO.out
          have hszr := HBl.out.size
          go_wp2_with (at_builtin; go_loud (refine wpList_append_rd _ rfl (.tmp 31) (.tmp 32) _ rfl w.heap.size 43 i0 (.agg #[.int .u16 0, .int .u16 0, .string .empty, .bool false, .bool false, .int .u32 0]) 6 32 Tryz.underlying26 hi hz0 hz1 hz2 rfl (by decide) _ n xs rfl HO.out w.heap.size B m b ys rfl HAr.out H2.out (by unfold maxLen; omega) (by omega) hszr ?_); intro v' w3 hown hgr)
          have HB3 := Lib.hid (below_own HBl.out hgr HO.out hszr)
          have HO3 := Lib.hid hown
          clear hown hgr
          go_roundw
          case rel => exact .inr (.inr ⟨by simp, HO3, HB3⟩)
          case measure => simp [intOf]
        · obtain ⟨vA, vc, rfl, _⟩ := own_form HO.out
          go_wp2
          go_ret
          exact ⟨_, rfl, HO.out, HBl.out⟩
set_option maxRecDepth 100000 in
set_option maxHeartbeats 2000000 in
theorem growChn_ok (n : Nat) (hn : n ≤ 16777216) (w : World) : Calls Tryz.prog 67 #[.slice none 0 0, .int .i64 n] w fun e w' => ∃ v, e = .returned v ∧ w'.ownsRow w.heap.size 46 3 v 0 [] ∧ Below w.heap.size w w' := by
  obtain ⟨i0, hi, hz0, hz1, hz2⟩ := info_parts infoChannel
  by_cases h0 : n = 0
  · subst h0
    go_enter Tryz.func67, Tryz.ntmps67
    go_wp2
    go_ret
    exact ⟨_, rfl, World.ownsRow_nil _ _ _ _, Below.refl _ _⟩
  · have hp : (0 : Int) < (n : Int) := by omega
    obtain ⟨C, W1, hr, hC, hown, hb⟩ := run_grow_nil (P := Tryz.prog) w 27 3 27 46 i0 (.agg #[.int .u16 0, .int .u16 0, .slice none 0 0]) 3 32 Tryz.underlying27 int_und hi hz0 hz1 hz2 rfl (by decide) n (by omega) hn (by decide)
    have HR := Lib.hid hr
    have HO := Lib.hid hown
    have HB := Lib.hid hb
    have hsl := slice_zero (P := Tryz.prog) (t := 27) (sz := 3) Tryz.underlying27 (run_sizeOfC hi hz1) w.heap.size n C hC
    clear hr hown hb h0
    go_enter Tryz.func67, Tryz.ntmps67
    go_wp2_with (at_builtin; go_loud (refine Lib.wpList_append_run _ rfl (.tmp 20) (.tmp 21) _ _ rfl (.slice none 0 0) (.int .i64 n) rfl rfl _ _ HR.out ?_))
    go_ret
    exact ⟨_, rfl, HO.out, HB.out⟩
set_option maxRecDepth 100000 in
set_option maxHeartbeats 4000000 in
theorem concatChn_ok (A B : Option Addr) (n m a b g : Nat) (xs ys : List Value) (w : World) (c0 : w.cell? ⟨g, 0, none⟩ = some (.slice A n a)) (c1 : w.cell? ⟨g, 1, none⟩ = some (.slice B m b)) (hg : g < w.heap.size) (hA : Rd w w.heap.size 3 A n xs) (hB : Rd w w.heap.size 3 B m ys) (h1 : ∀ u ∈ xs, u.oneCell' = true) (h2 : ∀ u ∈ ys, u.oneCell' = true) (hn : n ≤ 4194304) (hm : m ≤ 4194304) :
    Calls Tryz.prog 21 #[.slice (some ⟨g, 0, none⟩) 2 2] w fun e w' => ∃ v, e = .returned v ∧ w'.ownsRow w.heap.size 46 3 v (n + m) (xs ++ ys) ∧ Below w.heap.size w w' := by
  obtain ⟨i0, hi, hz0, hz1, hz2⟩ := info_parts infoChannel
  have HA := Lib.hid hA
  have HB := Lib.hid hB
  have H1 := Lib.hid h1
  have H2 := Lib.hid h2
  have C0 := Lib.hid c0
  have C1 := Lib.hid c1
  have HG := Lib.hid hg
  clear hA hB h1 h2
  go_enter Tryz.func21, Tryz.ntmps21
  go_wp2
  go_loop [3, 11] (fun s i => (s = .int .i64 (0 : Nat) ∧ i = .int .i64 (0 : Nat)) ∨ (s = .int .i64 n ∧ i = .int .i64 (1 : Nat)) ∨ (s = .int .i64 (n + m : Nat) ∧ i = .int .i64 (2 : Nat))) (fun _ i => 2 - (intOf i).toNat)
  case atStart => exact .inl ⟨rfl, rfl⟩
  case round =>
    rcases hrel with ⟨rfl, rfl⟩ | ⟨rfl, rfl⟩ | ⟨rfl, rfl⟩
    · go_wp2
      go_round
      case rel => exact .inr (.inl ⟨by simp, by simp⟩)
      case measure => simp [intOf]
    · go_wp2
      go_round
      case rel => exact .inr (.inr ⟨by simp, by simp⟩)
      case measure => simp [intOf]
    · clear c0 c1 hg
      go_wp2_with fail
      refine (growChn_ok (n + m) (by omega) w).mono ?_
      rintro e w1 ⟨v, rfl, ho, hb⟩
      have HO := Lib.hid ho
      have HBl := Lib.hid hb
      obtain ⟨vA, vc, rfl, _⟩ := own_form ho
      clear ho hb
      go_wp2
      go_loopw [6, 27] (fun s i wr => (i = .int .i64 (0 : Nat) ∧ Hid (wr.ownsRow w.heap.size 46 3 s 0 []) ∧ Hid (Below w.heap.size w wr)) ∨ (i = .int .i64 (1 : Nat) ∧ Hid (wr.ownsRow w.heap.size 46 3 s n xs) ∧ Hid (Below w.heap.size w wr)) ∨ (i = .int .i64 (2 : Nat) ∧ Hid (wr.ownsRow w.heap.size 46 3 s (n + m) (xs ++ ys)) ∧ Hid (Below w.heap.size w wr))) (fun _ i _ => 2 - (intOf i).toNat)
      case atStart => exact .inl ⟨rfl, HO, HBl⟩
      case round =>
        clear HO HBl
        rcases hrel with ⟨rfl, HO, HBl⟩ | ⟨rfl, HO, HBl⟩ | ⟨rfl, HO, HBl⟩
        · have g0 := (HBl.out.cell (p := ⟨g, 0, none⟩) HG.out).trans C0.out
          have HAr := Lib.hid (HA.out.below HBl.out)
          obtain ⟨vA, vc, rfl, _⟩ := own_form HO.out
          have hszr := HBl.out.size
          go_wp2_with (at_builtin; go_loud (refine wpList_append_rd _ rfl (.tmp 31) (.tmp 32) _ rfl w.heap.size 46 i0 (.agg #[.int .u16 0, .int .u16 0, .slice none 0 0]) 3 32 Tryz.underlying27 hi hz0 hz1 hz2 rfl (by decide) _ 0 [] rfl HO.out w.heap.size A n a xs rfl HAr.out H1.out (by unfold maxLen; omega) (by omega) hszr ?_); intro v' w3 hown hgr)
          have HB3 := Lib.hid (below_own HBl.out hgr HO.out hszr)
          have HO3 := Lib.hid (show w3.ownsRow w.heap.size 46 3 v' n xs by simpa using hown)
          clear hown hgr
          go_roundw
          case rel => exact .inr (.inl ⟨by simp, HO3, HB3⟩)
          case measure => simp [intOf]
        · have g1 := (HBl.out.cell (p := ⟨g, 1, none⟩) HG.out).trans C1.out
          have HAr := Lib.hid (HB.out.below HBl.out)
          obtain ⟨vA, vc, rfl, _⟩ := own_form HO.out
          have hszr := HBl.out.size
          go_wp2_with (at_builtin; go_loud (refine wpList_append_rd _ rfl (.tmp 31) (.tmp 32) _ rfl w.heap.size 46 i0 (.agg #[.int .u16 0, .int .u16 0, .slice none 0 0]) 3 32 Tryz.underlying27 hi hz0 hz1 hz2 rfl (by decide) _ n xs rfl HO.out w.heap.size B m b ys rfl HAr.out H2.out (by unfold maxLen; omega) (by omega) hszr ?_); intro v' w3 hown hgr)
          have HB3 := Lib.hid (below_own HBl.out hgr HO.out hszr)
          have HO3 := Lib.hid hown
          clear hown hgr
          go_roundw
          case rel => exact .inr (.inr ⟨by simp, HO3, HB3⟩)
          case measure => simp [intOf]
        · obtain ⟨vA, vc, rfl, _⟩ := own_form HO.out
          go_wp2
          go_ret
          exact ⟨_, rfl, HO.out, HBl.out⟩
end Go.Proofs.YtldchpmilknlmaaGreat
namespace Go.Proofs.YtldchpmilknlmaaGreat
open Go.RowKit Go.Lib
attribute [local go_sem] ext_cell
/-- the same configuration but for the order of records and of destinations -/
structure Shuf (x c : Cfg) : Prop where
  frame : x.frame = c.frame
  parts : x.parts.Perm c.parts
  wins : x.wins.Perm c.wins
  regs : x.regs.Perm c.regs
  ports : x.ports.Perm c.ports
  chans : (x.chans.map sortD).Perm (c.chans.map sortD)
theorem normK_perm_eq {α : Type} (key : α → List Int) (hinj : ∀ x y, key x = key y → x = y) {l m : List α} (h : l.Perm m) : normK key l = normK key m :=
  normK_unique key hinj ((normK_perm key l).trans h) (normK_asc key l)
theorem Shuf.norm {x c : Cfg} (h : Shuf x c) : x.norm = c.norm := by
  unfold Cfg.norm
  rw [h.frame, normK_perm_eq keyPar (fun _ _ => keyPar_inj) h.parts, normK_perm_eq keyWin (fun _ _ => keyWin_inj) h.wins, normK_perm_eq keyReg (fun _ _ => keyReg_inj) h.regs, normK_perm_eq keyPrt (fun _ _ => keyPrt_inj) h.ports, normK_perm_eq keyChn (fun _ _ => keyChn_inj) h.chans]
theorem sortD_mem {x : Chn} {d : Int} : d ∈ (sortD x).dests ↔ d ∈ x.dests := (List.mergeSort_perm _ _).mem_iff
theorem Shuf.ok {x c : Cfg} (h : Shuf x c) (hc : c.ok) : x.ok := by
  refine ⟨by rw [h.frame]; exact hc.frame, fun p hp => hc.parts p (h.parts.mem_iff.1 hp), fun p hp => hc.wins p (h.wins.mem_iff.1 hp), fun p hp => hc.regs p (h.regs.mem_iff.1 hp), fun p hp => hc.ports p (h.ports.mem_iff.1 hp), fun p hp => ?_⟩
  obtain ⟨y, hy, he⟩ := List.mem_map.1 (h.chans.mem_iff.1 (List.mem_map.2 ⟨p, hp, rfl⟩))
  have hok := hc.chans y hy
  have e1 : (sortD y).id = (sortD p).id := congrArg Chn.id he
  have e2 : (sortD y).source = (sortD p).source := congrArg Chn.source he
  exact ⟨(show y.id = p.id from e1) ▸ hok.id, (show y.source = p.source from e2) ▸ hok.source, fun d hd => hok.dests d (sortD_mem.1 (he ▸ sortD_mem.2 hd))⟩
theorem Shuf.sum {x c : Cfg} (h : Shuf x c) : sumDests x.chans = sumDests c.chans := by
  rw [← sumDests_sort x.chans, ← sumDests_sort c.chans]
  exact sumDests_perm h.chans
theorem Shuf.len {x c : Cfg} (h : Shuf x c) : x.chans.length = c.chans.length := by have := h.chans.length_eq; simpa using this
theorem Shuf.small {x c : Cfg} (h : Shuf x c) (hc : c.small) : x.small := by
  refine ⟨?_, fun p hp => hc.pnames p (h.parts.mem_iff.1 hp), fun p hp => hc.tnames p (h.ports.mem_iff.1 hp)⟩
  have := hc.total
  unfold Cfg.total at this ⊢
  rw [h.parts.length_eq, h.wins.length_eq, h.regs.length_eq, h.ports.length_eq, h.len, h.sum]
  exact this
section
variable {B g : Nat} {W3 W V : World} {F : Int} {v1 v2 v3 v4 v5 v' : Value} {P P' : List Par} {N N' : List Win} {R R' : List Reg} {T T' : List Prt} {L L' : List CE}
theorem YSt.mv5 (h : YSt B g W3 W F v1 v2 v3 v4 v5 P N R T L) (hb : Below B W V) (hof : Off 46 W V) (ho : V.ownsRow B 46 3 v5 L'.length (L'.flatMap CE.cells)) (hp : L'.Perm L) : YSt B g W3 V F v1 v2 v3 v4 v5 P N R T L' :=
  ⟨h.bel.trans hb, h.hg, Nat.le_trans h.hB hb.size, h.box.off hof (by decide), own_off h.o1 hof (by decide), own_off h.o2 hof (by decide), own_off h.o3 hof (by decide), own_off h.o4 hof (by decide), ho, (h.ch.off hof (by decide)).perm hp⟩
theorem YSt.put2 (h : YSt B g W3 W F v1 v2 v3 v4 v5 P N R T L) (hb : Below W.heap.size W V) (ho : V.ownsRow W.heap.size 38 3 v' N'.length (N'.flatMap Win.cells)) : YSt B g W3 (V.setCell ⟨g, 2, none⟩ v') F v1 v' v3 v4 v5 P N' R T L := by
  have hb1 := Lib.hid (h.box.below hb h.box.lt)
  have ho := own_lessC ho h.hB
  refine ⟨(h.bel.trans (hb.mono h.hB)).setCell h.hg _, h.hg, by have := h.hB; have := hb.size; simp; omega, ?_, own_far (own_below h.o1 hb) (p := ⟨g, 2, none⟩) (hb1.out) (by decide) _, own_far ho (p := ⟨g, 2, none⟩) (hb1.out) (by decide) _, own_far (own_below h.o3 hb) (p := ⟨g, 2, none⟩) (hb1.out) (by decide) _, own_far (own_below h.o4 hb) (p := ⟨g, 2, none⟩) (hb1.out) (by decide) _, own_far (own_below h.o5 hb) (p := ⟨g, 2, none⟩) (hb1.out) (by decide) _, (h.ch.below hb).far (p := ⟨g, 2, none⟩) hb1.out (by decide) _⟩
  have := hb1.out.set_ 2 v'
  simpa using this
theorem YSt.put4 (h : YSt B g W3 W F v1 v2 v3 v4 v5 P N R T L) (hb : Below W.heap.size W V) (ho : V.ownsRow W.heap.size 43 6 v' T'.length (T'.flatMap Prt.cells)) : YSt B g W3 (V.setCell ⟨g, 4, none⟩ v') F v1 v2 v3 v' v5 P N R T' L := by
  have hb1 := Lib.hid (h.box.below hb h.box.lt)
  have ho := own_lessC ho h.hB
  refine ⟨(h.bel.trans (hb.mono h.hB)).setCell h.hg _, h.hg, by have := h.hB; have := hb.size; simp; omega, ?_, own_far (own_below h.o1 hb) (p := ⟨g, 4, none⟩) (hb1.out) (by decide) _, own_far (own_below h.o2 hb) (p := ⟨g, 4, none⟩) (hb1.out) (by decide) _, own_far (own_below h.o3 hb) (p := ⟨g, 4, none⟩) (hb1.out) (by decide) _, own_far ho (p := ⟨g, 4, none⟩) (hb1.out) (by decide) _, own_far (own_below h.o5 hb) (p := ⟨g, 4, none⟩) (hb1.out) (by decide) _, (h.ch.below hb).far (p := ⟨g, 4, none⟩) hb1.out (by decide) _⟩
  have := hb1.out.set_ 4 v'
  simpa using this
/-- the destinations of one channel in the other order -/
theorem YSt.revD {k : Nat} {e : CE} (h : YSt B g W3 W F v1 v2 v3 v4 v5 P N R T L) (hk : L[k]? = some e) (ho : V.ownsRow B 34 1 e.v e.x.dests.reverse.length (e.x.dests.reverse.map (Value.int .u16))) (hg : W.grownBy V e.v.ownBlock) : YSt B g W3 V F v1 v2 v3 v4 v5 P N R T (L.set k ⟨{ e.x with dests := e.x.dests.reverse }, e.A, e.c⟩) := by
  have ho1 := h.ch.own _ (List.mem_of_getElem? hk)
  have hv : CE.v ⟨{ e.x with dests := e.x.dests.reverse }, e.A, e.c⟩ = e.v := by simp [CE.v]
  refine h.mvD (below_own (Below.refl B W) hg ho1 h.hB) (Off.of_own ho1 hg) (by simp) (set_cells hk (by unfold CE.cells; rw [hv])) (h.ch.turn hk hv ?_ hg)
  rw [hv]
  exact ho
theorem YSt.cfg {A1 A2 A3 A4 A5 : Option Addr} {n1 n2 n3 n4 n5 c1 c2 c3 c4 c5 : Nat} {x : Cfg} (h : YSt B g W3 W F (.slice A1 n1 c1) (.slice A2 n2 c2) (.slice A3 n3 c3) (.slice A4 n4 c4) (.slice A5 n5 c5) P N R T L) (hx : x = ⟨F, P, N, R, T, L.map (·.x)⟩) (e1 : n1 = x.parts.length) (e2 : n2 = x.wins.length) (e3 : n3 = x.regs.length) (e4 : n4 = x.ports.length) (e5 : n5 = x.chans.length) : CBx W g x A1 A2 A3 A4 A5 c1 c2 c3 c4 c5 := by
  subst hx
  subst e1 e2 e3 e4 e5
  have hl : (L.map (·.x)).length = L.length := by simp
  obtain ⟨q1, r1⟩ := own_slice h.o1
  obtain ⟨q2, r2⟩ := own_slice h.o2
  obtain ⟨q3, r3⟩ := own_slice h.o3
  obtain ⟨q4, r4⟩ := own_slice h.o4
  have h5 := h.o5
  simp only [hl] at h5
  obtain ⟨q5, r5⟩ := own_slice h5
  have y0 := h.box.cell 0
  have y1 := h.box.cell 1
  have y2 := h.box.cell 2
  have y3 := h.box.cell 3
  have y4 := h.box.cell 4
  have y5 := h.box.cell 5
  simp only [List.getElem?_toArray, List.getElem?_cons_zero, List.getElem?_cons_succ] at y0 y1 y2 y3 y4 y5
  exact ⟨⟨r1, r2, r3, r4, ⟨L.flatMap CE.cells, DO.chns h.ch.own, by show Rd W W.heap.size 3 A5 (L.map (·.x)).length _; rw [hl]; exact r5⟩, q1, q2, q3, q4, by show (L.map (·.x)).length ≤ c5 ∧ c5 ≤ maxLen; rw [hl]; exact q5⟩, y0, y1, y2, y3, y4, y5, h.box.lt⟩
end
theorem sortD_rev (x : Chn) : sortD { x with dests := x.dests.reverse } = sortD x := by
  unfold sortD
  have hp : (x.dests.reverse.mergeSort (fun a b => decide (a ≤ b))).Perm (x.dests.mergeSort (fun a b => decide (a ≤ b))) := (List.mergeSort_perm _ _).trans ((List.reverse_perm _).trans (List.mergeSort_perm _ _).symm)
  have hs : ∀ l : List Int, (l.mergeSort (fun a b => decide (a ≤ b))).Pairwise (fun a b => a ≤ b) := fun l => (List.pairwise_mergeSort (le := fun a b : Int => decide (a ≤ b)) (fun a b c h1 h2 => by simp at *; omega) (fun a b => by simp; omega) l).imp fun h => by simpa using h
  have he := List.Perm.eq_of_pairwise (fun a b _ _ h1 h2 => Int.le_antisymm h1 h2) (hs _) (hs _) hp
  simp only [he]
theorem rot_perm {α : Type} (l : List α) (r : Nat) : (l.drop r ++ l.take r).Perm l := by
  have := List.perm_append_comm (l₁ := l.drop r) (l₂ := l.take r)
  rwa [List.take_append_drop] at this
theorem flat_drop {α : Type} (f : α → List Value) (sz : Nat) (hf : ∀ x, (f x).length = sz) (l : List α) (m : Nat) : (l.flatMap f).drop (m * sz) = (l.drop m).flatMap f := by
  induction l generalizing m with
  | nil => simp
  | cons x r ih =>
    cases m with
    | zero => simp
    | succ m => rw [List.flatMap_cons, List.drop_append, hf, List.drop_of_length_le (by rw [hf, Nat.succ_mul]; omega), Nat.succ_mul, show m * sz + sz - sz = m * sz by omega, ih]; simp
theorem flat_take {α : Type} (f : α → List Value) (sz : Nat) (hf : ∀ x, (f x).length = sz) (l : List α) (m : Nat) : (l.flatMap f).take (m * sz) = (l.take m).flatMap f := by
  induction l generalizing m with
  | nil => simp
  | cons x r ih =>
    cases m with
    | zero => simp
    | succ m => rw [List.flatMap_cons, List.take_append, hf, List.take_of_length_le (by rw [hf, Nat.succ_mul]; omega), Nat.succ_mul, show m * sz + sz - sz = m * sz by omega, ih]; simp
theorem elem_wins : Tryz.prog.elem 24 = 38 := by kernel_rfl
theorem elem_prts : Tryz.prog.elem 26 = 43 := by kernel_rfl
end Go.Proofs.YtldchpmilknlmaaGreat
